/- Part 13 of 17 of a proof: see the last part. -/
import Derived.Test.YtbpgkkoeehopjaaGreatP7
import Derived.Test.YtbpgkkoeehopjaaGreatP11
import Derived.Test.YtbpgkkoeehopjaaGreatP12
import Derived.Deep.QuietTactic
import Derived.BigQuiet
set_option linter.unusedVariables false
set_option linter.unusedSimpArgs false
namespace Go.Proofs.YtbpgkkoeehopjaaGreat.hp
open Go.RowKit words enc tree gram lex rd dec dat held ty
section
variable {w0 w w' K K' : World} {M : List Ent}
theorem Hp.rotAt (C A B:List Ent) (H:Hp w0 w K (C++(A++(B++M)))):Hp w0 w K (C++(B++(A++M))):=
 H.perm (List.Perm.append_left C (by rw [←Qat,←Qat];exact (List.perm_append_comm).append_right M))
def Bst (g ga gd gf go:Nat) (ts ds:List DefD) (w0 w K:World) (M:List Ent):Prop:=
 ∃TS VT VD xD,ts=TS.map (·.1)∧tok K TS∧RL K (y0q ds) xD∧
  Hp w0 w K (tbox g ga gd gf go VT VD:: .map ga (y06 (nmap (y0a ts))):: .row 43 17 VT ts.length (y1b TS):: .map gd (y06 (nmap (y0a ds))):: .row 43 17 VD ds.length xD::(y1i TS++M))
theorem x6c {l:List DefD} {d:DefD} {xs ys:List Value} (h:RL K (y0q l) xs) (h':RL K (defL d) ys):RL K (y0q (l++[d])) (xs++ys):=by
 have:y0q (l++[d])=y0q l++defL d:=by simp [y0q]
 rw [this];exact h.app h'
theorem x1z (d:DefD) (cs:Array Value) (g ga gd gf go:Nat) (ts ds:List DefD) (H:Bst g ga gd gf go ts ds w0 w K M) (hd:RL K (defL d) cs.toList) (hm:defN d≤9000000) (hk:ts.length≤9000000):
  Calls Tryz.prog 59 #[.pointer (some ⟨g,0,none⟩),.agg cs] w fun e w'=>∃K',e= .returned (.tuple #[])∧Sat K' K∧Bst g ga gd gf go (addD ts d) ds w0 w' K' M:=by
 obtain ⟨TS,VT,VD,xD,hts,hok,hxD,H⟩:=H;have hlen:(y0a ts).length=ts.length:=Qay ..;by_cases hin:d.name∈y0a ts
 ·refine (x1v d cs (y0a ts) g ga gd gf go VT VD w0 w K _ H hd hin).mono ?_;rintro e w' ⟨rfl,H⟩;have hadd:addD ts d=ts:=if_pos hin;rw [hadd];exact ⟨K,rfl,Sat.refl K,TS,VT,VD,xD,hts,hok,hxD,H⟩
 ·have H1:Hp w0 w K (tbox g ga gd gf go VT VD:: .map ga (y06 (nmap (y0a ts))):: .row 43 17 VT (y0a ts).length (y1b TS)::(.map gd (y06 (nmap (y0a ds))):: .row 43 17 VD ds.length xD::(y1i TS++M))):=by rw [hlen];exact H
  refine (x1w d cs (y0a ts) g ga gd gf go VT VD (y1b TS) w0 w K _ H1 hd hin hm (by omega)).mono ?_;rintro e w' ⟨K',V,VT',rfl,hle,H2,hV⟩;have hadd:addD ts d=ts++[d]:=if_neg hin;rw [hadd];refine ⟨K',rfl,hle,TS++[(d,V)],VT',VD,xD,by rw [Qas,←hts];rfl,?_,hxD.sat hle,?_⟩
  ·intro p hp;rcases Qbf.1 hp with hp|hp
   ·exact (hok p hp).sat hle
   ·obtain rfl:=Qax.1 hp;exact hV
  ·have H3:=Hp.rotAt [tbox g ga gd gf go VT' VD,.map ga (y06 (nmap (y0a ts++[d.name]))),.row 43 17 VT' ((y0a ts).length+1) (y1b TS++DV.cells d V)] (DV.rows d V) (.map gd (y06 (nmap (y0a ds))):: .row 43 17 VD ds.length xD::y1i TS) (M:=M) H2
   have e1:y1b (TS++[(d,V)])=y1b TS++DV.cells d V:=by rw [z1m];simp [y1b]
   have e2:y1i (TS++[(d,V)])=y1i TS++DV.rows d V:=by rw [z9p];simp [y1i]
   have e3:y0a (ts++[d])=y0a ts++[d.name]:=by simp [y0a]
   have e4:(ts++[d]).length=(y0a ts).length+1:=by rw [hlen];simp
   rw [e1,e2,e3,e4,Qat];exact H3
theorem x6d (d:DefD) (cs:Array Value) (g ga gd gf go:Nat) (ts ds:List DefD) (H:Bst g ga gd gf go ts ds w0 w K M) (hd:RL K (defL d) cs.toList) (hm:defN d≤9000000) (hk:ds.length≤9000000):
  Calls Tryz.prog 58 #[.pointer (some ⟨g,0,none⟩),.agg cs] w fun e w'=>∃K',e= .returned (.tuple #[])∧Sat K' K∧Bst g ga gd gf go ts (addD ds d) w0 w' K' M:=by
 obtain ⟨TS,VT,VD,xD,hts,hok,hxD,H⟩:=H;have hlen:(y0a ds).length=ds.length:=Qay ..
 have H1:Hp w0 w K (tbox g ga gd gf go VT VD:: .map gd (y06 (nmap (y0a ds))):: .row 43 17 VD (y0a ds).length xD::(.map ga (y06 (nmap (y0a ts))):: .row 43 17 VT ts.length (y1b TS)::(y1i TS++M))):=by
  rw [hlen];exact Hp.rotAt [tbox g ga gd gf go VT VD] [.map ga (y06 (nmap (y0a ts))),.row 43 17 VT ts.length (y1b TS)] [.map gd (y06 (nmap (y0a ds))),.row 43 17 VD ds.length xD] (M:=y1i TS++M) H
 by_cases hin:d.name∈y0a ds
 ·refine (x58 d cs (y0a ds) g ga gd gf go VT VD w0 w K _ H1 hd hin).mono ?_;rintro e w' ⟨rfl,H⟩;have hadd:addD ds d=ds:=if_pos hin;rw [hadd];refine ⟨K,rfl,Sat.refl K,TS,VT,VD,xD,hts,hok,hxD,?_⟩;rw [hlen] at H;exact Hp.rotAt [tbox g ga gd gf go VT VD] [.map gd (y06 (nmap (y0a ds))),.row 43 17 VD ds.length xD] [.map ga (y06 (nmap (y0a ts))),.row 43 17 VT ts.length (y1b TS)] (M:=y1i TS++M) H
 ·refine (x59 d cs (y0a ds) g ga gd gf go VT VD xD w0 w K _ H1 hd hin hm (by omega)).mono ?_;rintro e w' ⟨K',xs,VD',rfl,hle,H2,hxs⟩;have hadd:addD ds d=ds++[d]:=if_neg hin;rw [hadd];refine ⟨K',rfl,hle,TS,VT,VD',xD++xs,hts,hok.sat hle,x6c (hxD.sat hle) hxs,?_⟩
  have e3:y0a (ds++[d])=y0a ds++[d.name]:=by simp [y0a]
  have e4:(ds++[d]).length=(y0a ds).length+1:=by rw [hlen];simp
  rw [e3,e4];exact Hp.rotAt [tbox g ga gd gf go VT VD'] [.map gd (y06 (nmap (y0a ds++[d.name]))),.row 43 17 VD' ((y0a ds).length+1) (xD++xs)] [.map ga (y06 (nmap (y0a ts))),.row 43 17 VT ts.length (y1b TS)] (M:=y1i TS++M) H2
end
def y1x (OB:List (Txt×Nat×List (Txt×Value))):List Ent:=OB.map fun p=>.map p.2.1 (y06 p.2.2)
def y15 (OB:List (Txt×Nat×List (Txt×Value))):List (Txt×Value):=OB.map fun p=>(p.1,.map (some p.2.1))
def omap (OB:List (Txt×Nat×List (Txt×Value))):OMap:=OB.map fun p=>(p.1,p.2.2)
def Ost (go:Nat) (om:OMap) (w0 w K:World) (M:List Ent):Prop:=∃OB,om=omap OB∧Hp w0 w K (.map go (y06 (y15 OB))::(y1x OB++M))
theorem z56 (x:Txt): ∀OB:List (Txt×Nat×List (Txt×Value)),(y0x (y15 OB) x=none∧ ∀n m,addO (omap OB) x n m=omap OB++[(x,[(n,.int .i64 (m:Int))])])∨ ∃A b s B,OB=A++(x,b,s)::B∧y0x (y15 OB) x=some (.map (some b))∧ ∀n m,addO (omap OB) x n m=omap A++(x,z0s s n m)::omap B
 |[]=>.inl ⟨rfl,fun _ _=>rfl⟩
 |p::r=>by
  by_cases h:p.1=x
  ·obtain ⟨a,b,s⟩:=p;simp only at h;subst h;exact .inr ⟨[],b,s,r,rfl,by simp [y0x,y15],fun n m=>by simp [addO,omap]⟩
  ·have hk:y0x (y15 (p::r)) x=y0x (y15 r) x:=by simp [y0x,y15,h]
   have ha: ∀n m,addO (omap (p::r)) x n m=(p.1,p.2.2)::addO (omap r) x n m:=fun n m=>by simp [addO,omap,h]
   rcases z56 x r with ⟨h1,h2⟩|⟨A,b,s,B,rfl,h1,h2⟩
   ·exact .inl ⟨hk.trans h1,fun n m=>by rw [ha,h2];simp [omap]⟩
   ·exact .inr ⟨p::A,b,s,B,rfl,hk.trans h1,fun n m=>by rw [ha,h2];simp [omap]⟩
structure TysD where
 schema:DefD
 types:List DefD
 dirs:List DefD
 fields:FMap
 objects:OMap
def y3x (defs:List DefD):TysD:=⟨y27 defs (y02 defs),y02 defs,y33 defs,fieldsOf (y02 defs),z4i (y02 defs)⟩
structure TyA (K:World) (g ga gd gf go:Nat) (sch:List Value) (VT VD:Value) (s:DefD) (ts ds:List DefD):Prop where
 box:Kb K g (sch++[VT,.map (some ga),VD,.map (some gd),.map (some gf),.map (some go)]) 91
 sch:RL K (defL s) sch
 types:RD K (.list ts.length (y0q ts)) VT
 dirs:RD K (.list ds.length (y0q ds)) VD
 at_:Km K ga (y00 ks (nmap (y0a ts)))
 dirAt:Km K gd (y00 ks (nmap (y0a ds)))
theorem ty_c {sch:List Value} (h:sch.length=17) (l:List Value) (k:Nat):(sch++l)[17+k]?=l[k]?:=by
 rw [Qba (by omega),h];congr 1;omega
section
variable {K K' : World} {g ga gd gf go : Nat} {sch : List Value} {VT VD : Value} {s : DefD} {ts ds : List DefD}
theorem TyA.len (h:TyA K g ga gd gf go sch VT VD s ts ds):sch.length=17:=h.sch.len
theorem TyA.c17 (h:TyA K g ga gd gf go sch VT VD s ts ds):(sch++[VT,.map (some ga),VD,.map (some gd),.map (some gf),.map (some go)])[17]?=some VT:=ty_c h.len _ 0
theorem TyA.c18 (h:TyA K g ga gd gf go sch VT VD s ts ds):(sch++[VT,.map (some ga),VD,.map (some gd),.map (some gf),.map (some go)])[18]?=some (.map (some ga)):=ty_c h.len _ 1
theorem TyA.c21 (h:TyA K g ga gd gf go sch VT VD s ts ds):(sch++[VT,.map (some ga),VD,.map (some gd),.map (some gf),.map (some go)])[21]?=some (.map (some gf)):=ty_c h.len _ 4
theorem TyA.c22 (h:TyA K g ga gd gf go sch VT VD s ts ds):(sch++[VT,.map (some ga),VD,.map (some gd),.map (some gf),.map (some go)])[22]?=some (.map (some go)):=ty_c h.len _ 5
theorem TyA.sat (h:TyA K g ga gd gf go sch VT VD s ts ds) (hs:Sat K' K):TyA K' g ga gd gf go sch VT VD s ts ds:=
 ⟨h.box.sat hs,h.sch.sat hs,h.types.sat hs,h.dirs.sat hs,h.at_.sat hs,h.dirAt.sat hs⟩
end
structure Tys (K:World) (g:Nat) (D:TysD) (ga gd gf go:Nat) (sch:List Value) (VT VD:Value) (OB:List (Txt×Nat×List (Txt×Value))):Prop where
 a:TyA K g ga gd gf go sch VT VD D.schema D.types D.dirs
 fields:Km K gf (y00 kp D.fields)
 objects:Km K go (y00 ks (y15 OB))
 om:D.objects=omap OB
 sets: ∀p∈OB,Km K p.2.1 (y00 ks p.2.2)
def TysK (K:World) (g:Nat) (D:TysD):Prop:=∃ga gd gf go sch VT VD OB,Tys K g D ga gd gf go sch VT VD OB
section
variable {K K' : World} {g : Nat} {D : TysD}
theorem Tys.sat {ga gd gf go:Nat} {sch:List Value} {VT VD:Value} {OB:List (Txt×Nat×List (Txt×Value))} (h:Tys K g D ga gd gf go sch VT VD OB) (hs:Sat K' K):Tys K' g D ga gd gf go sch VT VD OB:=
 ⟨h.a.sat hs,h.fields.sat hs,h.objects.sat hs,h.om,fun p hp=>(h.sets p hp).sat hs⟩
theorem TysK.sat (h:TysK K g D) (hs:Sat K' K):TysK K' g D:=by
 obtain ⟨ga,gd,gf,go,sch,VT,VD,OB,h⟩:=h;exact ⟨ga,gd,gf,go,sch,VT,VD,OB,h.sat hs⟩
end
set_option maxRecDepth 100000
attribute [local go_sem ↓] Go.wp_at_zero Go.wp_at_succ
theorem q0e (l:List (Txt×Value)) (x:Txt):y0x l x=y5i l x:=by
 have e1:(fun p:Txt×Value=>p.1==x)=fun p=>decide (p.1=x):=by funext p;rw [Bool.eq_iff_iff];simp
 unfold y0x y5i;rw [e1]
theorem y12 (ts:List DefD) (x:Txt):y0x (nmap (y0a ts)) x=(y1k ts x).map fun i=>.int .i64 ((i:Nat):Int):=(q0e _ x).trans (z0q (y0a ts) x)
theorem y4x {ts:List DefD} {x:Txt} {i:Nat} (h:y1k ts x=some i):i<ts.length:=by
 obtain ⟨d,hd,_⟩:=y1p h;exact (Qac.1 hd).1
section
variable {K : World} {g ga gd gf go : Nat} {sch : List Value} {VT VD : Value} {s : DefD} {ts ds : List DefD}
theorem y4h {n:Nat} {l:List Leaf} {v:Value} (h:RD K (.list n l) v): ∃A c,v= .slice A n c∧n≤c∧c≤maxLen:=by
 obtain ⟨A,c,vs,h1,h2,h3,_⟩:=y0m h.reads;exact ⟨A,c,h1,h2,h3⟩
theorem y2r {α:Type} {f:α→List Leaf} {m n c k:Nat} {A:Option Addr} {l:List α} {x:α} (hf: ∀x,(f x).length=m) (h:RD K (.list n (l.flatMap f)) (.slice A n c)) (hk:l[k]?=some x) (hm:0<m):
  ∃ad vs,A=some ad∧RL K (f x) vs∧vs.length=m∧At K (ad.add (k*m)) vs:=by
 obtain ⟨ad,vs,h1,h2,h3,_,h5,h6⟩:=y7u hf h hk hm;exact ⟨ad,vs,h1,h2,h3,⟨h5,h6⟩⟩
end
set_option maxHeartbeats 4000000 in
theorem q6j (x:Txt) (g ga gd gf go:Nat) (sch:List Value) (VT VD:Value) (s:DefD) (ts ds:List DefD) (w0 w K:World) (M:List Ent) (H:Hp w0 w K M) (T:TyA K g ga gd gf go sch VT VD s ts ds):
  Calls Tryz.prog 79 #[.pointer (some ⟨g,0,none⟩),.string (str x)] w fun e w'=>e= .returned (.int .i64 (y0l ts x))∧Hp w0 w' K M:=by
 have hq:=y12 ts x;have h18:=T.c18
 cases hi:y1k ts x with
 |none=>
  rw [hi] at hq;have hk:y0l ts x=0:=y9y hi;go_enter Tryz.func79,Tryz.ntmps79;have cf1:(w).cell? ⟨g,18,none⟩=some (.map (some ga)):=H.kcell T.box h18
  go_upto_region 2 with (first
   |(refine y1a (by rfl) (.tmp 11) (.tmp 12) 87 true (by rfl) Tryz.underlying87 (y08 Tryz.underlying9) (.int .i64 0) y0j ga (nmap (y0a ts)) (H.kmap T.at_) (by first|rfl|simp [Act.eval,Act.put]) (x) (by first|rfl|simp [Act.eval,Act.put]) (.tuple #[.int .i64 0,.bool false]) (by rw [hq];rfl) ?_))
  go_wp2_with fail
  go_ret;exact ⟨by rw [hk];rfl,H⟩
 |some i=>
  rw [hi] at hq;obtain ⟨d,hd,-⟩:=y1p hi;have hlt:=y4x hi;have hk:y0l ts x=d.kind:=y9x hi hd;obtain ⟨A,c,rfl,hc1,hc2⟩:=y4h T.types;obtain ⟨ad,vs,rfl,hxd,_,hat⟩:=y7v (m:=17) (f:=defL) y0u H T.types hd (by omega);obtain ⟨A6,c6,A7,c7,A8,c8,A9,c9,A10,c10,A11,c11,A12,c12,A14,c14,rfl,-,-,-,-,-,-,-,-⟩:=y0c hxd;have hcell:=hat.1 _ rfl;clear hat hxd
  have hltI:(i:Int)<(ts.length:Int):=by omega
  have h17:=H.kcell T.box T.c17;go_enter Tryz.func79,Tryz.ntmps79;have cf2:(w).cell? ⟨g,18,none⟩=some (.map (some ga)):=H.kcell T.box h18
  go_upto_region 2 with (first
   |(refine y1a (by rfl) (.tmp 11) (.tmp 12) 87 true (by rfl) Tryz.underlying87 (y08 Tryz.underlying9) (.int .i64 0) y0j ga (nmap (y0a ts)) (H.kmap T.at_) (by first|rfl|simp [Act.eval,Act.put]) (x) (by first|rfl|simp [Act.eval,Act.put]) (.tuple #[.int .i64 (i:Int),.bool true]) (by rw [hq];rfl) ?_))
  go_wp2_with fail
  go_ret;exact ⟨by rw [hk];rfl,H⟩
theorem q0f (d:DefD) (cs:Array Value) (w0 w K:World) (M:List Ent) (H:Hp w0 w K M) (hd:RL K (defL d) cs.toList):
  Calls Tryz.prog 107 #[.agg cs] w fun e w'=>e= .returned (.bool (y1h d))∧Hp w0 w' K M:=by
 obtain ⟨A6,c6,A7,c7,A8,c8,A9,c9,A10,c10,A11,c11,A12,c12,A14,c14,hcs,-,-,-,-,-,-,-,-⟩:=y0c hd;clear hd;have hs:y1h d=(decide (d.kind=1)&& !d.ext):=rfl;obtain ⟨kd,hkd⟩: ∃kd,d.kind=kd:=⟨_,rfl⟩;obtain ⟨ex,hex⟩: ∃ex,d.ext=ex:=⟨_,rfl⟩;rw [hs];clear hs;rw [hkd,hex] at hcs ⊢;clear hkd hex;obtain rfl:cs= #[.int .i64 kd,.bool ex,.bool d.note.has,.bool d.note.block,.string (str d.note.text),.string (str d.name),.slice A6 d.ifaces.length c6,.slice A7 d.dirs.length c7,.slice A8 d.fields.length c8,.slice A9 d.inputs.length c9,.slice A10 d.members.length c10,.slice A11 d.values.length c11,.slice A12 d.roots.length c12,.bool d.rep,.slice A14 d.places.length c14,.int .i64 d.line,.int .i64 d.col]:=Qal.1 hcs;clear hcs;by_cases h1:kd=1
 ·subst h1;go_enter Tryz.func107,Tryz.ntmps107
  go_wp2_with (first
   |(refine z17 (by rfl) 43 (.tmp 0) (by rfl) [.int .i64 1,.bool ex,.bool d.note.has,.bool d.note.block,.string (str d.note.text),.string (str d.name),.slice A6 d.ifaces.length c6,.slice A7 d.dirs.length c7,.slice A8 d.fields.length c8,.slice A9 d.inputs.length c9,.slice A10 d.members.length c10,.slice A11 d.values.length c11,.slice A12 d.roots.length c12,.bool d.rep,.slice A14 d.places.length c14,.int .i64 d.line,.int .i64 d.col] _ (by rfl) (by rfl) (some 1) (by rfl) H ?_;clear H;intro w1 g1 H hg2;clear hg2;have:=H.c 0 0;have:=H.c 0 1))
  replace H:=H.sub (Qai _ (Qam _));go_ret;exact ⟨by simp,H⟩
 ·skip
  go_enter Tryz.func107,Tryz.ntmps107
  go_wp2_with (first
   |(refine z17 (by rfl) 43 (.tmp 0) (by rfl) [.int .i64 kd,.bool ex,.bool d.note.has,.bool d.note.block,.string (str d.note.text),.string (str d.name),.slice A6 d.ifaces.length c6,.slice A7 d.dirs.length c7,.slice A8 d.fields.length c8,.slice A9 d.inputs.length c9,.slice A10 d.members.length c10,.slice A11 d.values.length c11,.slice A12 d.roots.length c12,.bool d.rep,.slice A14 d.places.length c14,.int .i64 d.line,.int .i64 d.col] _ (by rfl) (by rfl) (some 1) (by rfl) H ?_;clear H;intro w3 g1 H hg4;clear hg4;have:=H.c 0 0;have:=H.c 0 1))
  replace H:=H.sub (Qai _ (Qam _));go_ret;exact ⟨by simp [h1],H⟩
theorem z1n {α:Type} {p:α→Bool}: ∀{l:List α} {k:Nat} {x:α},(∀y∈l.take k,p y=false)→l[k]?=some x→p x=true→l.findIdx? p=some k
 |[],k,x,_,h,_=>by simp at h
 |a::r,0,x,_,h,hp=>by
  simp only [List.getElem?_cons_zero,Option.some.injEq] at h;subst h;simp [List.findIdx?_cons,hp]
 |a::r,k+1,x,h0,h,hp=>by
  have ha:p a=false:=h0 a (by simp);have:=z1n (l:=r) (k:=k) (fun y hy=>h0 y (by rw [List.take_succ_cons];exact Qa2 _ hy)) (by simpa using h) hp;simp [List.findIdx?_cons,ha,this]
theorem z57 {α:Type} {p:α→Bool} {l:List α} (h: ∀y∈l,p y=false):l.findIdx? p=none:=by
 rw [List.findIdx?_eq_none_iff];exact h
def idxI (o:Option Nat):Int:=match o with|none=> -1|some i=>i
set_option maxHeartbeats 4000000 in
theorem z9q (defs:List DefD) (n c:Nat) (A:Option Addr) (w0 w K:World) (M:List Ent) (H:Hp w0 w K M) (hn:defs.length=n) (hd:RD K (.list n (y0q defs)) (.slice A n c)) (hm:n≤20000000):
  Calls Tryz.prog 106 #[.slice A n c,.func (.func 107) #[] #[]] w fun e w'=>e= .returned (.int .i64 (idxI (defs.findIdx? y1h)))∧Hp w0 w' K M:=by
 have HN:=hide hn;clear hn;go_enter Tryz.func106,Tryz.ntmps106
 go_wp2_with fail
 go_loopw [8] (fun i wr=>∃k:Nat,k≤n∧i= .int .i64 k∧Hp w0 wr K M∧ ∀y∈defs.take k,y1h y=false) (fun i _=>n - (intOf i).toNat)
 case atStart=>exact ⟨0,Qak _,rfl,H,by simp⟩
 case round=>
  clear H;obtain ⟨k,hk,rfl,H,hno⟩:=hrel;by_cases hlt:k<n
  ·have hkI:(k:Int)<(n:Int):=by omega
   obtain ⟨x,hx⟩: ∃x,defs[k]?=some x:=⟨_,Qad (by rw [HN.out];exact hlt)⟩;have HX:=hide hx;obtain ⟨ad,xs,rfl,hxd,_,hat⟩:=y7v (m:=17) (f:=defL) y0u H hd hx (by omega);clear hx;have hsz:(Tryz.prog.info? 43).map (·.size)=some 17:=z0e;have hxl:xs.length=17:=hxd.len;have hno:=hide hno
   cases hb:y1h x with
   |true=>
    go_wp2_with (first
     |((with_reducible show wpList _ _ _ (_::_) _ _);refine y0d (by rfl) 43 (.tmp 14) (by rfl) (ad.add (k*17)) (by simp [Act.eval,Act.put]) _ _ hat Tryz.underlying43 rfl (by rw [hxl];exact hsz) ?_)
     |(go_at_call 107;refine (q0f x xs.toArray _ _ _ _ H hxd).mono ?_;clear H;rintro e w1 ⟨rfl,H⟩;rw [hb]))
    go_ret;exact ⟨by rw [z1n hno.out HX.out hb];rfl,H⟩
   |false=>
    go_wp2_with (first
     |((with_reducible show wpList _ _ _ (_::_) _ _);refine y0d (by rfl) 43 (.tmp 14) (by rfl) (ad.add (k*17)) (by simp [Act.eval,Act.put]) _ _ hat Tryz.underlying43 rfl (by rw [hxl];exact hsz) ?_)
     |(go_at_call 107;refine (q0f x xs.toArray _ _ _ _ H hxd).mono ?_;clear H;rintro e w1 ⟨rfl,H⟩;rw [hb]))
    go_roundw
    case rel=>exact ⟨k+1,by omega,by go_num,H,by
     intro y hy;rw [y0n HX.out] at hy;rcases Qbf.1 hy with hy|hy
     ·exact hno.out y hy
     ·obtain rfl:=Qax.1 hy;exact hb⟩
    case measure=>simp [intOf];omega
  ·obtain rfl:n=k:=by omega
   have htk:defs.take n=defs:=by rw [←HN.out];exact List.take_length
   rw [htk] at hno;have hno:=hide hno
   go_wp2_with fail
   go_ret;exact ⟨by rw [z57 hno.out];rfl,H⟩
def z0v (ts:List DefD) (k:Nat):List RootD:=((rootN.zipIdx.take k).filter fun p=>y0l ts p.1==3).map fun p=>⟨1+(p.2:Int),p.1,0,0⟩
theorem x6e (ts:List DefD):z0v ts 3=y5j ts:=rfl
theorem x15 (ts:List DefD) {k:Nat} {x:Txt} (h:rootN[k]?=some x):z0v ts (k+1)=z0v ts k++if y0l ts x=3 then [⟨1+(k:Int),x,0,0⟩] else []:=by
 have h1:rootN.zipIdx[k]?=some (x,k):=by rw [List.getElem?_zipIdx,h];simp
 unfold z0v;rw [List.take_add_one,h1,List.filter_append,Qas]
 congr 1
 by_cases h3:y0l ts x=3
 ·simp [h3]
 ·simp [h3]
theorem x6f {K:World} {l:List RootD} {r:RootD} {vs:List Value} (h:RL K (y2k l) vs):RL K (y2k (l++[r])) (vs++[.int .i64 r.op,.string (str r.type),.int .i64 r.line,.int .i64 r.col]):=by
 rw [y3i];exact h.app (by simp only [y2k,List.flatMap_cons,List.flatMap_nil,List.append_nil];exact .lit (.lit (.lit (.lit RL.z))))
def SchP (s:DefD) (w0 K:World) (M:List Ent) (e:Ending) (w':World):Prop:=
 ∃K' cs,e= .returned (.agg cs)∧Sat K' K∧Hp w0 w' K' M∧RL K' (defL s) cs.toList
set_option maxHeartbeats 16000000 in
theorem x6g (defs ts:List DefD) (n c nt ct:Nat) (A Aty:Option Addr) (g ga gd gf go:Nat) (VD:Value) (w0 w K:World) (M:List Ent) (H:Hp w0 w K (tbox g ga gd gf go (.slice Aty nt ct) VD::M)) (hn:defs.length=n) (hd:RD K (.list n (y0q defs)) (.slice A n c)) (hm:n≤20000000)
  (hnt:ts.length=nt) (ht:RD K (.list nt (y0q ts)) (.slice Aty nt ct)) (hat:Km K ga (y00 ks (nmap (y0a ts)))) (hno:defs.findIdx? y1h=none):
  Calls Tryz.prog 61 #[.pointer (some ⟨g,0,none⟩),.slice A n c] w (SchP {y3k with roots:=y5j ts} w0 K (tbox g ga gd gf go (.slice Aty nt ct) VD::M)):=by
 have HN:=hide hn;have HNT:=hide hnt;clear hn hnt;obtain ⟨k0,hk0,k0z,k0s,k0b⟩:=info_parts z3g;have hM: ∃M',(tbox g ga gd gf go (.slice Aty nt ct) VD::M)=M':=⟨_,rfl⟩;go_enter Tryz.func61,Tryz.ntmps61;replace H:Hp _ _ _ (.box _ [_,_,_,_,_,_,_,_,_,_,_,_,_,_,_,_,_,_,_,_,_,_,_] _::M):=H
 try dsimp only at H
 have hK:=Sat.refl K
 go_upto_region 4 with (first
  |(go_at_call 106;refine (z9q defs n c A _ _ _ _ H HN.out hd hm).mono ?_;clear H;rintro e w5 ⟨rfl,H⟩;rw [hno];clear hno;simp only [idxI])
  |((with_reducible refine isL ?_);first
   |(refine al z43 4 H ?_;clear H;intro w1 g4 H)
   |(refine al z43 6 H ?_;clear H;intro w4 g6 H)
   |(refine sA 6 0 H ?_;clear H;intro w6 H)))
 go_upto_region 5 with (first
  |(refine y2h (by rfl) 27 9 3 _ (by rfl) (some 20) (by rfl) Tryz.underlying27 [.string ⟨#[81,117,101,114,121]⟩,.string ⟨#[77,117,116,97,116,105,111,110]⟩,.string ⟨#[83,117,98,115,99,114,105,112,116,105,111,110]⟩] (by kernel_rfl) H ?_;clear H;intro w7 g20 H;obtain ⟨K2,hle8,H,hnames⟩:=H.freezeBox (n:=3) (ls:=y03 rootN) ((rt_s (rt_s (rt_s RL.z)))) (by simp only [maxLen];omega);replace hd:=hd.sat hle8;replace ht:=ht.sat hle8;replace hat:=hat.sat hle8;replace hK:=hle8.trans hK))
 go_wp2_with fail
 go_loopw [22] (fun i wr=>∃(k:Nat) (V:Value) (vs:List Value),k≤3∧i= .int .i64 k∧Hp w0 wr K2 (.row 100 4 V (z0v ts k).length vs:: .box g6 [.int .i64 1,.bool false,.bool false,.bool false,.string ⟨#[]⟩,.string ⟨#[]⟩,.slice none 0 0,.slice none 0 0,.slice none 0 0,.slice none 0 0,.slice none 0 0,.slice none 0 0,V,.bool false,.slice none 0 0,.int .i64 0,.int .i64 0] 43:: .box g4 [.int .i64 0,.bool false,.bool false,.bool false,.string ⟨#[]⟩,.string ⟨#[]⟩,.slice none 0 0,.slice none 0 0,.slice none 0 0,.slice none 0 0,.slice none 0 0,.slice none 0 0,.slice none 0 0,.bool false,.slice none 0 0,.int .i64 0,.int .i64 0] 43::tbox g ga gd gf go (.slice Aty nt ct) VD::M)∧RL K2 (y2k (z0v ts k)) vs) (fun i _=>3 - (intOf i).toNat)
 case atStart=>exact ⟨0,_,[],Qak _,rfl,H.nilRow 100 4,RL.z⟩
 case round=>
  clear H;obtain ⟨k,V,vs,hk,rfl,H,hvs⟩:=hrel;obtain ⟨Av,cv,rfl,_,_⟩:=H.slice (i:=0) rfl
  have hrl:(z0v ts k).length≤3:=by unfold z0v;rw [Qay];exact Qah (Qb4 _ _) (by rw [Qau];exact Nat.min_le_right _ _)
  obtain ⟨rs,hrs⟩: ∃rs,z0v ts k=rs:=⟨_,rfl⟩;by_cases hlt:k<3
  ·have hkI:(k:Int)<(3:Int):=by omega
   obtain ⟨x,hx⟩: ∃x,rootN[k]?=some x:=⟨_,Qad hlt⟩;have HE:=hide (x15 ts hx);rw [hrs] at H hvs HE hrl;clear hrs;obtain ⟨ad,had,hc⟩:=z4g H hnames hx;injection had with had;subst had;rw [y3l] at hc;clear hx;have hq:=y12 ts x;obtain ⟨m,hmr⟩: ∃m,rs.length=m:=⟨_,rfl⟩;have HM:=hide hmr;rw [hmr] at H hrl;clear hmr;replace H:Hp _ _ _ (_:: .box _ [_,_,_,_,_,_,_,_,_,_,_,_,_,_,_,_,_] _:: .box _ [_,_,_,_,_,_,_,_,_,_,_,_,_,_,_,_,_] _:: .box _ [_,_,_,_,_,_,_,_,_,_,_,_,_,_,_,_,_,_,_,_,_,_,_] _::M):=H
   try dsimp only at H
   cases hi:y1k ts x with
   |none=>
    rw [hi] at hq;have hk0:y0l ts x=0:=y9y hi;rw [if_neg (by omega),List.append_nil] at HE;have:=H.c 3 18
    go_upto_region 8 with (first
     |(refine y1a (by rfl) (.tmp 31) (.tmp 32) 87 true (by rfl) Tryz.underlying87 (y08 Tryz.underlying9) (.int .i64 0) y0j ga (nmap (y0a ts)) (H.kmap hat) (by first|rfl|simp [Act.eval,Act.put]) (x) (by first|rfl|simp [Act.eval,Act.put]) (.tuple #[.int .i64 0,.bool false]) (by rw [hq];rfl) ?_))
    go_wp2_with fail
    go_roundw
    case rel=>exact ⟨k+1,_,vs,by omega,by go_num,by rw [HE.out,HM.out];exact H,by rw [HE.out];exact hvs⟩
    case measure=>simp [intOf];omega
   |some i=>
    rw [hi] at hq;obtain ⟨d,hd1,-⟩:=y1p hi;have hil:=y4x hi;rw [HNT.out] at hil;have hkk:y0l ts x=d.kind:=y9x hi hd1;obtain ⟨ad2,xs,rfl,hxd,_,hat2⟩:=y7v (m:=17) (f:=defL) y0u H ht hd1 (by omega);obtain ⟨A6,c6,A7,c7,A8,c8,A9,c9,A10,c10,A11,c11,A12,c12,A14,c14,rfl,-,-,-,-,-,-,-,-⟩:=y0c hxd;have hcell:=hat2.1 _ rfl;clear hat2 hxd hd1;rw [hkk] at HE;clear hkk;obtain ⟨kd,hkd⟩: ∃kd,d.kind=kd:=⟨_,rfl⟩;rw [hkd] at hcell HE;clear hkd
    have hiI:(i:Int)<(nt:Int):=by omega
    by_cases h3:kd=3
    ·subst h3;rw [if_pos rfl] at HE;have:=H.c 3 18
     go_upto_region 8 with (first
      |(refine y1a (by rfl) (.tmp 31) (.tmp 32) 87 true (by rfl) Tryz.underlying87 (y08 Tryz.underlying9) (.int .i64 0) y0j ga (nmap (y0a ts)) (H.kmap hat) (by first|rfl|simp [Act.eval,Act.put]) (x) (by first|rfl|simp [Act.eval,Act.put]) (.tuple #[.int .i64 (i:Int),.bool true]) (by rw [hq];rfl) ?_))
     have:=H.c 3 17
     go_upto_region 9 with (fail)
     have:=H.c 1 12
     go_upto_region 10 with (first
      |(refine y2h (by rfl) 39 100 1 _ (by rfl) (some 54) (by rfl) Tryz.underlying39 [.int .i64 (1+(k:Int)),.string (str x),.int .i64 0,.int .i64 0] (by kernel_rfl) H ?_;clear H;intro w9 g54 H;have:=H.c 2 12)
      |(at_builtin;refine y5f (by rfl) _ _ 39 (by rfl) 100 k0 _ 4 40 Tryz.underlying39 hk0 k0z k0s k0b (by rfl) (by decide) H 1 (.slice Av m cv) (m) (vs) (by rfl) (by first|rfl|simp [Act.eval,Act.put]) (some ⟨g54,0,none⟩) 1 1 [.int .i64 (1+(k:Int)),.string (str x),.int .i64 0,.int .i64 0] (by first|rfl|simp [Act.eval,Act.put]) (by rfl) (H.rd (i:=0) rfl) (by simp [Value.oneCell']) (by simp only [maxLen];omega) (by omega) ?_;clear H;intro V2 w2 H;replace H:Hp w0 w2 K2 (.box g54 [.int .i64 (1+(k:Int)),.string (str x),.int .i64 0,.int .i64 0] 100:: .row 100 4 (V2) (m+1) (vs++[.int .i64 (1+(k:Int)),.string (str x),.int .i64 0,.int .i64 0]):: .box g6 [.int .i64 1,.bool false,.bool false,.bool false,.string ⟨#[]⟩,.string ⟨#[]⟩,.slice none 0 0,.slice none 0 0,.slice none 0 0,.slice none 0 0,.slice none 0 0,.slice none 0 0,.slice Av m cv,.bool false,.slice none 0 0,.int .i64 0,.int .i64 0] 43:: .box g4 [.int .i64 0,.bool false,.bool false,.bool false,.string ⟨#[]⟩,.string ⟨#[]⟩,.slice none 0 0,.slice none 0 0,.slice none 0 0,.slice none 0 0,.slice none 0 0,.slice none 0 0,.slice none 0 0,.bool false,.slice none 0 0,.int .i64 0,.int .i64 0] 43:: .box g [.int .i64 0,.bool false,.bool false,.bool false,.string ⟨#[]⟩,.string ⟨#[]⟩,.slice none 0 0,.slice none 0 0,.slice none 0 0,.slice none 0 0,.slice none 0 0,.slice none 0 0,.slice none 0 0,.bool false,.slice none 0 0,.int .i64 0,.int .i64 0,.slice (some ad2) nt ct,.map (some ga),VD,.map (some gd),.map (some gf),.map (some go)] 91::M):=H;obtain ⟨V2A,V2c,rfl,V2l,V2m⟩:=H.slice (i:=1) rfl;have:=H.c 2 12)
      |((with_reducible refine isL ?_);first
       |(refine s1 56 2 (.slice V2A (m+1) V2c) H ?_;clear H;intro w10 H;have:=H.c 2 12)))
     replace H:=H.sub (Qai _ (Qaa _ (Qaa _ (Qaa _ (Qaa _ (Qam _))))))
     go_wp2_with fail
     go_roundw
     case rel=>exact ⟨k+1,_,_,by omega,by go_num,by rw [HE.out];simp only [Qae,List.length_cons,List.length_nil,HM.out];exact H,by rw [HE.out];exact x6f hvs⟩
     case measure=>simp [intOf];omega
    ·rw [if_neg h3,List.append_nil] at HE;have:=H.c 3 18
     go_upto_region 8 with (first
      |(refine y1a (by rfl) (.tmp 31) (.tmp 32) 87 true (by rfl) Tryz.underlying87 (y08 Tryz.underlying9) (.int .i64 0) y0j ga (nmap (y0a ts)) (H.kmap hat) (by first|rfl|simp [Act.eval,Act.put]) (x) (by first|rfl|simp [Act.eval,Act.put]) (.tuple #[.int .i64 (i:Int),.bool true]) (by rw [hq];rfl) ?_))
     have:=H.c 3 17
     go_upto_region 9 with (fail)
     go_wp2_with fail
     go_roundw
     case rel=>exact ⟨k+1,_,vs,by omega,by go_num,by rw [HE.out,HM.out];exact H,by rw [HE.out];exact hvs⟩
     case measure=>simp [intOf];omega
  ·obtain rfl:k=3:=by omega
   rw [x6e] at H hvs hrs;clear hrs;replace H:Hp _ _ _ (_:: .box _ [_,_,_,_,_,_,_,_,_,_,_,_,_,_,_,_,_] _:: .box _ [_,_,_,_,_,_,_,_,_,_,_,_,_,_,_,_,_] _:: .box _ [_,_,_,_,_,_,_,_,_,_,_,_,_,_,_,_,_,_,_,_,_,_,_] _::M):=H
   try dsimp only at H
   go_upto_region 11 with (fail)
   go_wp2_with (first
    |((with_reducible refine isL ?_);first
     |(refine ld 6 1 17 Tryz.underlying43 H ?_)
     |(refine sA 4 2 H ?_;clear H;intro w11 H)))
   refine bodyPost_ret (v:=.agg #[.int .i64 1,.bool false,.bool false,.bool false,.string ⟨#[]⟩,.string ⟨#[]⟩,.slice none 0 0,.slice none 0 0,.slice none 0 0,.slice none 0 0,.slice none 0 0,.slice none 0 0,.slice Av (y5j ts).length cv,.bool false,.slice none 0 0,.int .i64 0,.int .i64 0]) (results_cell_row rfl _ _ g4 43 _ (0,0) _ (by rfl) (H.blkAt (i:=2) rfl) Tryz.underlying43 rfl (by kernel_rfl)) rfl ?_;replace H:=H.sub (Qaa _ (Qai _ (Qai _ (Qaa _ (Qam _)))));obtain ⟨K',hle,H,hv⟩:=H.freezeRow hvs;exact ⟨K',_,rfl,hle.trans hK,H,.lit (.lit (.lit (.lit (.lit (.lit (.cons RD.z (.cons RD.z (.cons RD.z (.cons RD.z (.cons RD.z (.cons RD.z (.cons hv (.lit (.cons RD.z (.lit (.lit RL.z))))))))))))))))⟩
set_option maxHeartbeats 16000000 in
theorem x6h (defs:List DefD) (d:DefD) (i0 n c:Nat) (A:Option Addr) (g:Nat) (w0 w K:World) (M:List Ent) (H:Hp w0 w K M) (hn:defs.length=n) (hd:RD K (.list n (y0q defs)) (.slice A n c)) (hm:y0e defs≤3000000)
  (hat0:defs[i0]?=some d) (hi0:defs.findIdx? y1h=some i0):
  Calls Tryz.prog 61 #[.pointer (some ⟨g,0,none⟩),.slice A n c] w (SchP (defs.foldl y4d d) w0 K M):=by
 have hnl:n≤3000000:=by have:=y0o y2g defs;unfold y0e at hm;omega
 have hdn:=y3h hat0
 have hlt0:i0<n:=by have:=(Qac.1 hat0).1;omega
 have hlt0I:(i0:Int)<(n:Int):=by omega
 have hneg: ¬((i0:Int)<0):=by omega
 have HN:=hide hn;clear hn;obtain ⟨k1,hk1,k1z,k1s,k1b⟩:=info_parts x2z;obtain ⟨k6,hk6,k6z,k6s,k6b⟩:=info_parts z3g;have hsz:(Tryz.prog.info? 43).map (·.size)=some 17:=z0e;obtain ⟨ad,xs,rfl,hxd,hxl,hatK⟩:=y2r (m:=17) (f:=defL) y0u hd hat0 (by omega)
 have hdm:defN d≤9000000:=by omega
 go_enter Tryz.func61,Tryz.ntmps61;have hK:=Sat.refl K
 go_upto_region 2 with (first
  |(go_at_call 106;refine (z9q defs n c (some ad) _ _ _ _ H HN.out hd (by omega)).mono ?_;clear H;rintro e w5 ⟨rfl,H⟩;rw [hi0];simp only [idxI])
  |((with_reducible refine isL ?_);first
   |(refine al z43 4 H ?_;clear H;intro w1 g4 H)))
 go_upto_region 12 with (fail)
 go_upto_region 13 with (first
  |(go_at_call 65;refine (y7w d xs.toArray H hdm hxd).mono ?_;clear H;rintro e w6 ⟨K6,V,rfl,hle,H,hV⟩;replace hd:=hd.sat hle;replace hK:=hle.trans hK;have ho:=y87 H;replace H:Hp _ _ _ (_::_::_::_::_::_::_::_::_::M):=H)
  |((with_reducible show wpList _ _ _ (_::_) _ _);refine y0d (by rfl) 43 (.tmp 61) (by rfl) (ad.add (i0*17)) (by simp [Act.eval,Act.put]) _ _ (At.sat hatK H.sat) Tryz.underlying43 rfl (by rw [hxl];exact hsz) ?_)
  |((with_reducible refine isL ?_);first
   |(refine al z43 11 H ?_;clear H;intro w5 g11 H)
   |(refine sA 11 0 H ?_;clear H;intro w7 H)))
 clear hatK hxd ho
 go_wp2_with fail
 go_loopw [66] (fun i wr=>∃(k:Nat) (K7:World) (s:DefD) (V:DV),k≤n∧i= .int .i64 k∧(defs.take k).foldl y4d d=s∧Sat K7 K∧V.ok K7 s∧RD K7 (.list n (y0q defs)) (.slice (some ad) n c)∧Hp w0 wr K7 (.box g11 (DV.cells s V) 43::(DV.rows s V++(.box g4 [.int .i64 0,.bool false,.bool false,.bool false,.string ⟨#[]⟩,.string ⟨#[]⟩,.slice none 0 0,.slice none 0 0,.slice none 0 0,.slice none 0 0,.slice none 0 0,.slice none 0 0,.slice none 0 0,.bool false,.slice none 0 0,.int .i64 0,.int .i64 0] 43::M)))) (fun i _=>n - (intOf i).toNat)
 case atStart=>exact ⟨0,K6,d,V,Qak _,rfl,rfl,hK,hV,hd,H⟩
 case round=>
  clear H hV hd hK;obtain ⟨k,K7,s,V,hk,rfl,hs,hK,hV,hd,H⟩:=hrel
  have hsN:defN s≤9000000:=by
   have h1:=z4l (defs.take k) d;have h2:=z0t (f:=defN) defs k;rw [hs] at h1;unfold y0e at h1 hm hdn;omega
  by_cases hlt:k<n
  ·have hkI:(k:Int)<(n:Int):=by omega
   obtain ⟨x,hx⟩: ∃x,defs[k]?=some x:=⟨_,Qad (by rw [HN.out];exact hlt)⟩;have HE:=hide (y5k hx y4d d);rw [hs] at HE;clear hs;obtain ⟨ad',xs,had,hxd,hxl,hatK⟩:=y2r (m:=17) (f:=defL) y0u hd hx (by omega);injection had with had;subst had;have hxN:=y3h hx;clear hx
   have hxm:defN x≤9000000:=by omega
   have hxdK:=hxd;obtain ⟨A6,c6,A7,c7,A8,c8,A9,c9,A10,c10,A11,c11,A12,c12,A14,c14,hxs,-,-,-,-,-,-,-,-⟩:=y0c hxdK;clear hxdK;obtain ⟨kd,hkd⟩: ∃kd,x.kind=kd:=⟨_,rfl⟩;obtain ⟨ex,hex⟩: ∃ex,x.ext=ex:=⟨_,rfl⟩;rw [hkd,hex] at hxs;have HS:=hide (show y4d s x=if kd=1∧ex=true then {s with dirs:=s.dirs++x.dirs,roots:=s.roots++x.roots} else s by rw [←hkd,←hex];rfl);have HKD:=hide hkd;have HEX:=hide hex;clear hkd hex;subst hxs;obtain ⟨V8,V11,V6,V10,V14,V12,V9,V7,x8,x11,x6,x10,x14,x12,x9,x7⟩:=V;replace H:Hp _ _ _ (.box _ [_,_,_,_,_,_,_,_,_,_,_,_,_,_,_,_,_] _::_::_::_::_::_::_::_::_:: .box _ [_,_,_,_,_,_,_,_,_,_,_,_,_,_,_,_,_] _::M):=H
   try dsimp only at H
   by_cases h1:kd=1
   ·subst h1
    cases ex with
    |true=>
     have HS2:=hide (HS.out.trans (if_pos ⟨rfl,rfl⟩));clear HS
     go_upto_region 17 with (first
      |((with_reducible show wpList _ _ _ (_::_) _ _);refine y0d (by rfl) 43 (.tmp 68) (by rfl) (ad.add (k*17)) (by simp [Act.eval,Act.put]) _ _ (At.sat hatK H.sat) Tryz.underlying43 rfl hsz ?_)
      |((with_reducible refine isL ?_);first
       |(refine al z43 13 H ?_;clear H;intro w8 g13 H;have:=H.c 0 0;have:=H.c 0 1)
       |(refine sA 13 0 H ?_;clear H;intro w10 H;have:=H.c 0 0;have:=H.c 0 1)))
     go_upto_region 18 with (first
      |(go_at_call 65;refine (y8g x _ H hxm hxd).mono ?_;clear H;rintro e w8 ⟨K8,cs8,rfl,hle,H,hd8⟩;replace hd:=hd.sat hle;replace hV:=hV.sat hle;replace hxd:=hxd.sat hle;replace hK:=hle.trans hK;obtain ⟨D6,f6,D7,f7,D8,f8,D9,f9,D10,f10,D11,f11,D12,f12,D14,f14,hcs5,e6,e7,e8,e9,e10,e11,e12,e14⟩:=y0c hd8;obtain rfl:cs8= #[.int .i64 x.kind,.bool x.ext,.bool x.note.has,.bool x.note.block,.string (str x.note.text),.string (str x.name),.slice D6 x.ifaces.length f6,.slice D7 x.dirs.length f7,.slice D8 x.fields.length f8,.slice D9 x.inputs.length f9,.slice D10 x.members.length f10,.slice D11 x.values.length f11,.slice D12 x.roots.length f12,.bool x.rep,.slice D14 x.places.length f14,.int .i64 x.line,.int .i64 x.col]:=Qal.1 hcs5;clear hcs5 hd8)
      |((with_reducible refine isL ?_);first
       |(refine ld 13 0 17 Tryz.underlying43 H ?_)
       |(refine al z43 14 H ?_;clear H;intro w12 g14 H)
       |(refine sA 14 0 H ?_;clear H;intro w14 H)))
     clear hatK;have hl7:=y0o y4f s.dirs;have hx7:=y0o y4f x.dirs
     have hb7:s.dirs.length+x.dirs.length≤20000000:=by unfold defN at hsN hxm;omega
     have hb12:s.roots.length+x.roots.length≤20000000:=by unfold defN at hsN hxm;omega
     clear hl7 hx7;have:=H.c 2 7;have:=H.c 0 7
     go_upto_region 19 with (first
      |(at_builtin;refine ap 10 e35 e7 (z0f x.dirs) H ?_;clear H;intro us15 U7A U7c u7 hus15 lus15 _ _ H;dsimp only [List.set] at H;have:=H.c 2 7;have:=H.c 0 7)
      |((with_reducible refine isL ?_);first
       |(refine s1 84 2 (.slice U7A (s.dirs.length+x.dirs.length) U7c) H ?_;clear H;intro w16 H;have:=H.c 2 7;have:=H.c 0 7)))
     have:=H.c 2 12;have:=H.c 0 12
     go_upto_region 20 with (first
      |(at_builtin;refine ap 8 e39 e12 (y44 x.roots) H ?_;clear H;intro us17 U12A U12c u12 hus17 lus17 _ _ H;dsimp only [List.set] at H;have:=H.c 2 12;have:=H.c 0 12)
      |((with_reducible refine isL ?_);first
       |(refine s1 90 2 (.slice U12A (s.roots.length+x.roots.length) U12c) H ?_;clear H;intro w18 H;have:=H.c 2 12;have:=H.c 0 12)))
     replace H:=H.sub (Qai _ (Qai _ (Qaa _ (Qaa _ (Qaa _ (Qaa _ (Qaa _ (Qaa _ (Qaa _ (Qaa _ (Qaa _ (Qaa _ (Qam _)))))))))))))
     go_wp2_with fail
     go_roundw
     case rel=>
      simp only [←Qae] at H;refine ⟨k+1,K8,{s with dirs:=s.dirs++x.dirs,roots:=s.roots++x.roots},⟨_,_,_,_,_,_,_,_,_,_,_,_,_,_,_,_⟩,by omega,by go_num,by rw [HE.out,HS2.out],hK,?_,hd,H⟩;exact ⟨hV.r8,hV.r11,hV.r6,hV.r10,hV.r14,by dsimp only;rw [y3i];exact hV.r12.app (by assumption),hV.r9,by dsimp only;rw [y5c];exact hV.r7.app (by assumption)⟩
     case measure=>simp [intOf];omega
    |false=>
     have HS2:=hide (HS.out.trans (if_neg (by simp)));clear HS
     go_upto_region 17 with (first
      |((with_reducible show wpList _ _ _ (_::_) _ _);refine y0d (by rfl) 43 (.tmp 68) (by rfl) (ad.add (k*17)) (by simp [Act.eval,Act.put]) _ _ (At.sat hatK H.sat) Tryz.underlying43 rfl hsz ?_)
      |((with_reducible refine isL ?_);first
       |(refine al z43 13 H ?_;clear H;intro w19 g13 H;have:=H.c 0 0;have:=H.c 0 1)
       |(refine sA 13 0 H ?_;clear H;intro w21 H;have:=H.c 0 0;have:=H.c 0 1)))
     replace H:=H.sub (Qai _ (Qaa _ (Qaa _ (Qaa _ (Qaa _ (Qaa _ (Qaa _ (Qaa _ (Qaa _ (Qaa _ (Qaa _ (Qam _))))))))))))
     go_wp2_with fail
     go_roundw
     case rel=>exact ⟨k+1,K7,s,⟨V8,V11,V6,V10,V14,V12,V9,V7,x8,x11,x6,x10,x14,x12,x9,x7⟩,by omega,by go_num,by rw [HE.out,HS2.out],hK,hV,hd,H⟩
     case measure=>simp [intOf];omega
   ·have HS2:=hide (HS.out.trans (if_neg (fun h=>h1 h.1)));clear HS
    go_upto_region 17 with (first
     |((with_reducible show wpList _ _ _ (_::_) _ _);refine y0d (by rfl) 43 (.tmp 68) (by rfl) (ad.add (k*17)) (by simp [Act.eval,Act.put]) _ _ (At.sat hatK H.sat) Tryz.underlying43 rfl hsz ?_)
     |((with_reducible refine isL ?_);first
      |(refine al z43 13 H ?_;clear H;intro w22 g13 H;have:=H.c 0 0;have:=H.c 0 1)
      |(refine sA 13 0 H ?_;clear H;intro w24 H;have:=H.c 0 0;have:=H.c 0 1)))
    replace H:=H.sub (Qai _ (Qaa _ (Qaa _ (Qaa _ (Qaa _ (Qaa _ (Qaa _ (Qaa _ (Qaa _ (Qaa _ (Qaa _ (Qam _))))))))))))
    go_wp2_with fail
    go_roundw
    case rel=>exact ⟨k+1,K7,s,⟨V8,V11,V6,V10,V14,V12,V9,V7,x8,x11,x6,x10,x14,x12,x9,x7⟩,by omega,by go_num,by rw [HE.out,HS2.out],hK,hV,hd,H⟩
    case measure=>simp [intOf];omega
  ·obtain rfl:n=k:=by omega
   have htk:defs.take n=defs:=by rw [←HN.out];exact List.take_length
   rw [htk] at hs;clear htk;have HS:=hide hs;clear hs;have ho:=y87 H.tail;obtain ⟨V8,V11,V6,V10,V14,V12,V9,V7,x8,x11,x6,x10,x14,x12,x9,x7⟩:=V;replace H:Hp _ _ _ (.box _ [_,_,_,_,_,_,_,_,_,_,_,_,_,_,_,_,_] _::_::_::_::_::_::_::_::_:: .box _ [_,_,_,_,_,_,_,_,_,_,_,_,_,_,_,_,_] _::M):=H
   try dsimp only at H
   go_upto_region 21 with (fail)
   go_wp2_with (first
    |((with_reducible refine isL ?_);first
     |(refine ld 11 0 17 Tryz.underlying43 H ?_)
     |(refine sA 4 9 H ?_;clear H;intro w25 H)))
   refine bodyPost_ret (v:=.agg #[.int .i64 s.kind,.bool s.ext,.bool s.note.has,.bool s.note.block,.string (str s.note.text),.string (str s.name),V6,V7,V8,V9,V10,V11,V12,.bool s.rep,V14,.int .i64 s.line,.int .i64 s.col]) (results_cell_row rfl _ _ g4 43 _ (0,0) _ (by rfl) (H.blkAt (i:=9) rfl) Tryz.underlying43 rfl (by kernel_rfl)) rfl ?_;replace H:=H.sub (Qai _ (Qaa _ (Qaa _ (Qaa _ (Qaa _ (Qaa _ (Qaa _ (Qaa _ (Qaa _ (Qai _ (Qam _)))))))))));obtain ⟨K',hle,H,hv⟩:=Hp.freezeDef H hV;exact ⟨K',_,rfl,hle.trans hK,H,by rw [HS.out];exact hv⟩
end Go.Proofs.YtbpgkkoeehopjaaGreat.hp
namespace Go.Proofs.YtbpgkkoeehopjaaGreat.hp
open Go.RowKit words enc tree gram lex rd dec dat held
set_option maxRecDepth 100000
attribute [local go_sem ↓] Go.wp_at_zero Go.wp_at_succ
set_option maxHeartbeats 16000000 in
theorem q0g (d more:DefD) (V:DV) (cs2:Array Value) (w0 w K:World) (M:List Ent) (H:Hp w0 w K (DV.rows d V++M)) (hV:V.ok K d) (hm:defN d+defN more≤9000000) (hd2:RL K (defL more) cs2.toList):
  Calls Tryz.prog 60 #[.agg (DV.cells d V).toArray,.agg cs2] w fun e w'=>∃K' V',e= .returned (.agg (DV.cells (y0z d more) V').toArray)∧Sat K' K∧Hp w0 w' K' (DV.rows (y0z d more) V'++M)∧V'.ok K' (y0z d more):=by
 obtain ⟨V8,V11,V6,V10,V14,V12,V9,V7,x8,x11,x6,x10,x14,x12,x9,x7⟩:=V;obtain ⟨C6,e6,C7,e7,C8,e8,C9,e9,C10,e10,C11,e11,C12,e12,C14,e14,hcs,-,-,-,-,-,-,-,-⟩:=y0c hd2;obtain ⟨k0,hk0,k0z,k0s,k0b⟩:=info_parts Go.Proofs.YtbpgkkoeehopjaaGreat.dat.named_info;obtain ⟨k1,hk1,k1z,k1s,k1b⟩:=info_parts x2z;obtain ⟨k2,hk2,k2z,k2s,k2b⟩:=info_parts x4z;obtain ⟨k3,hk3,k3z,k3s,k3b⟩:=info_parts x4y;obtain ⟨k5,hk5,k5z,k5s,k5b⟩:=info_parts z5n;obtain ⟨k6,hk6,k6z,k6s,k6b⟩:=info_parts z3g
 have hmc:defN more≤9000000:=by omega
 simp only [defN] at hm;have hld7:=y0o y4f d.dirs;have hld8:=y0o y2b d.fields;have hld9:=y0o y2u d.inputs;have hld11:=y0o y4a d.values;have hlmore7:=y0o y4f more.dirs;have hlmore8:=y0o y2b more.fields;have hlmore9:=y0o y2u more.inputs;have hlmore11:=y0o y4a more.values;obtain rfl:cs2= #[.int .i64 more.kind,.bool more.ext,.bool more.note.has,.bool more.note.block,.string (str more.note.text),.string (str more.name),.slice C6 more.ifaces.length e6,.slice C7 more.dirs.length e7,.slice C8 more.fields.length e8,.slice C9 more.inputs.length e9,.slice C10 more.members.length e10,.slice C11 more.values.length e11,.slice C12 more.roots.length e12,.bool more.rep,.slice C14 more.places.length e14,.int .i64 more.line,.int .i64 more.col]:=Qal.1 hcs;go_enter Tryz.func60,Tryz.ntmps60;replace H:Hp _ _ _ (_::_::_::_::_::_::_::_::M):=H
 try dsimp only at H
 obtain ⟨V14A,V14c,rfl,_,_⟩:=H.slice (i:=4) rfl;have hK:=Sat.refl K
 go_upto_region 2 with (first
  |(refine z17 (by rfl) 43 (.tmp 0) (by rfl) [.int .i64 d.kind,.bool d.ext,.bool d.note.has,.bool d.note.block,.string (str d.note.text),.string (str d.name),V6,V7,V8,V9,V10,V11,V12,.bool d.rep,.slice V14A d.places.length V14c,.int .i64 d.line,.int .i64 d.col] _ (by rfl) (by rfl) (some 2) (by rfl) H ?_;clear H;intro w1 g2 H hg2;clear hg2)
  |(refine z17 (by rfl) 43 (.tmp 1) (by rfl) [.int .i64 more.kind,.bool more.ext,.bool more.note.has,.bool more.note.block,.string (str more.note.text),.string (str more.name),.slice C6 more.ifaces.length e6,.slice C7 more.dirs.length e7,.slice C8 more.fields.length e8,.slice C9 more.inputs.length e9,.slice C10 more.members.length e10,.slice C11 more.values.length e11,.slice C12 more.roots.length e12,.bool more.rep,.slice C14 more.places.length e14,.int .i64 more.line,.int .i64 more.col] _ (by rfl) (by rfl) (some 3) (by rfl) H ?_;clear H;intro w3 g3 H hg4;clear hg4)
  |(go_at_call 65;refine (y8g more _ H hmc hd2).mono ?_;clear H;rintro e w5 ⟨K5,cs5,rfl,hle,H,hd5⟩;replace hd2:=hd2.sat hle;replace hV:=hV.sat hle;replace hK:=hle.trans hK;obtain ⟨D6,f6,D7,f7,D8,f8,D9,f9,D10,f10,D11,f11,D12,f12,D14,f14,hcs5,h6,h7,h8,h9,h10,h11,h12,h14⟩:=y0c hd5;obtain rfl:cs5= #[.int .i64 more.kind,.bool more.ext,.bool more.note.has,.bool more.note.block,.string (str more.note.text),.string (str more.name),.slice D6 more.ifaces.length f6,.slice D7 more.dirs.length f7,.slice D8 more.fields.length f8,.slice D9 more.inputs.length f9,.slice D10 more.members.length f10,.slice D11 more.values.length f11,.slice D12 more.roots.length f12,.bool more.rep,.slice D14 more.places.length f14,.int .i64 more.line,.int .i64 more.col]:=Qal.1 hcs5;clear hcs5 hd5)
  |((with_reducible refine isL ?_);first
   |(refine al z43 4 H ?_;clear H;intro w5 g4 H)
   |(refine ld 3 1 17 Tryz.underlying43 H ?_)
   |(refine sA 3 1 H ?_;clear H;intro w8 H)))
 have:=H.c 2 6;have:=H.c 1 6
 go_upto_region 3 with (first
  |(at_builtin;refine ap 5 e34 h6 (y39 more.ifaces) H ?_;clear H;intro us9 U6A U6c u6 hus9 lus9 _ _ H;dsimp only [List.set] at H;have:=H.c 2 6;have:=H.c 1 6)
  |((with_reducible refine isL ?_);first
   |(refine s1 12 2 (.slice U6A (d.ifaces.length+more.ifaces.length) U6c) H ?_;clear H;intro w10 H;have:=H.c 2 6;have:=H.c 1 6)))
 have:=H.c 2 7;have:=H.c 1 7
 go_upto_region 4 with (first
  |(at_builtin;refine ap 10 e35 h7 (z0f more.dirs) H ?_;clear H;intro us11 U7A U7c u7 hus11 lus11 _ _ H;dsimp only [List.set] at H;have:=H.c 2 7;have:=H.c 1 7)
  |((with_reducible refine isL ?_);first
   |(refine s1 18 2 (.slice U7A (d.dirs.length+more.dirs.length) U7c) H ?_;clear H;intro w12 H;have:=H.c 2 7;have:=H.c 1 7)))
 have:=H.c 2 8;have:=H.c 1 8
 go_upto_region 5 with (first
  |(at_builtin;refine ap 3 e36 h8 (y9i more.fields) H ?_;clear H;intro us13 U8A U8c u8 hus13 lus13 _ _ H;dsimp only [List.set] at H;have:=H.c 2 8;have:=H.c 1 8)
  |((with_reducible refine isL ?_);first
   |(refine s1 24 2 (.slice U8A (d.fields.length+more.fields.length) U8c) H ?_;clear H;intro w14 H;have:=H.c 2 8;have:=H.c 1 8)))
 have:=H.c 2 9;have:=H.c 1 9
 go_upto_region 6 with (first
  |(at_builtin;refine ap 9 e37 h9 (y9j more.inputs) H ?_;clear H;intro us15 U9A U9c u9 hus15 lus15 _ _ H;dsimp only [List.set] at H;have:=H.c 2 9;have:=H.c 1 9)
  |((with_reducible refine isL ?_);first
   |(refine s1 30 2 (.slice U9A (d.inputs.length+more.inputs.length) U9c) H ?_;clear H;intro w16 H;have:=H.c 2 9;have:=H.c 1 9)))
 have:=H.c 2 10;have:=H.c 1 10
 go_upto_region 7 with (first
  |(at_builtin;refine ap 6 e34 h10 (y39 more.members) H ?_;clear H;intro us17 U10A U10c u10 hus17 lus17 _ _ H;dsimp only [List.set] at H;have:=H.c 2 10;have:=H.c 1 10)
  |((with_reducible refine isL ?_);first
   |(refine s1 36 2 (.slice U10A (d.members.length+more.members.length) U10c) H ?_;clear H;intro w18 H;have:=H.c 2 10;have:=H.c 1 10)))
 have:=H.c 2 11;have:=H.c 1 11
 go_upto_region 8 with (first
  |(at_builtin;refine ap 4 e38 h11 (y9k more.values) H ?_;clear H;intro us19 U11A U11c u11 hus19 lus19 _ _ H;dsimp only [List.set] at H;have:=H.c 2 11;have:=H.c 1 11)
  |((with_reducible refine isL ?_);first
   |(refine s1 42 2 (.slice U11A (d.values.length+more.values.length) U11c) H ?_;clear H;intro w20 H;have:=H.c 2 11;have:=H.c 1 11)))
 have:=H.c 2 12;have:=H.c 1 12
 go_upto_region 9 with (first
  |(at_builtin;refine ap 8 e39 h12 (y44 more.roots) H ?_;clear H;intro us21 U12A U12c u12 hus21 lus21 _ _ H;dsimp only [List.set] at H;have:=H.c 2 12;have:=H.c 1 12)
  |((with_reducible refine isL ?_);first
   |(refine s1 48 2 (.slice U12A (d.roots.length+more.roots.length) U12c) H ?_;clear H;intro w22 H;have:=H.c 2 12;have:=H.c 1 12)))
 go_wp2_with (first
  |((with_reducible refine isL ?_);first
   |(refine ld 2 2 17 Tryz.underlying43 H ?_)
   |(refine sA 4 0 H ?_;clear H;intro w23 H)))
 refine bodyPost_ret (v:=.agg #[.int .i64 d.kind,.bool d.ext,.bool d.note.has,.bool d.note.block,.string (str d.note.text),.string (str d.name),.slice U6A (d.ifaces.length+more.ifaces.length) U6c,.slice U7A (d.dirs.length+more.dirs.length) U7c,.slice U8A (d.fields.length+more.fields.length) U8c,.slice U9A (d.inputs.length+more.inputs.length) U9c,.slice U10A (d.members.length+more.members.length) U10c,.slice U11A (d.values.length+more.values.length) U11c,.slice U12A (d.roots.length+more.roots.length) U12c,.bool d.rep,.slice V14A d.places.length V14c,.int .i64 d.line,.int .i64 d.col]) (results_cell_row rfl _ _ g4 43 _ (0,0) _ (by rfl) (H.blkAt (i:=0) rfl) Tryz.underlying43 rfl (by kernel_rfl)) rfl ?_;replace H:=H.sub (Qai _ (Qai _ (Qai _ (Qaa _ (Qaa _ (Qaa _ (Qaa _ (Qaa _ (Qaa _ (Qaa _ (Qaa _ (Qam _))))))))))));simp only [←Qae] at H ⊢;refine ⟨K5,⟨_,_,_,_,_,_,_,_,_,_,_,_,_,_,_,_⟩,rfl,hK,H,?_⟩;exact ⟨by dsimp only [y0z];rw [y2f];exact hV.r8.app (by assumption),by dsimp only [y0z];rw [y3e];exact hV.r11.app (by assumption),by dsimp only [y0z];rw [y3f];exact hV.r6.app (by assumption),by dsimp only [y0z];rw [y3f];exact hV.r10.app (by assumption),hV.r14,by dsimp only [y0z];rw [y3i];exact hV.r12.app (by assumption),by dsimp only [y0z];rw [y36];exact hV.r9.app (by assumption),by dsimp only [y0z];rw [y5c];exact hV.r7.app (by assumption)⟩
end Go.Proofs.YtbpgkkoeehopjaaGreat.hp
namespace Go.Proofs.YtbpgkkoeehopjaaGreat.hp
open Go.RowKit words enc tree gram lex rd dec dat held ty
section
variable {w0 w w' K K' : World} {M : List Ent}
abbrev z1o (g ga gd gf go:Nat) (ts ds:List DefD) (VT VD:Value) (TS:List (DefD×DV)) (xD:List Value):List Ent:=
 [tbox g ga gd gf go VT VD,.map ga (y06 (nmap (y0a ts))),.row 43 17 VT ts.length (y1b TS),.map gd (y06 (nmap (y0a ds))),.row 43 17 VD ds.length xD]
theorem Bst.of (E:List Ent) {g ga gd gf go:Nat} {ts ds:List DefD} {VT VD:Value} {TS:List (DefD×DV)} {xD:List Value} (hts:ts=TS.map (·.1)) (hok:tok K TS) (hxD:RL K (y0q ds) xD) (H:Hp w0 w K (E++(z1o g ga gd gf go ts ds VT VD TS xD++(y1i TS++M)))):Bst g ga gd gf go ts ds w0 w K (E++M):=by
 refine ⟨TS,VT,VD,xD,hts,hok,hxD,?_⟩
 have h:Hp w0 w K (E++((z1o g ga gd gf go ts ds VT VD TS xD++y1i TS)++M)):=by rw [Qat];exact H
 have h2:=Hp.rot E (z1o g ga gd gf go ts ds VT VD TS xD++y1i TS) (M:=M) h;rw [Qat] at h2;exact h2
theorem Bst.to (E:List Ent) {g ga gd gf go:Nat} {ts ds:List DefD} (H:Bst g ga gd gf go ts ds w0 w K (E++M)): ∃TS VT VD xD,ts=TS.map (·.1)∧tok K TS∧RL K (y0q ds) xD∧Hp w0 w K (E++(z1o g ga gd gf go ts ds VT VD TS xD++(y1i TS++M))):=by
 obtain ⟨TS,VT,VD,xD,hts,hok,hxD,H⟩:=H;refine ⟨TS,VT,VD,xD,hts,hok,hxD,?_⟩
 have h2:Hp w0 w K ((z1o g ga gd gf go ts ds VT VD TS xD++y1i TS)++(E++M)):=by rw [Qat];exact H
 have h3:=Hp.rot (z1o g ga gd gf go ts ds VT VD TS xD++y1i TS) E (M:=M) h2;rw [Qat] at h3;exact h3
theorem z58 (E:List Ent) (d:DefD) (cs:Array Value) (g ga gd gf go:Nat) (ts ds:List DefD) {VT VD:Value} {TS:List (DefD×DV)} {xD:List Value} (hts:ts=TS.map (·.1)) (hok:tok K TS) (hxD:RL K (y0q ds) xD)
  (H:Hp w0 w K (E++(z1o g ga gd gf go ts ds VT VD TS xD++(y1i TS++M)))) (hd:RL K (defL d) cs.toList) (hm:defN d≤9000000) (hk:ts.length≤9000000):
  Calls Tryz.prog 59 #[.pointer (some ⟨g,0,none⟩),.agg cs] w fun e w'=>∃K' TS' VT' VD' xD',e= .returned (.tuple #[])∧Sat K' K∧addD ts d=TS'.map (·.1)∧tok K' TS'∧RL K' (y0q ds) xD'∧Hp w0 w' K' (E++(z1o g ga gd gf go (addD ts d) ds VT' VD' TS' xD'++(y1i TS'++M))):=
 (x1z d cs g ga gd gf go ts ds (Bst.of E hts hok hxD H) hd hm hk).mono fun e w' ⟨K',he,hle,H⟩=>by
   obtain ⟨TS',VT',VD',xD',h1,h2,h3,h4⟩:=Bst.to E H;exact ⟨K',TS',VT',VD',xD',he,hle,h1,h2,h3,h4⟩
theorem z9r (E:List Ent) (d:DefD) (cs:Array Value) (g ga gd gf go:Nat) (ts ds:List DefD) {VT VD:Value} {TS:List (DefD×DV)} {xD:List Value} (hts:ts=TS.map (·.1)) (hok:tok K TS) (hxD:RL K (y0q ds) xD)
  (H:Hp w0 w K (E++(z1o g ga gd gf go ts ds VT VD TS xD++(y1i TS++M)))) (hd:RL K (defL d) cs.toList) (hm:defN d≤9000000) (hk:ds.length≤9000000):
  Calls Tryz.prog 58 #[.pointer (some ⟨g,0,none⟩),.agg cs] w fun e w'=>∃K' TS' VT' VD' xD',e= .returned (.tuple #[])∧Sat K' K∧ts=TS'.map (·.1)∧tok K' TS'∧RL K' (y0q (addD ds d)) xD'∧Hp w0 w' K' (E++(z1o g ga gd gf go ts (addD ds d) VT' VD' TS' xD'++(y1i TS'++M))):=
 (x6d d cs g ga gd gf go ts ds (Bst.of E hts hok hxD H) hd hm hk).mono fun e w' ⟨K',he,hle,H⟩=>by
   obtain ⟨TS',VT',VD',xD',h1,h2,h3,h4⟩:=Bst.to E H;exact ⟨K',TS',VT',VD',xD',he,hle,h1,h2,h3,h4⟩
theorem q0h (E:List Ent) (d more:DefD) (V:DV) (A B:List (DefD×DV)) (cs2:Array Value) (H:Hp w0 w K (E++(y1i (A++(d,V)::B)++M))) (hok:tok K (A++(d,V)::B)) (hm:defN d+defN more≤9000000) (hd2:RL K (defL more) cs2.toList):
  Calls Tryz.prog 60 #[.agg (DV.cells d V).toArray,.agg cs2] w fun e w'=>∃K' V',e= .returned (.agg (DV.cells (y0z d more) V').toArray)∧Sat K' K∧Hp w0 w' K' (E++(y1i (A++(y0z d more,V')::B)++M))∧tok K' (A++(y0z d more,V')::B)∧ ∀u∈DV.cells (y0z d more) V',u.oneCell'=true:=by
 have split: ∀(e:DefD) (U:DV),y1i (A++(e,U)::B)=y1i A++(DV.rows e U++y1i B):=fun e U=>by rw [z9p];simp [y1i]
 have H1:Hp w0 w K ((E++y1i A)++(DV.rows d V++(y1i B++M))):=by
  rw [split] at H;simpa only [Qat] using H
 have H2:=Hp.rot (E++y1i A) (DV.rows d V) (M:=y1i B++M) H1;refine (q0g d more V cs2 w0 w K _ H2 (hok (d,V) (by simp)) hm hd2).mono ?_;rintro e w' ⟨K',V',rfl,hle,H3,hV'⟩;refine ⟨K',V',rfl,hle,?_,?_,y87 H3⟩
 ·have H4:=Hp.rot (DV.rows (y0z d more) V') (E++y1i A) (M:=y1i B++M) H3;rw [split];simpa only [Qat] using H4
 ·intro p hp;rcases Qbf.1 hp with hp|hp
  ·exact (hok p (Qbw _ hp)).sat hle
  ·rcases Qbd.1 hp with rfl|hp
   ·exact hV'
   ·exact (hok p (Qbx _ (Qa2 _ hp))).sat hle
theorem x3u {g n c i:Nat} {A B:List (DefD×DV)} {d:DefD} {V:DV} {k:Nat} (H:Hp w0 w K M) (hi:M[i]?=some (.row 43 17 (.slice (some ⟨g,0,none⟩) n c) n (y1b (A++(d,V)::B)))) (hk:A.length=k):At w ((⟨g,0,none⟩:Addr).add (k*17)) (DV.cells d V):=by
 have hc: ∀j u,(DV.cells d V)[j]?=some u→(y1b (A++(d,V)::B))[k*17+j]?=some u:=fun j u hu=>by
  have h1:y1b (A++(d,V)::B)=y1b A++(DV.cells d V++y1b B):=by rw [z1m];simp [y1b]
  have h2:(y1b A).length=k*17:=by rw [z1l,hk]
  rw [h1,Qba (by omega),h2,Nat.add_sub_cancel_left,Qa9 (Qac.1 hu).1];exact hu
 refine ⟨fun u hu=>?_,fun j u hu=>?_⟩
 ·rw [y3l];exact H.rowCell hi (hc 0 u hu)
 ·rw [y3l];exact H.rowCell hi (hc (j+1) u hu)
theorem q3r {g n c i:Nat} {A B:List (DefD×DV)} {d:DefD} {V:DV} {k j:Nat} {u:Value} (H:Hp w0 w K M) (hi:M[i]?=some (.row 43 17 (.slice (some ⟨g,0,none⟩) n c) n (y1b (A++(d,V)::B)))) (hk:A.length=k) (hu:(DV.cells d V)[j]?=some u):w.cell? ⟨g,k*17+j,none⟩=some u:=by
 have h:=x3u H hi hk;rw [y3l] at h
 cases j with
 |zero=>exact h.1 u hu
 |succ j=>exact h.2 j u hu
theorem z9s {g n c i:Nat} {A B:List (DefD×DV)} {d:DefD} {V:DV} {k:Nat} (H:Hp w0 w K M) (hi:M[i]?=some (.row 43 17 (.slice (some ⟨g,0,none⟩) n c) n (y1b (A++(d,V)::B)))) (hk:A.length=k):w.rangeAt g (k*17) (DV.cells d V):=fun _ _ hu=>q3r H hi hk hu
theorem q6k {A B:List (DefD×DV)} {d e:DefD} {V U:DV} {k:Nat} (hk:A.length=k):(y1b (A++(d,V)::B)).take (k*17)++DV.cells e U++(y1b (A++(d,V)::B)).drop (k*17+(DV.cells e U).length)=y1b (A++(e,U)::B):=by
 have h1: ∀(x:DefD) (X:DV),y1b (A++(x,X)::B)=y1b A++(DV.cells x X++y1b B):=fun x X=>by rw [z1m];simp [y1b]
 have h2:(y1b A).length=k*17:=by rw [z1l,hk]
 rw [h1,h1,List.take_left' h2,←List.drop_drop,List.drop_left' h2,List.drop_left' (by rfl),Qat]
end
set_option maxRecDepth 100000
attribute [local go_sem ↓] Go.wp_at_zero Go.wp_at_succ
theorem z0w (w:World):(zeroValue 87).run Tryz.prog w= .ok (.map none) w:=by kernel_rfl
theorem x6i (w:World) (r:Option Nat):(binOp .eql 87 (.map r) (.map none)).run Tryz.prog w= .ok (.bool r.isNone) w:=run_eql_map_nil w _ _ _ r Tryz.underlying87
set_option maxHeartbeats 4000000 in
theorem q0i (x n:Txt) (m:Nat) (om:OMap) (g go:Nat) (cs:List Value) (w0 w K:World) (M:List Ent) (H:Ost go om w0 w K M) (hT:Kb K g cs 91) (hgo:cs[22]?=some (.map (some go))):
  Calls Tryz.prog 108 #[.pointer (some ⟨g,0,none⟩),.string (str x),.string (str n),.int .i64 (m:Int)] w fun e w'=>e= .returned (.tuple #[])∧Ost go (addO om x n m) w0 w' K M:=by
 obtain ⟨OB,rfl,H⟩:=H;have hq:=x6i;rcases z56 x OB with ⟨hf,ha⟩|⟨A,b,s,B,rfl,hf,ha⟩
 ·rw [ha];go_enter Tryz.func108,Tryz.ntmps108;replace H:Hp _ _ _ (_::(y1x OB++M)):=H
  try dsimp only at H
  have cf1:(w).cell? ⟨g,22,none⟩=some (.map (some go)):=H.kcell hT hgo
  go_upto_region 1 with (first
   |(refine y1a (by rfl) (.tmp 14) (.tmp 15) 89 false (by rfl) Tryz.underlying89 (y08 Tryz.underlying9) (.map none) z0w go (y15 OB) (H.mapAt (i:=0) rfl) (by first|rfl|simp [Act.eval,Act.put]) (x) (by first|rfl|simp [Act.eval,Act.put]) (.map none) (by rw [hf];rfl) ?_))
  go_upto_region 2 with (fail)
  go_upto_region 3 with (first
   |(refine y4c (by rfl) 87 (by rfl) (some 19) (by rfl) H ?_;clear H;intro w2 b19 H;replace H:Hp _ _ _ (.map b19 (y00 ks [])::_):=H))
  have cf3:(w2).cell? ⟨g,22,none⟩=some (.map (some go)):=H.kcell hT hgo
  go_upto_region 4 with (first
   |(refine y8p (by rfl) (.tmp 23) (.tmp 24) (.tmp 25) 89 (by rfl) Tryz.underlying89 (y08 Tryz.underlying9) H 1 go (y15 OB) (by rfl) (by first|rfl|simp [Act.eval,Act.put]) (x) (by first|rfl|simp [Act.eval,Act.put]) (.map (some b19)) (by first|rfl|simp [Act.eval,Act.put]) (y15 OB++[(x,.map (some b19))]) (z2t hf) ?_;clear H;intro w4 H;replace H:Hp _ _ _ (_::_::(y1x OB++M)):=H;have cf5:(w4).cell? ⟨g,22,none⟩=some (.map (some go)):=H.kcell hT hgo))
  go_upto_region 5 with (first
   |(refine y1a (by rfl) (.tmp 27) (.tmp 28) 87 true (by rfl) Tryz.underlying87 (y08 Tryz.underlying9) (.int .i64 0) y0j b19 ([]) (H.mapAt (i:=0) rfl) (by first|rfl|simp [Act.eval,Act.put]) (n) (by first|rfl|simp [Act.eval,Act.put]) (.tuple #[.int .i64 0,.bool false]) (by rfl) ?_))
  go_upto_region 6 with (fail)
  go_wp2_with (first
   |(refine y8p (by rfl) (.tmp 34) (.tmp 35) (.tmp 36) 87 (by rfl) Tryz.underlying87 (y08 Tryz.underlying9) H 0 b19 [] (by rfl) (by first|rfl|simp [Act.eval,Act.put]) (n) (by first|rfl|simp [Act.eval,Act.put]) (.int .i64 (m:Int)) (by first|rfl|simp [Act.eval,Act.put]) [(n,.int .i64 (m:Int))] (by rfl) ?_;clear H;intro w6 H;replace H:Hp _ _ _ (_::_::(y1x OB++M)):=H))
  go_end0
  refine ⟨rfl,OB++[(x,b19,[(n,.int .i64 (m:Int))])],by simp [omap],?_⟩;have H2:=Hp.rotAt [] [.map b19 (y00 ks [(n,.int .i64 (m:Int))])] (.map go (y00 ks (y15 OB++[(x,.map (some b19))]))::y1x OB) (M:=M) H
  have e1:y1x (OB++[(x,b19,[(n,.int .i64 (m:Int))])])=y1x OB++[.map b19 (y00 ks [(n,.int .i64 (m:Int))])]:=by simp [y1x,y06,y00]
  have e2:y15 (OB++[(x,b19,[(n,.int .i64 (m:Int))])])=y15 OB++[(x,.map (some b19))]:=by simp [y15]
  rw [e1,e2,Qat];exact H2
 ·rw [ha]
  have e1:y1x (A++(x,b,s)::B)=y1x A++ .map b (y06 s)::y1x B:=by simp [y1x]
  have H0:=H;rw [e1,Qat] at H;replace H:=Hp.rotAt [] (.map go (y06 (y15 (A++(x,b,s)::B)))::y1x A) [.map b (y06 s)] (M:=y1x B++M) H
  have hback: ∀s' w',Hp w0 w' K (.map b (y06 s'):: .map go (y06 (y15 (A++(x,b,s)::B)))::(y1x A++(y1x B++M)))→Ost go (omap A++(x,s')::omap B) w0 w' K M:=by
   intro s' w' H;refine ⟨A++(x,b,s')::B,by simp [omap],?_⟩
   have e2:y1x (A++(x,b,s')::B)=y1x A++ .map b (y06 s')::y1x B:=by simp [y1x]
   have e3:y15 (A++(x,b,s')::B)=y15 (A++(x,b,s)::B):=by simp [y15]
   rw [e2,e3,Qat];exact Hp.rotAt [] [.map b (y06 s')] (.map go (y06 (y15 (A++(x,b,s)::B)))::y1x A) (M:=y1x B++M) H
  generalize y15 (A++(x,b,s)::B)=ov at H hf hback
  cases hs:y0x s n with
  |some v=>
   go_enter Tryz.func108,Tryz.ntmps108;replace H:Hp _ _ _ (_::_::(y1x A++(y1x B++M))):=H
   try dsimp only at H
   have cf7:(w).cell? ⟨g,22,none⟩=some (.map (some go)):=H.kcell hT hgo
   go_upto_region 1 with (first
    |(refine y1a (by rfl) (.tmp 14) (.tmp 15) 89 false (by rfl) Tryz.underlying89 (y08 Tryz.underlying9) (.map none) z0w go (ov) (H.mapAt (i:=1) rfl) (by first|rfl|simp [Act.eval,Act.put]) (x) (by first|rfl|simp [Act.eval,Act.put]) (.map (some b)) (by rw [hf];rfl) ?_))
   go_upto_region 4 with (fail)
   go_upto_region 5 with (first
    |(refine y1a (by rfl) (.tmp 27) (.tmp 28) 87 true (by rfl) Tryz.underlying87 (y08 Tryz.underlying9) (.int .i64 0) y0j b (s) (H.mapAt (i:=0) rfl) (by first|rfl|simp [Act.eval,Act.put]) (n) (by first|rfl|simp [Act.eval,Act.put]) (.tuple #[v,.bool true]) (by rw [hs];rfl) ?_))
   go_wp2_with fail
   go_end0
   have hsa:z0s s n m=s:=by simp [z0s,hs]
   rw [hsa];exact ⟨rfl,hback s _ H⟩
  |none=>
   go_enter Tryz.func108,Tryz.ntmps108;replace H:Hp _ _ _ (_::_::(y1x A++(y1x B++M))):=H
   try dsimp only at H
   have cf8:(w).cell? ⟨g,22,none⟩=some (.map (some go)):=H.kcell hT hgo
   go_upto_region 1 with (first
    |(refine y1a (by rfl) (.tmp 14) (.tmp 15) 89 false (by rfl) Tryz.underlying89 (y08 Tryz.underlying9) (.map none) z0w go (ov) (H.mapAt (i:=1) rfl) (by first|rfl|simp [Act.eval,Act.put]) (x) (by first|rfl|simp [Act.eval,Act.put]) (.map (some b)) (by rw [hf];rfl) ?_))
   go_upto_region 4 with (fail)
   go_upto_region 5 with (first
    |(refine y1a (by rfl) (.tmp 27) (.tmp 28) 87 true (by rfl) Tryz.underlying87 (y08 Tryz.underlying9) (.int .i64 0) y0j b (s) (H.mapAt (i:=0) rfl) (by first|rfl|simp [Act.eval,Act.put]) (n) (by first|rfl|simp [Act.eval,Act.put]) (.tuple #[.int .i64 0,.bool false]) (by rw [hs];rfl) ?_))
   go_upto_region 6 with (fail)
   go_wp2_with (first
    |(refine y8p (by rfl) (.tmp 34) (.tmp 35) (.tmp 36) 87 (by rfl) Tryz.underlying87 (y08 Tryz.underlying9) H 0 b s (by rfl) (by first|rfl|simp [Act.eval,Act.put]) (n) (by first|rfl|simp [Act.eval,Act.put]) (.int .i64 (m:Int)) (by first|rfl|simp [Act.eval,Act.put]) (s++[(n,.int .i64 (m:Int))]) (z2t hs) ?_;clear H;intro w9 H;replace H:Hp _ _ _ (_::_::(y1x A++(y1x B++M))):=H))
   go_end0
   have hsa:z0s s n m=s++[(n,.int .i64 (m:Int))]:=by simp [z0s,hs]
   rw [hsa];exact ⟨rfl,hback _ _ H⟩
theorem y3m {w:World} {a T:Nat} {d:FieldD} {vs:List Value} (h:DatL w a T (y07 d) vs):
  ∃A c A2 c2,vs=[.bool d.note.has,.bool d.note.block,.string (str d.note.text),.string (str d.name),.slice A d.args.length c,.string (str d.ty.1),.string (str d.ty.2),.slice A2 d.dirs.length c2,.int .i64 d.line,.int .i64 d.col]∧Dat w a T (.list d.args.length (y0k d.args)) (.slice A d.args.length c)∧Dat w a T (.list d.dirs.length (y2a d.dirs)) (.slice A2 d.dirs.length c2):=by
 obtain ⟨⟨nh,nb,nt⟩,dn,args,⟨tn,tw⟩,dirs,dl,dc⟩:=d;exact y1r h
theorem y73 {w:World} {a T:Nat} {d:NamedD} {vs:List Value} (h:DatL w a T (y7p d) vs):vs=[.string (str d.name),.int .i64 d.line,.int .i64 d.col]:=by
 obtain ⟨r0,rfl,h0⟩:=h.lit_inv;obtain ⟨r1,rfl,h1⟩:=h0.lit_inv;obtain ⟨r2,rfl,h2⟩:=h1.lit_inv;rw [h2.nil_inv]
theorem y8s:(Tryz.prog.info? 52).map (·.size)=some 10:=by kernel_rfl
theorem z59:(Tryz.prog.info? 113).map (·.size)=some 3:=by kernel_rfl
theorem y1d (x:Txt) (kk:Int) (g ga gd gf go:Nat) (sch:List Value) (VT VD:Value) (s:DefD) (ts ds:List DefD) (w0 w K:World) (M:List Ent) (H:Hp w0 w K M) (T:TyA K g ga gd gf go sch VT VD s ts ds) (hk:y0l ts x=kk):
  Calls Tryz.prog 79 #[.pointer (some ⟨g,0,none⟩),.string (str x)] w fun e w'=>e= .returned (.int .i64 kk)∧Hp w0 w' K M:=by
 subst hk;exact q6j x g ga gd gf go sch VT VD s ts ds w0 w K M H T
theorem z4n (A:List Ent) (x n:Txt) (m:Nat) (OB:List (Txt×Nat×List (Txt×Value))) (g go:Nat) (cs:List Value) (w0 w K:World) (M:List Ent) (H:Hp w0 w K (A++(.map go (y06 (y15 OB))::(y1x OB++M)))) (hT:Kb K g cs 91) (hgo:cs[22]?=some (.map (some go))):
  Calls Tryz.prog 108 #[.pointer (some ⟨g,0,none⟩),.string (str x),.string (str n),.int .i64 (m:Int)] w fun e w'=>e= .returned (.tuple #[])∧ ∃OB',addO (omap OB) x n m=omap OB'∧Hp w0 w' K (A++(.map go (y06 (y15 OB'))::(y1x OB'++M))):=by
 have H1:Hp w0 w K (.map go (y06 (y15 OB))::(y1x OB++(A++M))):=by
  have h:=Hp.rot A (.map go (y06 (y15 OB))::y1x OB) (M:=M) H;exact h
 refine (q0i x n m (omap OB) g go cs w0 w K (A++M) ⟨OB,rfl,H1⟩ hT hgo).mono ?_;rintro e w' ⟨rfl,OB',h1,h2⟩;exact ⟨rfl,OB',h1,Hp.rot (.map go (y06 (y15 OB'))::y1x OB') A (M:=M) h2⟩
def z9t (ts:List DefD) (nm:Txt) (i:Nat) (m:OMap) (n:NamedD):OMap:=if y0l ts n.name=4 then addO m n.name nm i else m
def z9u (ts:List DefD) (nm:Txt) (m:OMap) (q:NamedD×Nat):OMap:=if y0l ts q.1.name=3 then addO m nm q.1.name q.2 else m
theorem q0j {ts:List DefD} {m:OMap} {d:DefD} {i:Nat} (h:d.kind=3):y50 ts m (d,i)=d.ifaces.foldl (z9t ts d.name i) (addO m d.name d.name i):=by
 unfold y50;rw [if_pos h];rfl
theorem q0k {ts:List DefD} {m:OMap} {d:DefD} {i:Nat} (h:d.kind=5):y50 ts m (d,i)=d.members.zipIdx.foldl (z9u ts d.name) m:=by
 have h3: ¬d.kind=3:=by omega
 unfold y50;rw [if_neg h3,if_pos h];rfl
theorem q0l {ts:List DefD} {m:OMap} {d:DefD} {i:Nat} (h3: ¬d.kind=3) (h5: ¬d.kind=5):y50 ts m (d,i)=m:=by
 unfold y50;rw [if_neg h3,if_neg h5]
set_option maxHeartbeats 16000000 in
theorem q3s (g ga gd gf go:Nat) (sch:List Value) (VT VD:Value) (s:DefD) (ts ds:List DefD) (n:Nat) (w0 w K:World) (M:List Ent) (H:Hp w0 w K (.map gf []:: .map go []::M)) (T:TyA K g ga gd gf go sch VT VD s ts ds) (hn:ts.length=n) (hm:y0e ts≤20000000):
  Calls Tryz.prog 62 #[.pointer (some ⟨g,0,none⟩)] w fun e w'=>e= .returned (.tuple #[])∧ ∃OB,z4i ts=omap OB∧Hp w0 w' K (.map gf (y00 kp (fieldsOf ts)):: .map go (y06 (y15 OB))::(y1x OB++M)):=by
 have hnl:n≤20000000:=by have:=y0o y2g ts;unfold y0e at hm;omega
 obtain ⟨A,c,rfl,hc1,hc2⟩:=y4h T.types;rw [hn] at hc1;have HT:=T.types;have h17:=H.kcell T.box T.c17;rw [hn] at HT h17;have HN:=hide hn;clear hn;go_enter Tryz.func62,Tryz.ntmps62
 go_wp2_with fail
 go_loopw [17] (fun i wr=>∃(k:Nat) (OB:List (Txt×Nat×List (Txt×Value))),k≤n∧i= .int .i64 k∧(ts.take k).zipIdx.foldl (y50 ts) []=omap OB∧Hp w0 wr K (.map gf (y00 kp ((ts.take k).foldl z9l [])):: .map go (y06 (y15 OB))::(y1x OB++M))) (fun i _=>n - (intOf i).toNat)
 case atStart=>exact ⟨0,[],Qak _,rfl,rfl,H⟩
 case round=>
  clear H h17;obtain ⟨k,OB,hk,rfl,hom,H⟩:=hrel;by_cases hlt:k<n
  ·have hkI:(k:Int)<(n:Int):=by omega
   obtain ⟨d,hd⟩: ∃x,ts[k]?=some x:=⟨_,Qad (by rw [HN.out];exact hlt)⟩;have HE1:=hide (y5k hd z9l []);have HE2:=hide (y63 hd (y50 ts) []);obtain ⟨ad,xs,rfl,hxd,_,hat⟩:=y7v (m:=17) (f:=defL) y0u H HT hd (by omega);have hdn:=y3h hd;have hif:=z4m d;have hme:=z54 d;have hfi:=q0b d;clear hd;obtain ⟨A6,c6,A7,c7,A8,c8,A9,c9,A10,c10,A11,c11,A12,c12,A14,c14,rfl,d6,-,d8,-,d10,-,-,-⟩:=y0c hxd;clear hxd;obtain ⟨kd,hkd⟩: ∃kd,d.kind=kd:=⟨_,rfl⟩;rw [hkd] at hat;have HKD:=hide hkd;clear hkd;have hsz:(Tryz.prog.info? 43).map (·.size)=some 17:=z0e;generalize hF0:(ts.take k).foldl z9l []=F0 at H HE1;rw [hom] at HE2;clear hF0 hom
   go_upto_region 3 with (first
    |((with_reducible show wpList _ _ _ (_::_) _ _);refine y0d (by rfl) 43 (.tmp 20) (by rfl) (ad.add (k*17)) (by simp [Act.eval,Act.put]) _ _ hat Tryz.underlying43 rfl hsz ?_)
    |((with_reducible refine isL ?_);first
     |(refine al z43 3 H ?_;clear H;intro w1 g3 H)
     |(refine sA 3 0 H ?_;clear H;intro w3 H)))
   clear hat;have hF:(w3).cell? ⟨g3,8,none⟩=some (.slice A8 d.fields.length c8):=H.cell (i:=0) rfl rfl;obtain ⟨nf,hnf⟩: ∃x,d.fields.length=x:=⟨_,rfl⟩;have HNF:=hide hnf;rw [hnf] at H hF d8 hfi;clear hnf;have hsf:=y8s;have hsn:=z59
   go_wp2_with fail
   go_loopw [25] (fun i wr=>∃(j:Nat),j≤nf∧i= .int .i64 j∧Hp w0 wr K (.box g3 [.int .i64 kd,.bool d.ext,.bool d.note.has,.bool d.note.block,.string (str d.note.text),.string (str d.name),.slice A6 d.ifaces.length c6,.slice A7 d.dirs.length c7,.slice A8 nf c8,.slice A9 d.inputs.length c9,.slice A10 d.members.length c10,.slice A11 d.values.length c11,.slice A12 d.roots.length c12,.bool d.rep,.slice A14 d.places.length c14,.int .i64 d.line,.int .i64 d.col] 43:: .map gf (y00 kp ((d.fields.take j).zipIdx.foldl (fun m p=>addF m d.name p.1.name p.2) F0)):: .map go (y06 (y15 OB))::(y1x OB++M))) (fun i _=>nf - (intOf i).toNat)
   case atStart=>exact ⟨0,Qak _,rfl,H⟩
   case round=>
    clear H hF;obtain ⟨j,hj,rfl,H⟩:=hrel;by_cases hjl:j<nf
    ·have hjI:(j:Int)<(nf:Int):=by omega
     obtain ⟨x,hx⟩: ∃x,d.fields[j]?=some x:=⟨_,Qad (by rw [HNF.out];exact hjl)⟩;have HE3:=hide (y63 hx (fun m p=>addF m d.name p.1.name p.2) F0);obtain ⟨ad2,ys,rfl,hxd2,_,hat2⟩:=y7v (m:=10) (f:=y07) (fun _=>rfl) H d8 hx (by omega);clear hx;obtain ⟨B4,e4,B7,e7,rfl,-,-⟩:=y3m hxd2;clear hxd2;generalize hF1:(d.fields.take j).zipIdx.foldl (fun m p=>addF m d.name p.1.name p.2) F0=F1 at H HE3;clear hF1
     go_upto_region 6 with (first
      |((with_reducible show wpList _ _ _ (_::_) _ _);refine y0d (by rfl) 52 (.tmp 28) (by rfl) (ad2.add (j*10)) (by simp [Act.eval,Act.put]) _ _ hat2 Tryz.underlying52 rfl hsf ?_)
      |((with_reducible refine isL ?_);first
       |(refine al z52 5 H ?_;clear H;intro w4 g5 H)
       |(refine sA 5 0 H ?_;clear H;intro w6 H)))
     clear hat2
     cases hf:y0x F1 (d.name,x.name) with
     |some v=>
      have cf7:(w6).cell? ⟨g,21,none⟩=some (.map (some gf)):=H.kcell T.box T.c21;have:=H.c 1 5;have:=H.c 0 3;have hrun:=fun k=>y0p (P:=Tryz.prog) (w:=(w6).drewN k) (t:=88) (kt:=125) (et:=3) (l:=F1) (b:=gf) Tryz.underlying88 (z0r z7j) (.int .i64 0) (y0j _) ((H.drew k).mapAt (i:=2) rfl) (d.name,x.name) true
      go_quiet (fail)
      replace H:=H.drew nq;obtain ⟨w8,hq9⟩: ∃x,(w6).drewN nq=x:=⟨_,rfl⟩;rw [hq9] at H ⊢;clear hq9;replace H:Hp _ _ _ (_::_::_::_::(y1x OB++M)):=H
      go_wp2_with fail
      replace H:=H.sub (Qai _ (Qaa _ (Qaa _ (Qaa _ (Qam _)))));go_roundw
      case rel=>exact ⟨j+1,by omega,by go_num,by rw [HE3.out];unfold addF;rw [hf];exact H⟩
      case measure=>simp [intOf];omega
     |none=>
      have cf10:(w6).cell? ⟨g,21,none⟩=some (.map (some gf)):=H.kcell T.box T.c21;have:=H.c 1 5;have:=H.c 0 3;have hrun:=fun k=>y0p (P:=Tryz.prog) (w:=(w6).drewN k) (t:=88) (kt:=125) (et:=3) (l:=F1) (b:=gf) Tryz.underlying88 (z0r z7j) (.int .i64 0) (y0j _) ((H.drew k).mapAt (i:=2) rfl) (d.name,x.name) true
      go_quiet (fail)
      replace H:=H.drew nq;obtain ⟨w11,hq12⟩: ∃x,(w6).drewN nq=x:=⟨_,rfl⟩;rw [hq12] at H ⊢;clear hq12;replace H:Hp _ _ _ (_::_::_::_::(y1x OB++M)):=H;clear hrun
      go_upto_region 8 with (fail)
      refine q2k 10 (by kernel_rfl) (by kernel_rfl) H ?_;clear H;intro w13 H;have cf14:(w13).cell? ⟨g,21,none⟩=some (.map (some gf)):=H.kcell T.box T.c21;have:=H.c 1 5;have:=H.c 0 3;simp only [List.take_succ_cons,List.take_zero,List.drop_succ_cons,List.drop_zero]
      repeat still_step
      refine wpStill_nil ?_;replace H:Hp _ _ _ (_::_::_::_::(y1x OB++M)):=H;have cf15:(w13).cell? ⟨g,21,none⟩=some (.map (some gf)):=H.kcell T.box T.c21;have:=H.c 1 5;have:=H.c 0 3
      go_upto_region 9 with (first
       |(refine y8p (by rfl) (.tmp 48) (.tmp 53) (.tmp 54) 88 (by rfl) Tryz.underlying88 (z0r z7j) H 2 gf F1 (by rfl) (by first|rfl|simp [Act.eval,Act.put]) ((d.name,x.name)) (by first|rfl|simp [Act.eval,Act.put]) (.int .i64 (j:Int)) (by first|rfl|simp [Act.eval,Act.put]) (F1++[((d.name,x.name),.int .i64 (j:Int))]) (z2t hf) ?_;clear H;intro w16 H;replace H:Hp _ _ _ (_::_::_::_::(y1x OB++M)):=H;have cf17:(w16).cell? ⟨g,21,none⟩=some (.map (some gf)):=H.kcell T.box T.c21;have:=H.c 1 5;have:=H.c 0 3))
      replace H:=H.sub (Qai _ (Qaa _ (Qaa _ (Qaa _ (Qam _)))))
      go_wp2_with fail
      go_roundw
      case rel=>exact ⟨j+1,by omega,by go_num,by rw [HE3.out];unfold addF;rw [hf];exact H⟩
      case measure=>simp [intOf];omega
    ·obtain rfl:nf=j:=by omega
     have htk:d.fields.take nf=d.fields:=by rw [←HNF.out];exact List.take_length
     rw [htk] at H;clear htk;have hFd:d.fields.zipIdx.foldl (fun m p=>addF m d.name p.1.name p.2) F0=z9l F0 d:=rfl;rw [hFd,←HE1.out] at H;clear hFd;generalize hF2:(ts.take (k+1)).foldl z9l []=F2 at H;have hK0:(wr).cell? ⟨g3,0,none⟩=some (.int .i64 kd):=H.cell (i:=0) rfl rfl;by_cases h3:kd=3
     ·subst h3;obtain ⟨ni,hni⟩: ∃x,d.ifaces.length=x:=⟨_,rfl⟩;have HNI:=hide hni;rw [hni] at H d6 hif;clear hni;have:=H.c 0 0;have:=H.c 0 5
      go_upto_region 13 with (first
       |(go_at_call 108;refine (z4n [.box g3 [.int .i64 3,.bool d.ext,.bool d.note.has,.bool d.note.block,.string (str d.note.text),.string (str d.name),.slice A6 ni c6,.slice A7 d.dirs.length c7,.slice A8 nf c8,.slice A9 d.inputs.length c9,.slice A10 d.members.length c10,.slice A11 d.values.length c11,.slice A12 d.roots.length c12,.bool d.rep,.slice A14 d.places.length c14,.int .i64 d.line,.int .i64 d.col] 43,.map gf (y00 kp F2)] d.name d.name k OB g go _ _ _ _ M H T.box T.c22).mono ?_;clear H;rintro e w5 ⟨rfl,OB5,hO5,H⟩;have:=H.c 0 0;have:=H.c 0 5))
      replace H:Hp _ _ _ (.box _ [_,_,_,_,_,_,_,_,_,_,_,_,_,_,_,_,_] _::_::_::(y1x OB5++M)):=H
      try dsimp only at H
      have hI:(w5).cell? ⟨g3,6,none⟩=some (.slice A6 ni c6):=H.cell (i:=0) rfl rfl;clear hK0
      go_wp2_with fail
      go_loopw [70] (fun i wr=>∃(j:Nat) (OB6:List (Txt×Nat×List (Txt×Value))),j≤ni∧i= .int .i64 j∧(d.ifaces.take j).foldl (z9t ts d.name k) (addO (omap OB) d.name d.name k)=omap OB6∧Hp w0 wr K (.box g3 [.int .i64 3,.bool d.ext,.bool d.note.has,.bool d.note.block,.string (str d.note.text),.string (str d.name),.slice A6 ni c6,.slice A7 d.dirs.length c7,.slice A8 nf c8,.slice A9 d.inputs.length c9,.slice A10 d.members.length c10,.slice A11 d.values.length c11,.slice A12 d.roots.length c12,.bool d.rep,.slice A14 d.places.length c14,.int .i64 d.line,.int .i64 d.col] 43:: .map gf (y00 kp F2):: .map go (y06 (y15 OB6))::(y1x OB6++M))) (fun i _=>ni - (intOf i).toNat)
      case atStart=>exact ⟨0,OB5,Qak _,rfl,hO5,H⟩
      case round=>
       clear H hI;obtain ⟨j,OB6,hj,rfl,hO6,H⟩:=hrel;by_cases hjl:j<ni
       ·have hjI:(j:Int)<(ni:Int):=by omega
        obtain ⟨x,hx⟩: ∃x,d.ifaces[j]?=some x:=⟨_,Qad (by rw [HNI.out];exact hjl)⟩;have HE4:=hide (y5k hx (z9t ts d.name k) (addO (omap OB) d.name d.name k));obtain ⟨ad3,ys,rfl,hxd3,_,hat3⟩:=y7v (m:=3) (f:=y7p) (fun _=>rfl) H d6 hx (by omega);clear hx;obtain rfl:=y73 hxd3;clear hxd3;rw [hO6] at HE4;clear hO6;obtain ⟨kk,hkk⟩: ∃kk,y0l ts x.name=kk:=⟨_,rfl⟩;by_cases h4:kk=4
        ·subst h4;have HIF:=hide (show z9t ts d.name k (omap OB6) x=addO (omap OB6) x.name d.name k from if_pos hkk)
         go_upto_region 16 with (first
          |((with_reducible show wpList _ _ _ (_::_) _ _);refine y0d (by rfl) 113 (.tmp 72) (by rfl) (ad3.add (j*3)) (by simp [Act.eval,Act.put]) _ _ hat3 Tryz.underlying113 rfl hsn ?_)
          |((with_reducible refine isL ?_);first
           |(refine al z113 9 H ?_;clear H;intro w19 g9 H)
           |(refine sA 9 0 H ?_;clear H;intro w21 H)))
         clear hat3;have:=H.c 0 0
         go_upto_region 17 with (first
          |(go_at_call 79;refine (y1d x.name 4 g ga gd gf go sch _ VD s ts ds _ _ _ _ H T hkk).mono ?_;clear H;rintro e w6 ⟨rfl,H⟩;have:=H.c 0 0))
         have:=H.c 0 0;have:=H.c 1 5
         go_upto_region 18 with (first
          |(go_at_call 108;refine (z4n [.box g9 [.string (str x.name),.int .i64 x.line,.int .i64 x.col] 113,.box g3 [.int .i64 3,.bool d.ext,.bool d.note.has,.bool d.note.block,.string (str d.note.text),.string (str d.name),.slice (some ad3) ni c6,.slice A7 d.dirs.length c7,.slice A8 nf c8,.slice A9 d.inputs.length c9,.slice A10 d.members.length c10,.slice A11 d.values.length c11,.slice A12 d.roots.length c12,.bool d.rep,.slice A14 d.places.length c14,.int .i64 d.line,.int .i64 d.col] 43,.map gf (y00 kp F2)] x.name d.name k OB6 g go _ _ _ _ M H T.box T.c22).mono ?_;clear H;rintro e w7 ⟨rfl,OB7,hO7,H⟩;have:=H.c 0 0;have:=H.c 1 5))
         replace H:Hp _ _ _ (.box _ [_,_,_] _:: .box _ [_,_,_,_,_,_,_,_,_,_,_,_,_,_,_,_,_] _::_::_::(y1x OB7++M)):=H
         try dsimp only at H
         replace H:=H.sub (Qai _ (Qaa _ (Qaa _ (Qaa _ (Qam _)))))
         go_wp2_with fail
         go_roundw
         case rel=>exact ⟨j+1,OB7,by omega,by go_num,by rw [HE4.out,HIF.out,hO7],H⟩
         case measure=>simp [intOf];omega
        ·have HIF:=hide (show z9t ts d.name k (omap OB6) x=omap OB6 from if_neg (by rw [hkk];exact h4))
         go_upto_region 16 with (first
          |((with_reducible show wpList _ _ _ (_::_) _ _);refine y0d (by rfl) 113 (.tmp 72) (by rfl) (ad3.add (j*3)) (by simp [Act.eval,Act.put]) _ _ hat3 Tryz.underlying113 rfl hsn ?_)
          |((with_reducible refine isL ?_);first
           |(refine al z113 9 H ?_;clear H;intro w24 g9 H)
           |(refine sA 9 0 H ?_;clear H;intro w26 H)))
         clear hat3;have:=H.c 0 0
         go_wp2_with (first
          |(go_at_call 79;refine (y1d x.name kk g ga gd gf go sch _ VD s ts ds _ _ _ _ H T hkk).mono ?_;clear H;rintro e w6 ⟨rfl,H⟩;have:=H.c 0 0))
         replace H:=H.sub (Qai _ (Qaa _ (Qaa _ (Qaa _ (Qam _)))));go_roundw
         case rel=>exact ⟨j+1,OB6,by omega,by go_num,by rw [HE4.out,HIF.out],H⟩
         case measure=>simp [intOf];omega
       ·obtain rfl:ni=j:=by omega
        have htk:d.ifaces.take ni=d.ifaces:=by rw [←HNI.out];exact List.take_length
        rw [htk] at hO6;clear htk
        go_wp2_with fail
        replace H:=H.tail;go_roundw
        case rel=>exact ⟨k+1,OB6,by omega,by go_num,by rw [HE2.out,q0j HKD.out];exact hO6,by rw [hF2];exact H⟩
        case measure=>simp [intOf];omega
     ·by_cases h5:kd=5
      ·subst h5;obtain ⟨ni,hni⟩: ∃x,d.members.length=x:=⟨_,rfl⟩;have HNI:=hide hni;rw [hni] at H d10 hme;clear hni;have hI:(wr).cell? ⟨g3,10,none⟩=some (.slice A10 ni c10):=H.cell (i:=0) rfl rfl
       go_wp2_with fail
       go_loopw [92] (fun i wr=>∃(j:Nat) (OB6:List (Txt×Nat×List (Txt×Value))),j≤ni∧i= .int .i64 j∧(d.members.take j).zipIdx.foldl (z9u ts d.name) (omap OB)=omap OB6∧Hp w0 wr K (.box g3 [.int .i64 5,.bool d.ext,.bool d.note.has,.bool d.note.block,.string (str d.note.text),.string (str d.name),.slice A6 d.ifaces.length c6,.slice A7 d.dirs.length c7,.slice A8 nf c8,.slice A9 d.inputs.length c9,.slice A10 ni c10,.slice A11 d.values.length c11,.slice A12 d.roots.length c12,.bool d.rep,.slice A14 d.places.length c14,.int .i64 d.line,.int .i64 d.col] 43:: .map gf (y00 kp F2):: .map go (y06 (y15 OB6))::(y1x OB6++M))) (fun i _=>ni - (intOf i).toNat)
       case atStart=>exact ⟨0,OB,Qak _,rfl,rfl,H⟩
       case round=>
        clear H hI hK0;obtain ⟨j,OB6,hj,rfl,hO6,H⟩:=hrel;by_cases hjl:j<ni
        ·have hjI:(j:Int)<(ni:Int):=by omega
         obtain ⟨x,hx⟩: ∃x,d.members[j]?=some x:=⟨_,Qad (by rw [HNI.out];exact hjl)⟩;have HE4:=hide (y63 hx (z9u ts d.name) (omap OB));obtain ⟨ad3,ys,rfl,hxd3,_,hat3⟩:=y7v (m:=3) (f:=y7p) (fun _=>rfl) H d10 hx (by omega);clear hx;obtain rfl:=y73 hxd3;clear hxd3;rw [hO6] at HE4;clear hO6;obtain ⟨kk,hkk⟩: ∃kk,y0l ts x.name=kk:=⟨_,rfl⟩;by_cases h4:kk=3
         ·subst h4;have HIF:=hide (show z9u ts d.name (omap OB6) (x,j)=addO (omap OB6) d.name x.name j from if_pos hkk)
          go_upto_region 23 with (first
           |((with_reducible show wpList _ _ _ (_::_) _ _);refine y0d (by rfl) 113 (.tmp 95) (by rfl) (ad3.add (j*3)) (by simp [Act.eval,Act.put]) _ _ hat3 Tryz.underlying113 rfl hsn ?_)
           |((with_reducible refine isL ?_);first
            |(refine al z113 11 H ?_;clear H;intro w28 g11 H)
            |(refine sA 11 0 H ?_;clear H;intro w30 H)))
          clear hat3;have:=H.c 0 0
          go_upto_region 24 with (first
           |(go_at_call 79;refine (y1d x.name 3 g ga gd gf go sch _ VD s ts ds _ _ _ _ H T hkk).mono ?_;clear H;rintro e w6 ⟨rfl,H⟩;have:=H.c 0 0))
          have:=H.c 1 5;have:=H.c 0 0
          go_upto_region 25 with (first
           |(go_at_call 108;refine (z4n [.box g11 [.string (str x.name),.int .i64 x.line,.int .i64 x.col] 113,.box g3 [.int .i64 5,.bool d.ext,.bool d.note.has,.bool d.note.block,.string (str d.note.text),.string (str d.name),.slice A6 d.ifaces.length c6,.slice A7 d.dirs.length c7,.slice A8 nf c8,.slice A9 d.inputs.length c9,.slice (some ad3) ni c10,.slice A11 d.values.length c11,.slice A12 d.roots.length c12,.bool d.rep,.slice A14 d.places.length c14,.int .i64 d.line,.int .i64 d.col] 43,.map gf (y00 kp F2)] d.name x.name j OB6 g go _ _ _ _ M H T.box T.c22).mono ?_;clear H;rintro e w7 ⟨rfl,OB7,hO7,H⟩;have:=H.c 1 5;have:=H.c 0 0))
          replace H:Hp _ _ _ (.box _ [_,_,_] _:: .box _ [_,_,_,_,_,_,_,_,_,_,_,_,_,_,_,_,_] _::_::_::(y1x OB7++M)):=H
          try dsimp only at H
          replace H:=H.sub (Qai _ (Qaa _ (Qaa _ (Qaa _ (Qam _)))))
          go_wp2_with fail
          go_roundw
          case rel=>exact ⟨j+1,OB7,by omega,by go_num,by rw [HE4.out,HIF.out,hO7],H⟩
          case measure=>simp [intOf];omega
         ·have HIF:=hide (show z9u ts d.name (omap OB6) (x,j)=omap OB6 from if_neg (by rw [hkk];exact h4))
          go_upto_region 23 with (first
           |((with_reducible show wpList _ _ _ (_::_) _ _);refine y0d (by rfl) 113 (.tmp 95) (by rfl) (ad3.add (j*3)) (by simp [Act.eval,Act.put]) _ _ hat3 Tryz.underlying113 rfl hsn ?_)
           |((with_reducible refine isL ?_);first
            |(refine al z113 11 H ?_;clear H;intro w33 g11 H)
            |(refine sA 11 0 H ?_;clear H;intro w35 H)))
          clear hat3;have:=H.c 0 0
          go_wp2_with (first
           |(go_at_call 79;refine (y1d x.name kk g ga gd gf go sch _ VD s ts ds _ _ _ _ H T hkk).mono ?_;clear H;rintro e w6 ⟨rfl,H⟩;have:=H.c 0 0))
          replace H:=H.sub (Qai _ (Qaa _ (Qaa _ (Qaa _ (Qam _)))));go_roundw
          case rel=>exact ⟨j+1,OB6,by omega,by go_num,by rw [HE4.out,HIF.out],H⟩
          case measure=>simp [intOf];omega
        ·obtain rfl:ni=j:=by omega
         have htk:d.members.take ni=d.members:=by rw [←HNI.out];exact List.take_length
         rw [htk] at hO6;clear htk
         go_wp2_with fail
         replace H:=H.tail;go_roundw
         case rel=>exact ⟨k+1,OB6,by omega,by go_num,by rw [HE2.out,q0k HKD.out];exact hO6,by rw [hF2];exact H⟩
         case measure=>simp [intOf];omega
      ·go_wp2_with fail
       replace H:=H.sub (Qai _ (Qaa _ (Qaa _ (Qam _))));go_roundw
       case rel=>exact ⟨k+1,OB,by omega,by go_num,by rw [HE2.out,q0l (by rw [HKD.out];exact h3) (by rw [HKD.out];exact h5)],by rw [hF2];exact H⟩
       case measure=>simp [intOf];omega
  ·obtain rfl:n=k:=by omega
   have htk:ts.take n=ts:=by rw [←HN.out];exact List.take_length
   rw [htk] at H hom
   go_wp2_with fail
   go_end0
   exact ⟨rfl,OB,hom,H⟩
theorem q8g (defs ts:List DefD) (n c nt ct:Nat) (A Aty:Option Addr) (g ga gd gf go:Nat) (VD:Value) (w0 w K:World) (M:List Ent) (H:Hp w0 w K (tbox g ga gd gf go (.slice Aty nt ct) VD::M)) (hn:defs.length=n) (hd:RD K (.list n (y0q defs)) (.slice A n c)) (hm:y0e defs≤3000000)
  (hnt:ts.length=nt) (ht:RD K (.list nt (y0q ts)) (.slice Aty nt ct)) (hat:Km K ga (y00 ks (nmap (y0a ts)))):
  Calls Tryz.prog 61 #[.pointer (some ⟨g,0,none⟩),.slice A n c] w (SchP (y27 defs ts) w0 K (tbox g ga gd gf go (.slice Aty nt ct) VD::M)):=by
 have hnl:n≤3000000:=by have:=y0o y2g defs;unfold y0e at hm;omega
 cases hi:defs.findIdx? y1h with
 |none=>
  have hf:defs.find? y1h=none:=by
   rw [List.findIdx?_eq_none_iff] at hi;rw [List.find?_eq_none];intro x hx;simp [hi x hx]
  have hs:y27 defs ts={y3k with roots:=y5j ts}:=by unfold y27;rw [hf]
  rw [hs];exact x6g defs ts n c nt ct A Aty g ga gd gf go VD w0 w K M H hn hd (by omega) hnt ht hat hi
 |some i=>
  obtain ⟨hlt,h1,h2⟩:=Qbs.1 hi;have hf:defs.find? y1h=some defs[i]:=List.find?_eq_some_iff_getElem.2 ⟨h1,i,hlt,rfl,fun j hj=>by simpa using h2 j hj⟩
  have hs:y27 defs ts=defs.foldl y4d defs[i]:=by unfold y27;rw [hf]
  rw [hs];exact x6h defs _ i n c A g w0 w K _ H hn hd hm (Qad hlt) hi
theorem x3v {l:List DefD} {k:Nat} {x:DefD} (hn:(y0a l).Nodup) (hx:l[k]?=some x):kput (nmap ((y0a l).take k)) x.name (.int .i64 (k:Int))=nmap ((y0a l).take (k+1)):=by
 have hk:k<(y0a l).length:=by have:=(Qac.1 hx).1;simpa using this
 have hnx:(y0a l)[k]?=some x.name:=by simp [y0a,hx]
 have h1:(y0a l).take (k+1)=(y0a l).take k++[x.name]:=by rw [List.take_add_one,hnx];rfl
 have h2:((y0a l).take k).length=k:=by rw [Qau];omega
 have hnot:x.name∉(y0a l).take k:=by
  rw [←List.take_append_drop (k+1) (y0a l),h1,Qat,Qbr] at hn;intro hm;exact hn.2.2 _ hm _ (by simp) rfl
 have hf:y0x (nmap ((y0a l).take k)) x.name=none:=by rw [q0e];exact z4h hnot
 rw [z2t hf,h1];unfold nmap;rw [List.zipIdx_append,h2];simp
theorem z9v:(y0a givenT).Nodup:=Qa6 (by kernel_rfl)
theorem z4o:(y0a givenDirsD).Nodup:=Qa6 (by kernel_rfl)
theorem q85 (w0 w K:World) (M:List Ent) (H:Hp w0 w K M):Calls Tryz.prog 56 #[] w fun e w'=>∃K' A c,e= .returned (.slice A 13 c)∧Sat K' K∧Hp w0 w' K' M∧RD K' (.list 13 (y0q givenT)) (.slice A 13 c):=
 (z7i w0 w K M H).mono fun e w' ⟨K',A,c,h1,h2,h3,h4⟩=>⟨K',A,c,h1,h2,h3,h4⟩
theorem q86 (w0 w K:World) (M:List Ent) (H:Hp w0 w K M):Calls Tryz.prog 57 #[] w fun e w'=>∃K' A c,e= .returned (.slice A 4 c)∧Sat K' K∧Hp w0 w' K' M∧RD K' (.list 4 (y0q givenDirsD)) (.slice A 4 c):=
 (z9b w0 w K M H).mono fun e w' ⟨K',A,c,h1,h2,h3,h4⟩=>⟨K',A,c,h1,h2,h3,h4⟩
theorem x6j:givenT.length=13:=by kernel_rfl
theorem z7p:givenDirsD.length=4:=by kernel_rfl
theorem z4p:y0e givenT≤1000∧y0e givenDirsD≤1000:=⟨Qa6 (by kernel_rfl),Qa6 (by kernel_rfl)⟩
structure BK (K:World) (defs:List DefD) (n:Nat) (v vg vd:Value) (b36 b37:Nat):Prop where
 d:RD K (.list n (y0q defs)) v
 g:RD K (.list 13 (y0q givenT)) vg
 r:RD K (.list 4 (y0q givenDirsD)) vd
 o:Km K b36 (y00 ks (nmap (y0a givenT)))
 p:Km K b37 (y00 ks (nmap (y0a givenDirsD)))
theorem BK.sat {K K':World} {defs:List DefD} {n:Nat} {v vg vd:Value} {b36 b37:Nat} (h:BK K defs n v vg vd b36 b37) (hs:Sat K' K):BK K' defs n v vg vd b36 b37:=⟨h.d.sat hs,h.g.sat hs,h.r.sat hs,h.o.sat hs,h.p.sat hs⟩
theorem z4q {l:List DefD} {x:Txt} {i:Nat} (h:y1k l x=some i):x∈y0a l:=by
 obtain ⟨d,hd,he⟩:=y1p h;exact Qbe.2 ⟨d,Qaf hd,he⟩
theorem q0m {p q:List DefD} {d:DefD} (h:d.kind=8) (hm:d.name∈y0a givenDirsD):step1 (p,q) d=(p,q):=by unfold step1;rw [if_pos h,if_pos hm]
theorem q6l {p q:List DefD} {d:DefD} (h:d.kind=8) (hm:d.name∉y0a givenDirsD):step1 (p,q) d=(p,addD q d):=by unfold step1;rw [if_pos h,if_neg hm]
theorem q3t {p q:List DefD} {d:DefD} (h: ¬d.kind=8) (hm: ¬IsTy d):step1 (p,q) d=(p,q):=by unfold step1;rw [if_neg h,if_neg hm]
theorem q3u {p q:List DefD} {d:DefD} (h:IsTy d) (hm:d.name∈y0a givenT):step1 (p,q) d=(p,q):=by
 have h8: ¬d.kind=8:=by have:=h.2.1;omega
 unfold step1;rw [if_neg h8,if_pos h,if_pos hm]
theorem q3v {p q:List DefD} {d:DefD} (h:IsTy d) (hm:d.name∉y0a givenT):step1 (p,q) d=(addD p d,q):=by
 have h8: ¬d.kind=8:=by have:=h.2.1;omega
 unfold step1;rw [if_neg h8,if_pos h,if_neg hm]
theorem q0n (l:List DefD) (k:Nat) (hm:y0e l≤3000000):((l.take k).foldl step1 ([],[])).1.length≤3000000∧((l.take k).foldl step1 ([],[])).2.length≤3000000:=by
 have h1:=z9m (l.take k) ([],[]);have h2:=z0t (f:=defN) l k;have h3:=y0o y2g ((l.take k).foldl step1 ([],[])).1;have h4:=y0o y2g ((l.take k).foldl step1 ([],[])).2;have h5:y0e ([]:List DefD)=0:=rfl;simp only [h5] at h1;unfold y0e at h1 hm;omega
theorem z9w (l s:List DefD) (k:Nat):((l.take k).foldl addD s).length≤y0e s+y0e l:=by
 have h1:=y9v z2e (l.take k) s;have h2:=z0t (f:=defN) l k;have h3:=y0o y2g ((l.take k).foldl addD s);unfold y0e at h1 ⊢;omega
theorem q87 (l:List DefD):y0e (bare l).1≤y0e l∧y0e (bare l).2≤y0e l:=by
 have h1:=z9m l ([],[]);have h5:y0e ([]:List DefD)=0:=rfl;simp only [h5] at h1;unfold bare;omega
theorem x6k {l:List DefD} {d:DefD} (h:y1k l d.name=none):ty.step2 l d=l:=by unfold ty.step2;rw [h]
theorem q3w {l:List DefD} {d e:DefD} {i:Nat} (h:y1k l d.name=some i) (he:l[i]?=some e) (hc: ¬(d.ext=true∧d.kind=e.kind∧d.kind≠1∧d.name∉y0a givenT)):ty.step2 l d=l:=by
 unfold ty.step2;simp only [h,he];rw [if_neg hc]
theorem q0o {l:List DefD} {d e:DefD} {i:Nat} (h:y1k l d.name=some i) (he:l[i]?=some e) (hc:d.ext=true∧d.kind=e.kind∧d.kind≠1∧d.name∉y0a givenT):ty.step2 l d=l.set i (y0z e d):=by
 unfold ty.step2;simp only [h,he];rw [if_pos hc]
theorem q3x {TS:List (DefD×DV)} {i:Nat} {e:DefD} (h:(TS.map (·.1))[i]?=some e): ∃A V B,TS=A++(e,V)::B∧A.length=i:=by
 rw [Qb0] at h
 cases hq:TS[i]? with
 |none=>rw [hq] at h;cases h
 |some p=>
  rw [hq] at h;injection h with h;obtain ⟨e',V⟩:=p;simp only at h;subst h;obtain ⟨hi,hg⟩:=Qac.1 hq;exact ⟨TS.take i,V,TS.drop (i+1),by rw [←hg];simp,by rw [Qau];omega⟩
theorem q8h {A B:List (DefD×DV)} {d e:DefD} {V U:DV} {i:Nat} (h:A.length=i):((A++(d,V)::B).map (·.1)).set i e=(A++(e,U)::B).map (·.1):=by
 subst h;simp only [Qas,List.map_cons];rw [List.set_append_right _ _ (by simp)];simp
def g1N (d:DefD):Nat:=if d.ext=true then 0 else defN d
def g2N (d:DefD):Nat:=if d.ext=true then defN d else 0
theorem g12: ∀l:List DefD,sumN g1N l+sumN g2N l=sumN defN l
 |[]=>rfl
 |d::r=>by
  have h:=g12 r;simp only [sumN]
  have h2:g1N d+g2N d=defN d:=by unfold g1N g2N;split<;>omega
  omega
theorem x16: ∀(l:List DefD) (p:List DefD×List DefD),y0e (l.foldl step1 p).1≤y0e p.1+sumN g1N l
 |[],p=>by simp [sumN]
 |d::r,p=>by
  have h1:=x16 r (step1 p d)
  have h2:y0e (step1 p d).1≤y0e p.1+g1N d:=by
   have a1:=z2e p.1 d;unfold step1;split
   ·dsimp only;omega
   ·split
    ·rename_i h
     have hg:g1N d=defN d:=by unfold g1N;rw [if_neg];rw [h.2.2];exact Bool.false_ne_true
     dsimp only;split<;>omega
    ·omega
  simp only [List.foldl_cons,sumN] at h1 ⊢;omega
theorem x17: ∀(l s:List DefD),y0e (l.foldl ty.step2 s)≤y0e s+sumN g2N l
 |[],s=>by simp [sumN]
 |d::r,s=>by
  have h1:=x17 r (ty.step2 s d)
  have h2:y0e (ty.step2 s d)≤y0e s+g2N d:=by
   by_cases he:d.ext=true
   ·have hg:g2N d=defN d:=if_pos he;have:=x96 s d;omega
   ·have hs:ty.step2 s d=s:=by
     unfold ty.step2;split
     ·rfl
     ·split
      ·rfl
      ·rw [if_neg (fun h=>he h.1)]
    rw [hs];omega
  simp only [List.foldl_cons,sumN] at h1 ⊢;omega
theorem q3y {l:List DefD} {k:Nat} {x:DefD} (hx:l[k]?=some x) (he:x.ext=true):y0e ((l.take k).foldl ty.step2 (y32 l))+defN x≤y0e l+y0e givenT:=by
 have h1:=x17 (l.take k) (y32 l);have h2:=y9v z2e givenT (bare l).1;have h3:=x16 l ([],[]);have h4:=g12 l
 have h5:sumN g2N (l.take k)+g2N x≤sumN g2N l:=by
  have hl:l=l.take k++x::l.drop (k+1):=by
   obtain ⟨hi,rfl⟩:=Qac.1 hx;simp
  conv=>rhs;rw [hl]
  rw [y7t];simp only [sumN];omega
 have h6:g2N x=defN x:=if_pos he;have h7:y0e ([]:List DefD)=0:=rfl;simp only [h7] at h3;unfold y32 bare at h1 h2 ⊢;unfold y0e at h1 h2 h3 ⊢;omega
theorem q8i (l:List DefD):l.length≤y0e l:=y0o y2g l
theorem Hp.freezeMaps {w0 w:World} {M:List Ent}: ∀{OB:List (Txt×Nat×List (Txt×Value))} {K:World},Hp w0 w K (y1x OB++M)→ ∃K',Sat K' K∧Hp w0 w K' M∧ ∀p∈OB,Km K' p.2.1 (y00 ks p.2.2)
 |[],K,H=>⟨K,Sat.refl K,H,fun _ h=>by cases h⟩
 |p::OB,K,H=>by
  have H:Hp w0 w K (.map p.2.1 (y00 ks p.2.2)::(y1x OB++M)):=H;obtain ⟨K1,s1,H,h1⟩:=H.freezeKm;obtain ⟨K2,s2,H,h2⟩:=Hp.freezeMaps (OB:=OB) H;refine ⟨K2,s2.trans s1,H,fun q hq=>?_⟩;rcases Qbd.1 hq with rfl|hq
  ·exact h1.sat s2
  ·exact h2 q hq
end Go.Proofs.YtbpgkkoeehopjaaGreat.hp
