/- Part 14 of 17 of a proof: see the last part. -/
import Derived.Test.YtbpgkkoeehopjaaGreatP7
import Derived.Test.YtbpgkkoeehopjaaGreatP10
import Derived.Test.YtbpgkkoeehopjaaGreatP12
import Derived.Test.YtbpgkkoeehopjaaGreatP13
import Derived.Laws.ResultCell
import Derived.Deep.QuietTactic
import Derived.BigQuiet
import Derived.Maps.RangeRun
import Derived.Shelf.SlSortCmp.Whole1
import Derived.KernelRfl
import Derived.Shelf.SlSortCmp.NoneTotal
set_option linter.unusedVariables false
set_option linter.unusedSimpArgs false
namespace Go.Proofs.YtbpgkkoeehopjaaGreat.hp
open Go.RowKit lex gram dat ty
theorem q68 (l:List DefD):y0f (y0h l)≤y0f l+1000:=by
 have h1:=x0z l (y31 l);have h2:=y85 z1f givenT (bare l).1;have h3:=x0y l ([],[]);have h4:=g12 l;have h5:=z3t.1;have h7:y0f ([]:List DefD)=0:=rfl;simp only [h7] at h3;unfold y0h y31 bare at*;unfold y0f at*;omega
theorem q7y (l:List DefD):y0f (y3i l)≤y0f l+1000:=by
 have h1:=q63 l;have h5:=z3t.2;omega
theorem q5d (l:List DefD) (ts:List DefD):defN (y2s l ts)≤2*y0f l+10:=by
 unfold y2s;split
 ·have hr:(y40 ts).length≤3:=by
   unfold y40;rw [Qay];exact Qah (Qb4 _ _) (by rw [List.length_zipIdx];exact Qab _)
  unfold defN y3p;simp only [List.length_nil,sumN];omega
 ·rename_i d hd;have h1:=z3o l d;obtain ⟨i,hi⟩:=Qbp.1 (List.mem_of_find?_eq_some hd);have h2:=y3r hi;omega
structure TyW (D:TysD):Prop where
 nd:(y0a D.types).Nodup
 ndd:(y0a D.dirs).Nodup
 nT:y0f D.types≤3002000
 nD:y0f D.dirs≤3002000
 nS:defN D.schema≤9000000
 f:FOk D.types D.fields
 o:OOk D.types D.objects
theorem x2s (l:List DefD) (h:y0f l≤2900000):TyW (y12 l):=by
 have h1:=q68 l;have h2:=q7y l;have h3:=q5d l (y0h l);exact ⟨y41 l,x46 l,by show y0f (y0h l)≤_;omega,by show y0f (y3i l)≤_;omega,by show defN (y2s l (y0h l))≤_;omega,x0s _,z1h (y41 l)⟩
def Tp (K:World) (v:Value) (D:TysD):Prop:=(v= .pointer none∧D=y12 [])∨ ∃g,v= .pointer (some ⟨g,0,none⟩)∧TysK K g D
theorem Tp.sat {K K':World} {v:Value} {D:TysD} (h:Tp K v D) (hs:Sat K' K):Tp K' v D:=by
 rcases h with h|⟨g,h1,h2⟩
 ·exact .inl h
 ·exact .inr ⟨g,h1,h2.sat hs⟩
theorem TysK.tp {K:World} {g:Nat} {D:TysD} (h:TysK K g D):Tp K (.pointer (some ⟨g,0,none⟩)) D:=.inr ⟨g,rfl,h⟩
open words enc tree rd dec held
set_option maxRecDepth 100000
attribute [local go_sem ↓] Go.wp_at_zero Go.wp_at_succ
theorem z8t (v:Value) (D:TysD) (w0 w K:World) (M:List Ent) (H:Hp w0 w K M) (T:Tp K v D):
  Calls Tryz.prog 64 #[v] w fun e w'=>∃K' g,e= .returned (.pointer (some ⟨g,0,none⟩))∧Sat K' K∧Hp w0 w' K' M∧TysK K' g D:=by
 rcases T with ⟨rfl,rfl⟩|⟨g,rfl,T⟩
 ·have hz:RD K (.list 0 (y0q [])) (.slice none 0 0):=RD.z;go_enter Tryz.func64,Tryz.ntmps64
  go_wp2_with (first
   |(go_at_call 14;refine (z6o [] 0 0 none w0 _ K M H rfl hz (by simp [y0f,sumN])).mono ?_;clear H;rintro e w1 ⟨K1,g,rfl,hle,H,hT⟩))
  go_ret;exact ⟨K1,g,rfl,hle,H,hT⟩
 ·skip
  go_enter Tryz.func64,Tryz.ntmps64
  go_wp2_with fail
  go_ret;exact ⟨K,g,rfl,Sat.refl K,H,T⟩
theorem Kb.range {w:World} {g:Nat} {cs us:List Value} {t:TypeId} (h:Kb w g (us++cs) t):w.rangeAt g 0 us:=fun k u hu=>by
 rw [Nat.zero_add];exact h.cell (by rw [Qa9 (Qac.1 hu).1];exact hu)
def z1l (l:List DefD) (x:Txt):Option DefD:=(y1f l x).bind fun i=>l[i]?
def q5e:DefD:={y3p with kind:=0}
def DefO (o:Option DefD) (K:World) (v:Value):Prop:=∃cs,v= .tuple #[.agg cs,.bool o.isSome]∧RL K (defL (o.getD q5e)) cs.toList
theorem q2s {K:World}:RL K (defL q5e) [.int .i64 0,.bool false,.bool false,.bool false,.string ⟨#[]⟩,.string ⟨#[]⟩,.slice none 0 0,.slice none 0 0,.slice none 0 0,.slice none 0 0,.slice none 0 0,.slice none 0 0,.slice none 0 0,.bool false,.slice none 0 0,.int .i64 0,.int .i64 0]:=.lit (.lit (.lit (.lit (.lit (.lit (.cons RD.z (.cons RD.z (.cons RD.z (.cons RD.z (.cons RD.z (.cons RD.z (.cons RD.z (.lit (.cons RD.z (.lit (.lit RL.z))))))))))))))))
theorem x5k {l:List DefD} {x:Txt} (h:y1f l x=none):z1l l x=none:=by unfold z1l;rw [h];rfl
theorem z0x {l:List DefD} {x:Txt} {i:Nat} {d:DefD} (h:y1f l x=some i) (hd:l[i]?=some d):z1l l x=some d:=by unfold z1l;rw [h];exact hd
theorem q69 (v:Value) (x:Txt) (D:TysD) (w0 w K:World) (M:List Ent) (H:Hp w0 w K M) (hv:Tp K v D) (hW:TyW D):
  Calls Tryz.prog 19 #[v,.string (str x)] w (Post w0 K M (DefO (z1l D.types x))):=by
 have hq:=y2l D.types x;have hN:=hW.nT;have hsz:(Tryz.prog.info? 43).map (·.size)=some 17:=y9m
 cases hi:y1f D.types x with
 |none=>
  rw [hi] at hq;replace hq:y0z (nmap (y0a D.types)) x=none:=hq;rw [x5k hi];clear hi;go_enter Tryz.func19,Tryz.ntmps19;have hK:=Sat.refl K
  go_upto_region 1 with (first
   |((with_reducible refine isL ?_);first
    |(refine al z43 4 H ?_;clear H;intro w10 g4 H)))
  go_upto_region 2 with (first
   |(go_at_call 64;refine (z8t _ D _ _ K _ H hv).mono ?_;clear H;rintro e w5 ⟨K5,g5,rfl,hle,H,hT5⟩;replace hK:=hle.trans hK))
  obtain ⟨ga,gd,gf,go,sch,VT,VD,OB,T⟩:=hT5;have hcA:=H.kcell T.a.box T.a.c18
  go_wp2_with (first
   |(refine y1j (by rfl) (.tmp 14) (.tmp 15) 87 true (by rfl) Tryz.underlying87 (y1g Tryz.underlying9) (.int .i64 0) y0v ga (nmap (y0a D.types)) (H.kmap T.a.at_) (by first|rfl|simp [Act.eval,Act.put]) (x) (by first|rfl|simp [Act.eval,Act.put]) (.tuple #[.int .i64 0,.bool false]) (by rw [hq];rfl) ?_)
   |((with_reducible refine isL ?_);first
    |(refine sA 4 0 H ?_;clear H;intro w13 H)))
  refine bodyPost_ret (z09 rfl _ _ g4 43 _ (0,0) _ (by rfl) (H.blkAt (i:=0) rfl) Tryz.underlying43 rfl (by kernel_rfl)) rfl ?_;replace H:=H.sub (Qai _ (Qam _));exact ⟨K5,_,rfl,hK,H,_,rfl,q2s⟩
 |some i=>
  rw [hi] at hq;replace hq:y0z (nmap (y0a D.types)) x=some (.int .i64 (i:Int)):=hq;obtain ⟨d,hd,-⟩:=y1d hi;rw [z0x hi hd];have hlt:=y7x hi
  have hltI:(i:Int)<(D.types.length:Int):=by omega
  have hdn:=y3r hd
  have hdm:defN d≤9000000:=by omega
  clear hi;go_enter Tryz.func19,Tryz.ntmps19;have hK:=Sat.refl K
  go_upto_region 1 with (first
   |((with_reducible refine isL ?_);first
    |(refine al z43 4 H ?_;clear H;intro w14 g4 H)))
  go_upto_region 2 with (first
   |(go_at_call 64;refine (z8t _ D _ _ K _ H hv).mono ?_;clear H;rintro e w5 ⟨K5,g5,rfl,hle,H,hT5⟩;replace hK:=hle.trans hK))
  obtain ⟨ga,gd,gf,go,sch,VT,VD,OB,T⟩:=hT5;have hcA:=H.kcell T.a.box T.a.c18;have hcT:=H.kcell T.a.box T.a.c17;have hTy:=T.a.types;obtain ⟨A,c,hVT,hc1,hc2⟩:=y5e hTy;rw [hVT] at hTy hcT;obtain ⟨ad,xs,hA,hxd,hxl,hatK⟩:=y33 (m:=17) (f:=defL) y0x hTy hd (by omega);subst hA
  go_upto_region 3 with (first
   |(refine y1j (by rfl) (.tmp 14) (.tmp 15) 87 true (by rfl) Tryz.underlying87 (y1g Tryz.underlying9) (.int .i64 0) y0v ga (nmap (y0a D.types)) (H.kmap T.a.at_) (by first|rfl|simp [Act.eval,Act.put]) (x) (by first|rfl|simp [Act.eval,Act.put]) (.tuple #[.int .i64 (i:Int),.bool true]) (by rw [hq];rfl) ?_))
  go_upto_region 5 with (fail)
  go_wp2_with (first
   |(go_at_call 65;refine (y7m d xs.toArray H hdm hxd).mono ?_;clear H;rintro e w6 ⟨K6,cs5,rfl,hle6,H,hd5⟩;replace hK:=hle6.trans hK;obtain ⟨B6,e6,B7,e7,B8,e8,B9,e9,B10,e10,B11,e11,B12,e12,B14,e14,hcs5,-,-,-,-,-,-,-,-⟩:=y0e hd5;obtain rfl:cs5= #[.int .i64 d.kind,.bool d.ext,.bool d.note.has,.bool d.note.block,.string (str d.note.text),.string (str d.name),.slice B6 d.ifaces.length e6,.slice B7 d.dirs.length e7,.slice B8 d.fields.length e8,.slice B9 d.inputs.length e9,.slice B10 d.members.length e10,.slice B11 d.values.length e11,.slice B12 d.roots.length e12,.bool d.rep,.slice B14 d.places.length e14,.int .i64 d.line,.int .i64 d.col]:=Qal.1 hcs5;clear hcs5)
   |((with_reducible show wpList _ _ _ (_::_) _ _);refine y0d (by rfl) 43 (.tmp 27) (by rfl) (ad.add (i*17)) (by simp [Act.eval,Act.put]) _ _ (At.sat hatK H.sat) Tryz.underlying43 rfl (by rw [hxl];exact hsz) ?_)
   |((with_reducible refine isL ?_);first
    |(refine sA 4 0 H ?_;clear H;intro w18 H)))
  refine bodyPost_ret (z09 rfl _ _ g4 43 _ (0,0) _ (by rfl) (H.blkAt (i:=0) rfl) Tryz.underlying43 rfl (by kernel_rfl)) rfl ?_;replace H:=H.sub (Qai _ (Qam _));exact ⟨K6,_,rfl,hK,H,_,rfl,hd5⟩
theorem x00 {w:World} {a T:Nat} {d:RootD} {vs:List Value} (h:DatL w a T (z58 d) vs):vs=[.int .i64 d.op,.string (str d.type),.int .i64 d.line,.int .i64 d.col]:=by
 obtain ⟨r0,rfl,h0⟩:=h.lit_inv;obtain ⟨r1,rfl,h1⟩:=h0.lit_inv;obtain ⟨r2,rfl,h2⟩:=h1.lit_inv;obtain ⟨r3,rfl,h3⟩:=h2.lit_inv;rw [h3.nil_inv]
theorem x9n {α:Type} {p:α→Bool}: ∀{l:List α} {k:Nat} {x:α},(∀y∈l.take k,p y=false)→l[k]?=some x→p x=true→l.find? p=some x
 |[],k,x,_,h,_=>by simp at h
 |a::r,0,x,_,h,hp=>by
  simp only [List.getElem?_cons_zero,Option.some.injEq] at h;subst h;simp [List.find?_cons,hp]
 |a::r,k+1,x,h0,h,hp=>by
  have ha:p a=false:=h0 a (by simp);have:=x9n (l:=r) (k:=k) (fun y hy=>h0 y (by rw [List.take_succ_cons];exact Qa2 _ hy)) (by simpa using h) hp;simp [List.find?_cons,ha,this]
theorem q5f {α:Type} {p:α→Bool} {l:List α} (h: ∀y∈l,p y=false):l.find? p=none:=by
 rw [List.find?_eq_none];intro y hy;rw [h y hy];exact Bool.false_ne_true
theorem x2t {α:Type} {p:α→Bool} {l:List α} {k:Nat} {x:α} (h: ∀y∈l.take k,p y=false) (hx:l[k]?=some x) (hp:p x=false): ∀y∈l.take (k+1),p y=false:=by
 intro y hy;rw [y0k hx] at hy;rcases Qbf.1 hy with hy|hy
 ·exact h y hy
 ·obtain rfl:=Qax.1 hy;exact hp
theorem x9o:(Tryz.prog.info? 100).map (·.size)=some 4:=by kernel_rfl
def x2u (rs:List RootD) (op:Int):Txt:=((rs.find? fun r=>r.op==op).map (·.type)).getD []
set_option maxHeartbeats 4000000 in
theorem q7a (v:Value) (op:Int) (D:TysD) (w0 w K:World) (M:List Ent) (H:Hp w0 w K M) (hv:Tp K v D) (hW:TyW D):
  Calls Tryz.prog 17 #[v,.int .i64 op] w fun e w'=>∃K',e= .returned (.string (str (x2u D.schema.roots op)))∧Sat K' K∧Hp w0 w' K' M:=by
 have hsz:=x9o
 have hrl:D.schema.roots.length≤9000000:=by have:=hW.nS;unfold defN at this;omega
 obtain ⟨rs,hrs⟩: ∃rs,D.schema.roots=rs:=⟨_,rfl⟩;obtain ⟨n,hn⟩: ∃n,rs.length=n:=⟨_,rfl⟩;rw [hrs] at hrl ⊢;rw [hn] at hrl;have HN:=hide hn;go_enter Tryz.func17,Tryz.ntmps17;have hK:=Sat.refl K
 go_wp2_with (first
  |(go_at_call 64;refine (z8t _ D _ _ K _ H hv).mono ?_;clear H;rintro e w5 ⟨K5,g5,rfl,hle,H,hT5⟩;replace hK:=hle.trans hK;obtain ⟨ga,gd,gf,go,sch,VT,VD,OB,T⟩:=hT5;obtain ⟨A6,c6,A7,c7,A8,c8,A9,c9,A10,c10,A11,c11,A12,c12,A14,c14,hcs,-,-,-,-,-,-,hr,-⟩:=y0e T.a.sch;subst hcs;have h12:=H.kcell (j:=12) T.a.box rfl;rw [hrs,hn] at hr;rw [hrs,hn] at h12))
 clear hn hrs h12 T
 go_loopw [14] (fun i wr=>∃k:Nat,k≤n∧i= .int .i64 k∧Hp w0 wr K5 M∧ ∀y∈rs.take k,(y.op==op)=false) (fun i _=>n - (intOf i).toNat)
 case atStart=>exact ⟨0,Qak _,rfl,H,by simp⟩
 case round=>
  clear H;obtain ⟨k,hk,rfl,H,hno⟩:=hrel;by_cases hlt:k<n
  ·have hkI:(k:Int)<(n:Int):=by omega
   obtain ⟨x,hx⟩: ∃x,rs[k]?=some x:=⟨_,Qad (by rw [HN.out];exact hlt)⟩;have HX:=hide hx;obtain ⟨ad,xs,hA,hxd,_,hatK⟩:=y33 (m:=4) (f:=z58) (fun _=>rfl) hr hx (by omega);subst hA;clear hx;obtain rfl:=x00 hxd;clear hxd;have hno:=hide hno;obtain ⟨xo,hxo⟩: ∃xo,x.op=xo:=⟨_,rfl⟩;rw [hxo] at hatK;by_cases hop:xo=op
   ·subst hop
    go_wp2_with (first
     |((with_reducible show wpList _ _ _ (_::_) _ _);refine y0d (by rfl) 100 (.tmp 16) (by rfl) (ad.add (k*4)) (by simp [Act.eval,Act.put]) _ _ (At.sat hatK H.sat) Tryz.underlying100 rfl hsz ?_)
     |((with_reducible refine isL ?_);first
      |(refine al z100 6 H ?_;clear H;intro w1 g6 H;have:=H.c 0 0;have:=H.c 0 1)
      |(refine sA 6 0 H ?_;clear H;intro w3 H;have:=H.c 0 0;have:=H.c 0 1)))
    replace H:=H.sub (Qai _ (Qam _));go_ret;exact ⟨K5,by unfold x2u;rw [x9n hno.out HX.out (by simp [hxo])];rfl,hK,H⟩
   ·have hb:(x.op==op)=false:=by simp [hxo,hop]
    go_wp2_with (first
     |((with_reducible show wpList _ _ _ (_::_) _ _);refine y0d (by rfl) 100 (.tmp 16) (by rfl) (ad.add (k*4)) (by simp [Act.eval,Act.put]) _ _ (At.sat hatK H.sat) Tryz.underlying100 rfl hsz ?_)
     |((with_reducible refine isL ?_);first
      |(refine al z100 6 H ?_;clear H;intro w4 g6 H;have:=H.c 0 0)
      |(refine sA 6 0 H ?_;clear H;intro w6 H;have:=H.c 0 0)))
    replace H:=H.sub (Qai _ (Qam _));go_roundw
    case rel=>exact ⟨k+1,by omega,by go_num,H,x2t hno.out HX.out hb⟩
    case measure=>simp [intOf];omega
  ·obtain rfl:n=k:=by omega
   have htk:rs.take n=rs:=by rw [←HN.out];exact List.take_length
   rw [htk] at hno;have hno:=hide hno
   go_wp2_with fail
   go_ret;exact ⟨K5,by unfold x2u;rw [q5f hno.out];rfl,hK,H⟩
def inK (k:Int):Bool:=k==2||k==6||k==7
def outK (k:Int):Bool:=k==2||k==6||k==3||k==4||k==5
theorem q5g (v:Value) (x:Txt) (D:TysD) (w0 w K:World) (M:List Ent) (H:Hp w0 w K M) (hv:Tp K v D):
  Calls Tryz.prog 31 #[v,.string (str x)] w fun e w'=>∃K',e= .returned (.bool (inK (y0c D.types x)))∧Sat K' K∧Hp w0 w' K' M:=by
 obtain ⟨kk,hkk⟩: ∃kk,y0c D.types x=kk:=⟨_,rfl⟩
 have hg: ∀(b:Bool),inK kk=b→Calls Tryz.prog 31 #[v,.string (str x)] w fun e w'=>∃K',e= .returned (.bool b)∧Sat K' K∧Hp w0 w' K' M:=by
  intro b hb;have hK:=Sat.refl K;go_enter Tryz.func31,Tryz.ntmps31
  go_upto_region 2 with (first
   |(go_at_call 64;refine (z8t _ D _ _ K _ H hv).mono ?_;clear H;rintro e w5 ⟨K5,g5,rfl,hle,H,hT5⟩;replace hK:=hle.trans hK;obtain ⟨ga,gd,gf,go,sch,VT,VD,OB,T⟩:=hT5)
   |(go_at_call 79;refine (y1v x kk g5 ga gd gf go sch VT VD D.schema D.types D.dirs _ _ _ _ H T.a hkk).mono ?_;clear H;rintro e w6 ⟨rfl,H⟩))
  clear T
  rcases (show kk=2∨kk=6∨kk=7∨(kk≠2∧kk≠6∧kk≠7) by omega) with rfl|rfl|rfl|⟨h1,h2,h3⟩<;>(go_wp2_with fail;go_ret;exact ⟨K5,by subst hb;simp [inK,outK, *],hK,H⟩)
 rw [hkk];exact hg _ rfl
theorem q2t (v:Value) (x:Txt) (D:TysD) (w0 w K:World) (M:List Ent) (H:Hp w0 w K M) (hv:Tp K v D):
  Calls Tryz.prog 33 #[v,.string (str x)] w fun e w'=>∃K',e= .returned (.bool (outK (y0c D.types x)))∧Sat K' K∧Hp w0 w' K' M:=by
 obtain ⟨kk,hkk⟩: ∃kk,y0c D.types x=kk:=⟨_,rfl⟩
 have hg: ∀(b:Bool),outK kk=b→Calls Tryz.prog 33 #[v,.string (str x)] w fun e w'=>∃K',e= .returned (.bool b)∧Sat K' K∧Hp w0 w' K' M:=by
  intro b hb;have hK:=Sat.refl K;go_enter Tryz.func33,Tryz.ntmps33
  go_upto_region 2 with (first
   |(go_at_call 64;refine (z8t _ D _ _ K _ H hv).mono ?_;clear H;rintro e w5 ⟨K5,g5,rfl,hle,H,hT5⟩;replace hK:=hle.trans hK;obtain ⟨ga,gd,gf,go,sch,VT,VD,OB,T⟩:=hT5)
   |(go_at_call 79;refine (y1v x kk g5 ga gd gf go sch VT VD D.schema D.types D.dirs _ _ _ _ H T.a hkk).mono ?_;clear H;rintro e w6 ⟨rfl,H⟩))
  clear T
  rcases (show kk=2∨kk=6∨kk=3∨kk=4∨kk=5∨(kk≠2∧kk≠6∧kk≠3∧kk≠4∧kk≠5) by omega) with rfl|rfl|rfl|rfl|rfl|⟨h1,h2,h3,h4,h5⟩<;>(go_wp2_with fail;go_ret;exact ⟨K5,by subst hb;simp [inK,outK, *],hK,H⟩)
 rw [hkk];exact hg _ rfl
theorem x9p {w:World} {p:Addr} {v:Value} (h:w.cell? p=some v): ∃B O,p=⟨B,O,none⟩:=by
 obtain ⟨b,o,sp⟩:=p
 cases sp with
 |none=>exact ⟨b,o,rfl⟩
 |some x=>
  unfold World.cell? at h;split at h
  ·simp at h
  ·cases h
theorem y6e {K:World} {α:Type} {f:α→List Leaf} {m n c:Nat} {ad:Addr} {l:List α} (hf: ∀x,(f x).length=m) (h:RD K (.list n (l.flatMap f)) (.slice (some ad) n c)) (hl:0<l.length) (hm:0<m): ∃B O,ad=⟨B,O,none⟩:=by
 obtain ⟨ad',vs,h1,_,h3,h4⟩:=y33 hf h (Qad hl) hm;injection h1 with h1;subst h1
 have h0:ad.add (0*m)=ad:=by unfold Addr.add;simp
 rw [h0] at h4
 cases vs with
 |nil=>simp at h3;omega
 |cons v r=>exact x9p (h4.1 v rfl)
theorem y93 (B O k:Nat):(⟨B,O,none⟩:Addr).add k=⟨B,O+k,none⟩:=by unfold Addr.add;split<;>simp_all
theorem q3q (x:NamedD) (b:Txt) (gb i:Nat) (w0 w K:World) (M:List Ent) (H:Hp w0 w K M) (hb:M[i]?=some (.box gb [.string (str b)] 9)):
  Calls Tryz.prog 82 #[.agg #[.string (str x.name),.int .i64 x.line,.int .i64 x.col],.pointer (some ⟨gb,0,none⟩)] w fun e w'=>e= .returned (.bool (decide (x.name=b)))∧Hp w0 w' K M:=by
 have hs:=y5w x.name b;go_enter Tryz.func82,Tryz.ntmps82
 go_wp2_with (first
  |((with_reducible show wpList _ _ _ (_::_) _ _);refine z08 (by rfl) 113 (.tmp 0) (by rfl) [.string (str x.name),.int .i64 x.line,.int .i64 x.col] _ (by rfl) (by rfl) (some 2) (by rfl) H ?_;clear H;intro w1 g2 H hg1;clear hg1;have c1:(w1).cell? ⟨g2,0,none⟩=some (.string (str x.name)):=H.cell (i:=0) rfl rfl;have c2:(w1).cell? ⟨gb,0,none⟩=some (.string (str b)):=H.cell (i:=i+1) (by simpa using hb) rfl))
 replace H:=Hp.tail H;go_ret;exact ⟨by rw [←hs];rfl,H⟩
set_option maxHeartbeats 4000000 in
theorem q2u (l:List NamedD) (b:Txt) (gb i n c:Nat) (A:Option Addr) (w0 w K:World) (M:List Ent) (H:Hp w0 w K M) (hb:M[i]?=some (.box gb [.string (str b)] 9)) (hn:l.length=n) (hd:RD K (.list n (y0o l)) (.slice A n c)) (hm:n≤20000000):
  Calls Tryz.prog 127 #[.slice A n c,.func (.func 82) #[] #[.pointer (some ⟨gb,0,none⟩)]] w fun e w'=>e= .returned (.int .i64 (idxI (l.findIdx? fun d=>decide (d.name=b))))∧Hp w0 w' K M:=by
 have HN:=hide hn;clear hn;go_enter Tryz.func127,Tryz.ntmps127
 go_wp2_with fail
 go_loopw [8] (fun i wr=>∃k:Nat,k≤n∧i= .int .i64 k∧Hp w0 wr K M∧ ∀y∈l.take k,decide (y.name=b)=false) (fun i _=>n - (intOf i).toNat)
 case atStart=>exact ⟨0,Qak _,rfl,H,by simp⟩
 case round=>
  clear H;obtain ⟨k,hk,rfl,H,hno⟩:=hrel;by_cases hlt:k<n
  ·have hkI:(k:Int)<(n:Int):=by omega
   obtain ⟨x,hx⟩: ∃x,l[k]?=some x:=⟨_,Qad (by rw [HN.out];exact hlt)⟩;have HX:=hide hx;obtain ⟨ad,xs,hA,hxd,_,hatK⟩:=y33 (m:=3) (f:=y79) (fun _=>rfl) hd hx (by omega);subst hA;clear hx;have hsz:=z5b;obtain rfl:=y66 hxd;clear hxd;have hno:=hide hno
   cases hq:decide (x.name=b) with
   |true=>
    go_wp2_with (first
     |((with_reducible show wpList _ _ _ (_::_) _ _);refine y0d (by rfl) 113 (.tmp 14) (by rfl) (ad.add (k*3)) (by simp [Act.eval,Act.put]) _ _ (At.sat hatK H.sat) Tryz.underlying113 rfl hsz ?_)
     |(go_at_call 82;refine (q3q x b gb i _ _ _ _ H hb).mono ?_;clear H;rintro e w1 ⟨rfl,H⟩;rw [hq]))
    go_ret;exact ⟨by rw [z0v hno.out HX.out hq];rfl,H⟩
   |false=>
    go_wp2_with (first
     |((with_reducible show wpList _ _ _ (_::_) _ _);refine y0d (by rfl) 113 (.tmp 14) (by rfl) (ad.add (k*3)) (by simp [Act.eval,Act.put]) _ _ (At.sat hatK H.sat) Tryz.underlying113 rfl hsz ?_)
     |(go_at_call 82;refine (q3q x b gb i _ _ _ _ H hb).mono ?_;clear H;rintro e w1 ⟨rfl,H⟩;rw [hq]))
    go_roundw
    case rel=>exact ⟨k+1,by omega,by go_num,H,x2t hno.out HX.out hq⟩
    case measure=>simp [intOf];omega
  ·obtain rfl:n=k:=by omega
   have htk:l.take n=l:=by rw [←HN.out];exact List.take_length
   rw [htk] at hno;have hno:=hide hno
   go_wp2_with fail
   go_ret;exact ⟨by rw [z49 hno.out];rfl,H⟩
theorem q5h {α:Type} (p:α→Bool) (l:List α):decide (0≤idxI (l.findIdx? p))=l.any p:=by
 cases h:l.findIdx? p with
 |none=>
  rw [List.findIdx?_eq_none_iff] at h
  have:l.any p=false:=by rw [List.any_eq_false];intro x hx;rw [h x hx];exact Bool.false_ne_true
  rw [this];rfl
 |some i=>
  obtain ⟨hi,h1,_⟩:=Qbs.1 h;have:l.any p=true:=Qbh.2 ⟨l[i],List.getElem_mem hi,h1⟩;rw [this];simp [idxI]
theorem x2v (l:List NamedD) (b:Txt) (gb i n c:Nat) (A:Option Addr) (w0 w K:World) (M:List Ent) (H:Hp w0 w K M) (hb:M[i]?=some (.box gb [.string (str b)] 9)) (hn:l.length=n) (hd:RD K (.list n (y0o l)) (.slice A n c)) (hm:n≤20000000):
  Calls Tryz.prog 81 #[.slice A n c,.func (.func 82) #[] #[.pointer (some ⟨gb,0,none⟩)]] w fun e w'=>e= .returned (.bool (l.any fun d=>decide (d.name=b)))∧Hp w0 w' K M:=by
 have hi:=q5h (fun d:NamedD=>decide (d.name=b)) l;obtain ⟨q,hq⟩: ∃q,idxI (l.findIdx? fun d=>decide (d.name=b))=q:=⟨_,rfl⟩;rw [←hi,hq];clear hi;go_enter Tryz.func81,Tryz.ntmps81
 go_wp2_with (first
  |(go_at_call 127;refine (q2u l b gb i n c A _ _ _ M H hb hn hd hm).mono ?_;clear H;rintro e w1 ⟨rfl,H⟩;rw [hq]))
 go_ret;exact ⟨by first|rfl|simp,H⟩
theorem oset (x:Txt): ∀OB:List (Txt×Nat×List (Txt×Value)),(y0z (y1u OB) x=none∧y1o (omap OB) x=[])∨ ∃p∈OB,y0z (y1u OB) x=some (.map (some p.2.1))∧y1o (omap OB) x=p.2.2
 |[]=>.inl ⟨rfl,rfl⟩
 |p::r=>by
  by_cases h:p.1=x
  ·exact .inr ⟨p,Qaz ..,by simp [y0z,y1u,h],by simp [y1o,omap,h]⟩
  ·have h1:y0z (y1u (p::r)) x=y0z (y1u r) x:=by simp [y0z,y1u,h]
   have h2:y1o (omap (p::r)) x=y1o (omap r) x:=by simp [y1o,omap,h]
   rw [h1,h2];rcases oset x r with h|⟨q,hq,h⟩
   ·exact .inl h
   ·exact .inr ⟨q,Qa2 _ hq,h⟩
theorem z0y {P:Program} {t kt et:Nat} {w:World} {z:Value} (ht:P.underlying t=some (.map kt et)) (hk:P.underlying kt=some .string) (hz:(zeroValue et).run P w= .ok z w) (x:Txt) (ok:Bool):
  (Instr.lookup t (.map none) (.string (str x)) ok).run P w= .ok (if ok then .tuple #[z,.bool false] else z) w:=by
 have hf:(Instr.findKey kt (.string (str x)) []).run P w= .ok none w:=y9z (P:=P) (w:=w) (l:=[]) hk x;unfold Instr.lookup
 cases ok<;>simp [Sem.run_bind,run_underlying ht w,Result.andThen_ok,y7r hk,hf,hz,Sem.run_pure]
theorem z5c (OB:List (Txt×Nat×List (Txt×Value))) (go:Nat) (x y:Txt):
  ∃mv,∀w,Km w go (y0u ks (y1u OB))→(∀p∈OB,Km w p.2.1 (y0u ks p.2.2))→(Instr.lookup 89 (.map (some go)) (.string (str x)) false).run Tryz.prog w= .ok mv w∧(Instr.lookup 87 mv (.string (str y)) true).run Tryz.prog w= .ok (.tuple #[(y0z (y1o (omap OB) x) y).getD (.int .i64 0),.bool (y0z (y1o (omap OB) x) y).isSome]) w:=by
 have h1:=fun w ho=>y04 (P:=Tryz.prog) (w:=w) (t:=89) (kt:=9) (et:=87) (l:=y1u OB) (b:=go) Tryz.underlying89 (y1g Tryz.underlying9) (.map none) (y5f w) ho x false;rcases oset x OB with ⟨hf,hS⟩|⟨p,hp,hf,hS⟩
 ·rw [hf] at h1;refine ⟨.map none,fun w ho hs=>⟨h1 w ho,?_⟩⟩;rw [hS];exact z0y Tryz.underlying87 Tryz.underlying9 (y0v w) y true
 ·rw [hf] at h1;refine ⟨.map (some p.2.1),fun w ho hs=>⟨h1 w ho,?_⟩⟩;rw [hS];exact y04 (P:=Tryz.prog) (w:=w) (t:=87) (kt:=9) (et:=3) (l:=p.2.2) (b:=p.2.1) Tryz.underlying87 (y1g Tryz.underlying9) (.int .i64 0) (y0v w) (hs p hp) y true
def y67 (D:TysD) (a b:Txt):Bool:=
 if y0c D.types a=0∨y0c D.types b=0 then false
 else if a=b then true
 else if y0c D.types b=5 then (y0z (y1o D.objects b) a).isSome
 else if y0c D.types b≠4∨(y0c D.types a≠3∧y0c D.types a≠4) then false
 else (((z1l D.types a).map (·.ifaces)).getD []).any fun n=>decide (n.name=b)
theorem z8u {ts:List DefD} {x:Txt} (h:y0c ts x≠0): ∃i d,y1f ts x=some i∧ts[i]?=some d∧d.kind=y0c ts x:=by
 cases hi:y1f ts x with
 |none=>exact absurd (y42 hi) h
 |some i=>
  obtain ⟨d,hd,_⟩:=y1d hi;exact ⟨i,d,rfl,hd,(y86 hi hd).symm⟩
set_option maxHeartbeats 16000000 in
theorem z6p (v:Value) (a b:Txt) (D:TysD) (w0 w K:World) (M:List Ent) (H:Hp w0 w K M) (hv:Tp K v D) (hW:TyW D):
  Calls Tryz.prog 37 #[v,.string (str a),.string (str b)] w fun e w'=>∃K',e= .returned (.bool (y67 D a b))∧Sat K' K∧Hp w0 w' K' M:=by
 have hwd:y67 D a b=y67 D a b:=rfl
 conv at hwd=>rhs;unfold y67
 obtain ⟨ka,hka⟩: ∃kk,y0c D.types a=kk:=⟨_,rfl⟩;obtain ⟨kb,hkb⟩: ∃kk,y0c D.types b=kk:=⟨_,rfl⟩;rw [hka,hkb] at hwd;have hst:=y5w a b;have HW:=hide hwd;clear hwd;go_enter Tryz.func37,Tryz.ntmps37;have hK:=Sat.refl K
 go_upto_region 1 with (first
  |(refine z08 (by rfl) 9 (.tmp 2) (by rfl) [.string (str b)] _ (by rfl) (by rfl) (some 5) (by rfl) H ?_;clear H;intro w1 g5 H hg2;clear hg2))
 go_upto_region 2 with (first
  |(go_at_call 64;refine (z8t _ D _ _ K _ H hv).mono ?_;clear H;rintro e w5 ⟨K5,g5_1,rfl,hle,H,hT5⟩;replace hK:=hle.trans hK))
 obtain ⟨ga,gd,gf,go,sch,VT,VD,OB,T⟩:=hT5;by_cases ha0:ka=0
 ·subst ha0;have HR:=hide (HW.out.trans (if_pos (.inl rfl)));have:=H.c 0 0
  go_wp2_with (first
   |(go_at_call 79;refine (y1v a _ g5_1 ga gd gf go sch VT VD D.schema D.types D.dirs _ _ _ _ H T.a hka).mono ?_;clear H;rintro e wa ⟨rfl,H⟩;have:=H.c 0 0))
  replace H:=H.sub (Qai _ (Qam _));go_ret;exact ⟨K5,by rw [HR.out];rfl,hK,H⟩
 ·have ha0':(ka==0)=false:=by simp [ha0]
  by_cases hb0:kb=0
  ·subst hb0;have HR:=hide (HW.out.trans (if_pos (.inr rfl)));have:=H.c 0 0;have tk5:True:=trivial
   go_wp2_with (first
    |(go_at_call 79;have tk_:=tk5;clear tk_ tk5;have tk6:True:=trivial;refine (y1v a _ g5_1 ga gd gf go sch VT VD D.schema D.types D.dirs _ _ _ _ H T.a hka).mono ?_;clear H;rintro e wa ⟨rfl,H⟩;have:=H.c 0 0)
    |(go_at_call 79;have tk_:=tk6;clear tk_ tk6;refine (y1v b _ g5_1 ga gd gf go sch VT VD D.schema D.types D.dirs _ _ _ _ H T.a hkb).mono ?_;clear H;rintro e wb ⟨rfl,H⟩;have:=H.c 0 0))
   replace H:=H.sub (Qai _ (Qam _));go_ret;exact ⟨K5,by rw [HR.out];rfl,hK,H⟩
  ·have hb0':(kb==0)=false:=by simp [hb0]
   have HW2:=hide (HW.out.trans (if_neg (fun h=>h.elim ha0 hb0)));clear HW;have:=H.c 0 0;have tk7:True:=trivial
   go_upto_region 4 with (first
    |(go_at_call 79;have tk_:=tk7;clear tk_ tk7;have tk8:True:=trivial;refine (y1v a _ g5_1 ga gd gf go sch VT VD D.schema D.types D.dirs _ _ _ _ H T.a hka).mono ?_;clear H;rintro e wa ⟨rfl,H⟩;have:=H.c 0 0)
    |(go_at_call 79;have tk_:=tk8;clear tk_ tk8;refine (y1v b _ g5_1 ga gd gf go sch VT VD D.schema D.types D.dirs _ _ _ _ H T.a hkb).mono ?_;clear H;rintro e wb ⟨rfl,H⟩;have:=H.c 0 0))
   by_cases hab:a=b
   ·have HR:=hide (HW2.out.trans (if_pos hab))
    have hab':((str a).toList==(str b).toList)=true:=by rw [hst];exact Qa5 hab
    clear hst;have:=H.c 0 0
    go_wp2_with fail
    replace H:=H.sub (Qai _ (Qam _));go_ret;exact ⟨K5,by rw [HR.out];rfl,hK,H⟩
   ·have HW3:=hide (HW2.out.trans (if_neg hab))
    have hab':((str a).toList==(str b).toList)=false:=by rw [hst];exact Qa4 hab
    clear hst HW2;have cb:(wb).cell? ⟨g5,0,none⟩=some (.string (str b)):=H.cell (i:=0) rfl rfl
    go_upto_region 6 with (fail)
    by_cases h5:kb=5
    ·subst h5;have HR:=hide (HW3.out.trans (if_pos rfl));obtain ⟨mv,hmv⟩:=z5c OB go b a;have:=H.c 0 0
     go_upto_region 7 with (first
      |(go_at_call 79;refine (y1v b _ g5_1 ga gd gf go sch VT VD D.schema D.types D.dirs _ _ _ _ H T.a hkb).mono ?_;clear H;rintro e wb ⟨rfl,H⟩;have:=H.c 0 0))
     have h22:=H.kcell T.a.box T.a.c22;have:=H.c 0 0;have hr1:=fun k=>(hmv ((wb).drewN k) (T.objects.sat (H.drew k).sat) (fun p hp=>(T.sets p hp).sat (H.drew k).sat)).1;have hr2:=fun k=>(hmv ((wb).drewN k) (T.objects.sat (H.drew k).sat) (fun p hp=>(T.sets p hp).sat (H.drew k).sat)).2
     go_quiet (fail)
     replace H:=H.drew nq;obtain ⟨w10,hq11⟩: ∃x,(wb).drewN nq=x:=⟨_,rfl⟩;rw [hq11] at H ⊢;clear hq11;replace H:Hp _ _ _ (_::M):=H
     go_wp2_with fail
     replace H:=H.sub (Qai _ (Qam _));go_ret;exact ⟨K5,by rw [HR.out,T.om];rfl,hK,H⟩
    ·have HW4:=hide (HW3.out.trans (if_neg h5));clear HW3
     have h5':(kb==5)=false:=by simp [h5]
     have cb1:(wb).cell? ⟨g5,0,none⟩=some (.string (str b)):=H.cell (i:=0) rfl rfl;have:=H.c 0 0
     go_upto_region 9 with (first
      |(go_at_call 79;refine (y1v b _ g5_1 ga gd gf go sch VT VD D.schema D.types D.dirs _ _ _ _ H T.a hkb).mono ?_;clear H;rintro e wb ⟨rfl,H⟩;have:=H.c 0 0))
     by_cases h4:kb=4
     ·subst h4;by_cases ha3:ka=3
      ·subst ha3;have HR:=hide (HW4.out.trans (if_neg (by simp)));have:=H.c 0 0;have tk13:True:=trivial
       go_upto_region 11 with (first
        |(go_at_call 79;have tk_:=tk13;clear tk_ tk13;have tk14:True:=trivial;refine (y1v b _ g5_1 ga gd gf go sch VT VD D.schema D.types D.dirs _ _ _ _ H T.a hkb).mono ?_;clear H;rintro e wb ⟨rfl,H⟩;have:=H.c 0 0)
        |(go_at_call 79;have tk_:=tk14;clear tk_ tk14;refine (y1v a _ g5_1 ga gd gf go sch VT VD D.schema D.types D.dirs _ _ _ _ H T.a hka).mono ?_;clear H;rintro e wa ⟨rfl,H⟩;have:=H.c 0 0))
       obtain ⟨i,d,hi,hd,hdk⟩:=z8u (ts:=D.types) (x:=a) (by rw [hka];omega);have hN:=hW.nT;have hdn:=y3r hd;have hif:=z3p d;have hlt:=y7x hi
       have hltI:(i:Int)<(D.types.length:Int):=by omega
       have hlk:=z0x hi hd;have hq:=y2l D.types a;rw [hi] at hq;replace hq:y0z (nmap (y0a D.types)) a=some (.int .i64 (i:Int)):=hq;have hTy:=T.a.types;obtain ⟨A,c,hVT,hc1,hc2⟩:=y5e hTy;have hcT:=T.a.c17;rw [hVT] at hTy;obtain ⟨ad,xs,hA,hxd,hxl,hatK⟩:=y33 (m:=17) (f:=defL) y0x hTy hd (by omega);subst hA;obtain ⟨B,O,hBO⟩:=y6e (m:=17) (f:=defL) y0x hTy (by omega) (by omega);subst hBO;obtain ⟨A6,c6,A7,c7,A8,c8,A9,c9,A10,c10,A11,c11,A12,c12,A14,c14,hcs,hfa,-,-,-,-,-,-,-⟩:=y0e hxd;subst hcs;subst hVT;rw [y93] at hatK;have hcI:=hatK.2 5 _ rfl;refine held.begin_ (fun w'=>w'.cell? ⟨g5_1,17,none⟩=some (.slice (some ⟨B,O,none⟩) D.types.length c)∧w'.cell? ⟨g5_1,18,none⟩=some (.map (some ga))∧w'.cell? ⟨B,O+i*17+(5+1),none⟩=some (.slice A6 d.ifaces.length c6)∧(Instr.lookup 87 (.map (some ga)) (.string (str a)) false).run Tryz.prog w'= .ok (.int .i64 (i:Int)) w') [] (by kernel_rfl) ?_;replace H:=H.drew1;obtain ⟨w15,hq16⟩: ∃x,(wa).drew=x:=⟨_,rfl⟩;rw [hq16] at H ⊢;clear hq16;have hS17:w15.cell? ⟨g5_1,17,none⟩=some (.slice (some ⟨B,O,none⟩) D.types.length c)∧w15.cell? ⟨g5_1,18,none⟩=some (.map (some ga))∧w15.cell? ⟨B,O+i*17+(5+1),none⟩=some (.slice A6 d.ifaces.length c6)∧(Instr.lookup 87 (.map (some ga)) (.string (str a)) false).run Tryz.prog w15= .ok (.int .i64 (i:Int)) w15:=⟨H.kcell T.a.box T.a.c17,H.kcell T.a.box T.a.c18,H.sat.cell hcI,(y04 Tryz.underlying87 (y1g Tryz.underlying9) (.int .i64 0) (y0v _) (H.kmap T.a.at_) a false).trans (by rw [hq];rfl)⟩;refine tk 0 hS17 ?_;refine tk 1 hS17 ?_;refine tk 2 hS17 ?_;refine tk 3 hS17 ?_;refine tk 4 hS17 ?_;refine tk 5 hS17 ?_;refine tk 6 hS17 ?_;refine tk 7 hS17 ?_;refine tk 8 hS17 ?_;refine tk 9 hS17 ?_;refine tk 10 hS17 ?_;refine tk 11 hS17 ?_;refine tk 12 hS17 ?_;refine tk 13 hS17 ?_;refine held.step (i:=14) (by kernel_rfl) rfl (fun Kq hKq=>?_)
       go_simp
       refine (x2v d.ifaces b g5 0 d.ifaces.length c6 A6 _ _ _ _ H rfl rfl hfa (by omega)).mono ?_;clear H;rintro e wz ⟨rfl,H⟩;replace H:Hp _ _ _ (_::M):=H
       try go_simp
       have hS18:wz.cell? ⟨g5_1,17,none⟩=some (.slice (some ⟨B,O,none⟩) D.types.length c)∧wz.cell? ⟨g5_1,18,none⟩=some (.map (some ga))∧wz.cell? ⟨B,O+i*17+(5+1),none⟩=some (.slice A6 d.ifaces.length c6)∧(Instr.lookup 87 (.map (some ga)) (.string (str a)) false).run Tryz.prog wz= .ok (.int .i64 (i:Int)) wz:=⟨H.kcell T.a.box T.a.c17,H.kcell T.a.box T.a.c18,H.sat.cell hcI,(y04 Tryz.underlying87 (y1g Tryz.underlying9) (.int .i64 0) (y0v _) (H.kmap T.a.at_) a false).trans (by rw [hq];rfl)⟩;refine hKq.out _ _ (fun _=>hS18) (fun _=>?_);clear hKq Kq;refine tk 15 hS18 ?_;refine held.done (by kernel_rfl) ?_ _
       go_wp2_with fail
       replace H:=H.sub (Qai _ (Qam _));go_ret;exact ⟨by rw [HR.out,hlk];rfl,K5,hK,H⟩
      ·have ha3':(ka !=3)=true:=by simp [ha3]
       have ha3'':(ka==3)=false:=by simp [ha3]
       by_cases ha4:ka=4
       ·subst ha4;have HR:=hide (HW4.out.trans (if_neg (by simp)));have:=H.c 0 0;have tk19:True:=trivial
        go_upto_region 11 with (first
         |(go_at_call 79;have tk_:=tk19;clear tk_ tk19;have tk20:True:=trivial;refine (y1v b _ g5_1 ga gd gf go sch VT VD D.schema D.types D.dirs _ _ _ _ H T.a hkb).mono ?_;clear H;rintro e wb ⟨rfl,H⟩;have:=H.c 0 0)
         |(go_at_call 79;have tk_:=tk20;clear tk_ tk20;have tk21:True:=trivial;refine (y1v a _ g5_1 ga gd gf go sch VT VD D.schema D.types D.dirs _ _ _ _ H T.a hka).mono ?_;clear H;rintro e wa ⟨rfl,H⟩;have:=H.c 0 0)
         |(go_at_call 79;have tk_:=tk21;clear tk_ tk21;refine (y1v a _ g5_1 ga gd gf go sch VT VD D.schema D.types D.dirs _ _ _ _ H T.a hka).mono ?_;clear H;rintro e wa ⟨rfl,H⟩;have:=H.c 0 0))
        obtain ⟨i,d,hi,hd,hdk⟩:=z8u (ts:=D.types) (x:=a) (by rw [hka];omega);have hN:=hW.nT;have hdn:=y3r hd;have hif:=z3p d;have hlt:=y7x hi
        have hltI:(i:Int)<(D.types.length:Int):=by omega
        have hlk:=z0x hi hd;have hq:=y2l D.types a;rw [hi] at hq;replace hq:y0z (nmap (y0a D.types)) a=some (.int .i64 (i:Int)):=hq;have hTy:=T.a.types;obtain ⟨A,c,hVT,hc1,hc2⟩:=y5e hTy;have hcT:=T.a.c17;rw [hVT] at hTy;obtain ⟨ad,xs,hA,hxd,hxl,hatK⟩:=y33 (m:=17) (f:=defL) y0x hTy hd (by omega);subst hA;obtain ⟨B,O,hBO⟩:=y6e (m:=17) (f:=defL) y0x hTy (by omega) (by omega);subst hBO;obtain ⟨A6,c6,A7,c7,A8,c8,A9,c9,A10,c10,A11,c11,A12,c12,A14,c14,hcs,hfa,-,-,-,-,-,-,-⟩:=y0e hxd;subst hcs;subst hVT;rw [y93] at hatK;have hcI:=hatK.2 5 _ rfl;refine held.begin_ (fun w'=>w'.cell? ⟨g5_1,17,none⟩=some (.slice (some ⟨B,O,none⟩) D.types.length c)∧w'.cell? ⟨g5_1,18,none⟩=some (.map (some ga))∧w'.cell? ⟨B,O+i*17+(5+1),none⟩=some (.slice A6 d.ifaces.length c6)∧(Instr.lookup 87 (.map (some ga)) (.string (str a)) false).run Tryz.prog w'= .ok (.int .i64 (i:Int)) w') [] (by kernel_rfl) ?_;replace H:=H.drew1;obtain ⟨w22,hq23⟩: ∃x,(wa).drew=x:=⟨_,rfl⟩;rw [hq23] at H ⊢;clear hq23;have hS24:w22.cell? ⟨g5_1,17,none⟩=some (.slice (some ⟨B,O,none⟩) D.types.length c)∧w22.cell? ⟨g5_1,18,none⟩=some (.map (some ga))∧w22.cell? ⟨B,O+i*17+(5+1),none⟩=some (.slice A6 d.ifaces.length c6)∧(Instr.lookup 87 (.map (some ga)) (.string (str a)) false).run Tryz.prog w22= .ok (.int .i64 (i:Int)) w22:=⟨H.kcell T.a.box T.a.c17,H.kcell T.a.box T.a.c18,H.sat.cell hcI,(y04 Tryz.underlying87 (y1g Tryz.underlying9) (.int .i64 0) (y0v _) (H.kmap T.a.at_) a false).trans (by rw [hq];rfl)⟩;refine tk 0 hS24 ?_;refine tk 1 hS24 ?_;refine tk 2 hS24 ?_;refine tk 3 hS24 ?_;refine tk 4 hS24 ?_;refine tk 5 hS24 ?_;refine tk 6 hS24 ?_;refine tk 7 hS24 ?_;refine tk 8 hS24 ?_;refine tk 9 hS24 ?_;refine tk 10 hS24 ?_;refine tk 11 hS24 ?_;refine tk 12 hS24 ?_;refine tk 13 hS24 ?_;refine held.step (i:=14) (by kernel_rfl) rfl (fun Kq hKq=>?_)
        go_simp
        refine (x2v d.ifaces b g5 0 d.ifaces.length c6 A6 _ _ _ _ H rfl rfl hfa (by omega)).mono ?_;clear H;rintro e wz ⟨rfl,H⟩;replace H:Hp _ _ _ (_::M):=H
        try go_simp
        have hS25:wz.cell? ⟨g5_1,17,none⟩=some (.slice (some ⟨B,O,none⟩) D.types.length c)∧wz.cell? ⟨g5_1,18,none⟩=some (.map (some ga))∧wz.cell? ⟨B,O+i*17+(5+1),none⟩=some (.slice A6 d.ifaces.length c6)∧(Instr.lookup 87 (.map (some ga)) (.string (str a)) false).run Tryz.prog wz= .ok (.int .i64 (i:Int)) wz:=⟨H.kcell T.a.box T.a.c17,H.kcell T.a.box T.a.c18,H.sat.cell hcI,(y04 Tryz.underlying87 (y1g Tryz.underlying9) (.int .i64 0) (y0v _) (H.kmap T.a.at_) a false).trans (by rw [hq];rfl)⟩;refine hKq.out _ _ (fun _=>hS25) (fun _=>?_);clear hKq Kq;refine tk 15 hS25 ?_;refine held.done (by kernel_rfl) ?_ _
        go_wp2_with fail
        replace H:=H.sub (Qai _ (Qam _));go_ret;exact ⟨by rw [HR.out,hlk];rfl,K5,hK,H⟩
       ·have ha4':(ka !=4)=true:=by simp [ha4]
        have ha4'':(ka==4)=false:=by simp [ha4]
        have HR:=hide (HW4.out.trans (if_pos (.inr ⟨ha3,ha4⟩)));have:=H.c 0 0;have tk26:True:=trivial
        go_wp2_with (first
         |(go_at_call 79;have tk_:=tk26;clear tk_ tk26;have tk27:True:=trivial;refine (y1v b _ g5_1 ga gd gf go sch VT VD D.schema D.types D.dirs _ _ _ _ H T.a hkb).mono ?_;clear H;rintro e wb ⟨rfl,H⟩;have:=H.c 0 0)
         |(go_at_call 79;have tk_:=tk27;clear tk_ tk27;have tk28:True:=trivial;refine (y1v a _ g5_1 ga gd gf go sch VT VD D.schema D.types D.dirs _ _ _ _ H T.a hka).mono ?_;clear H;rintro e wa ⟨rfl,H⟩;have:=H.c 0 0)
         |(go_at_call 79;have tk_:=tk28;clear tk_ tk28;refine (y1v a _ g5_1 ga gd gf go sch VT VD D.schema D.types D.dirs _ _ _ _ H T.a hka).mono ?_;clear H;rintro e wa ⟨rfl,H⟩;have:=H.c 0 0))
        replace H:=H.sub (Qai _ (Qam _));go_ret;exact ⟨K5,by rw [HR.out];rfl,hK,H⟩
     ·have h4':(kb !=4)=true:=by simp [h4]
      have h4'':(kb==4)=false:=by simp [h4]
      have HR:=hide (HW4.out.trans (if_pos (.inl h4)));have:=H.c 0 0
      go_wp2_with (first
       |(go_at_call 79;refine (y1v b _ g5_1 ga gd gf go sch VT VD D.schema D.types D.dirs _ _ _ _ H T.a hkb).mono ?_;clear H;rintro e wb ⟨rfl,H⟩;have:=H.c 0 0))
      replace H:=H.sub (Qai _ (Qam _));go_ret;exact ⟨K5,by rw [HR.out];rfl,hK,H⟩
end Go.Proofs.YtbpgkkoeehopjaaGreat.hp
namespace Go.Proofs.YtbpgkkoeehopjaaGreat.hp
open Go.RowKit words enc tree gram lex rd dec dat held
section
variable {P : Program} {w0 w K K' : World} {M : List Ent} {ops : Array Oper} {rest : List Oper} {o : Oper} {a : Act} {Q : Exit → Act → World → Prop} {i b r t kt et : Nat}
theorem Hp.objSet (H:Hp w0 w K M) {o:Obj} (hi:M[i]?=some (.obj b o)) (o':Obj):Hp w0 (ChangeMaps.setBlock w b o') K (M.set i (.obj b o')):=by
 have hb:w.heap[b]?=some o:=H.ok _ (Qaf hi);have hlt:=(Qan.1 hb).1;refine H.setAt hi ⟨rfl,rfl,rfl,by simp [ChangeMaps.setBlock],fun k hk hne=>?_⟩ ?_ (.inl rfl)
 ·have hkb:b≠k:=fun e=>hne (by subst e;rfl);simp [ChangeMaps.setBlock,hkb]
 ·simp [Ent.ok,ChangeMaps.setBlock,hlt]
theorem Hp.allocObj (H:Hp w0 w K M) (o:Obj):Hp w0 (w.alloc o) K (.obj w.heap.size o::M):=
 H.cons (y4b ((Below.refl _ _).alloc (Qab _) _) none) (heap_alloc_new w _) (fun g h=>by simp only [Ent.blk,Option.some.injEq] at h;omega)
abbrev iter (r:Nat) (b:Nat) (n:Nat) (seen:Array Nat):Ent:=.obj r (.mapIter (some b) n seen n)
abbrev q2v (r:Nat):Ent:=.obj r (.mapIter none 0 #[] 0)
theorem x2w (hgd:o.guard=none) (t:TypeId) (x:Operand) (ho:o.op= .range t x) (ht:P.underlying t=some (.map kt et)) (b:Nat) (l:List (Value×Value)) (hb:w.heap[b]?=some (mobj l)) (hx:a.eval x= .map (some b)) (dst:Option Tmp) (hdst:o.dst=dst) (H:Hp w0 w K M)
  (h: ∀w' r,Hp w0 w' K (iter r b l.length #[]::M)→wpList P ops Q rest (a.put dst (.pointer (some ⟨r,0,none⟩))) w'):wpList P ops Q (o::rest) a w:=by
 subst hdst;refine wpList_plain hgd fun _ hK=>?_;have hrun:=run_range_map (P:=P) w t kt et b _ _ ht hb;unfold Oper.wp execOp;simp only [ho,hx,Sem.run_bind,hrun,Result.andThen_ok,Sem.run_pure];exact hK _ _ (h _ _ (H.allocObj _))
theorem z1i (hgd:o.guard=none) (t:TypeId) (x:Operand) (ho:o.op= .range t x) (ht:P.underlying t=some (.map kt et)) (hx:a.eval x= .map none) (dst:Option Tmp) (hdst:o.dst=dst) (H:Hp w0 w K M)
  (h: ∀w' r,Hp w0 w' K (q2v r::M)→wpList P ops Q rest (a.put dst (.pointer (some ⟨r,0,none⟩))) w'):wpList P ops Q (o::rest) a w:=by
 subst hdst;refine wpList_plain hgd fun _ hK=>?_;have hrun:=run_range_nilMap (P:=P) w t kt et ht;unfold Oper.wp execOp;simp only [ho,hx,Sem.run_bind,hrun,Result.andThen_ok,Sem.run_pure];exact hK _ _ (h _ _ (H.allocObj _))
theorem z3v (hgd:o.guard=none) (x:Operand) (ho:o.op= .next x false) (hx:a.eval x= .pointer (some ⟨r,0,none⟩)) (H:Hp w0 w K M) (i:Nat) (hi:M[i]?=some (q2v r))
  (h:wpList P ops Q rest (a.put o.dst (.tuple #[.bool false])) w):wpList P ops Q (o::rest) a w:=by
 refine wpList_plain hgd fun _ hK=>?_;have hr:w.heap[r]?=some (.mapIter none 0 #[] 0):=H.ok _ (Qaf hi)
 have hrun:(Instr.next (.pointer (some ⟨r,0,none⟩)) false o.type).run P w= .ok (.tuple #[.bool false]) w:=by
  simp only [Instr.next,getObj,Sem.run_bind,Sem.run,hr,Result.andThen];rfl
 unfold Oper.wp execOp;simp only [ho,hx,Sem.run_bind,hrun,Result.andThen_ok,Sem.run_pure];exact hK _ _ h
theorem x5l (l:List (Value×Value)):(y2m l).map (·.born)=List.range l.length:=by
 unfold y2m;rw [List.map_map];apply Qbz;intro j;rcases Qbm j l.length with h|h
 ·simp [h,List.getElem?_range,Qad]
 ·simp [h]
theorem z8v {l:List (Value×Value)} {e:MapEntry} (h:e∈y2m l): ∃p,l[e.born]?=some p∧e.key=p.1∧e.val=p.2:=by
 unfold y2m at h;rw [Qbe] at h;obtain ⟨⟨p,k⟩,hp,rfl⟩:=h;rw [Qb1] at hp;exact ⟨p,hp,rfl,rfl⟩
theorem x9q (hgd:o.guard=none) (x:Operand) (ho:o.op= .next x false) (hx:a.eval x= .pointer (some ⟨r,0,none⟩)) (H:Hp w0 w K M) (i:Nat) (b:Nat) (l:List (Value×Value)) (seen:Array Nat) (hi:M[i]?=some (iter r b l.length seen)) (hb:w.heap[b]?=some (mobj l))
  (h1:(∀k,k<l.length→k∈seen)→wpList P ops Q rest (a.put o.dst (.tuple #[.bool false])) w)
  (h2: ∀k p w',l[k]?=some p→k∉seen→Hp w0 w' K (M.set i (iter r b l.length (seen.push k)))→wpList P ops Q rest (a.put o.dst (.tuple #[.bool true,p.1,p.2])) w'):wpList P ops Q (o::rest) a w:=by
 refine wpList_plain hgd fun _ hK=>?_;have hr:w.heap[r]?=some (.mapIter (some b) l.length seen l.length):=H.ok _ (Qaf hi)
 have hold: ∀x∈(y2m l).toArray.toList,x.born<l.length:=fun x hx=>by
  obtain ⟨p,hp,_⟩:=z8v (show x∈y2m l from hx);exact (Qac.1 hp).1
 rcases run_next_at (P:=P) w o.type r b l.length l.length seen (y2m l).toArray l.length hr hb hold (Qab _) with ⟨h0,hrun⟩|⟨e,he,w1,hw1,hrun⟩
 ·unfold Oper.wp execOp;simp only [ho,hx,Sem.run_bind,hrun,Result.andThen_ok,Sem.run_pure];refine hK _ _ (h1 fun k hk=>?_);refine Qbl fun hn=>?_;have hlen:(leftOf (y2m l).toArray seen)= #[]:=Array.eq_empty_of_size_eq_zero h0;unfold leftOf at hlen;rw [Array.filter_eq_empty_iff] at hlen;obtain ⟨p,hp⟩: ∃p,l[k]?=some p:=⟨_,Qad hk⟩
  have:=hlen {key:=p.1,val:=p.2,born:=k} (by
   simp only [List.mem_toArray,y2m,Qbe]
   exact ⟨(p,k),Qb1.2 hp,rfl⟩)
  simp at this;exact hn this
 ·obtain ⟨hm,hc⟩:=mem_left he;obtain ⟨p,hp,hk,hv⟩:=z8v (show e∈y2m l from hm);unfold Oper.wp execOp;simp only [ho,hx,Sem.run_bind,hrun,Result.andThen_ok,Sem.run_pure,hk,hv];refine hK _ _ (h2 e.born p _ hp (fun hin=>?_) ?_)
  ·have:=Array.contains_iff_mem.2 hin;rw [this] at hc;cases hc
  ·rcases hw1 with rfl|rfl
   ·exact H.objSet hi _
   ·exact H.drew1.objSet hi _
theorem z6q (hgd:o.guard=none) (x:Operand) (ho:o.op= .entry x) (hx:a.eval x= .pointer (some ⟨r,0,none⟩)) (H:Hp w0 w K M) (i:Nat) (b:Nat) (l:List (Value×Value)) (seen:Array Nat) (k:Nat) (p:Value×Value) (hi:M[i]?=some (iter r b l.length (seen.push k))) (hb:w.heap[b]?=some (mobj l)) (hp:l[k]?=some p)
  (h:wpList P ops Q rest (a.put o.dst (.tuple #[p.1,p.2])) w):wpList P ops Q (o::rest) a w:=by
 refine wpList_plain hgd fun _ hK=>?_;have hr:w.heap[r]?=some (.mapIter (some b) l.length (seen.push k) l.length):=H.ok _ (Qaf hi)
 have hrun:=run_entry_at (P:=P) w r b l.length seen (y2m l).toArray l.length {key:=p.1,val:=p.2,born:=k} hr hb (by
  simp only [y2m,Qbe]
  exact ⟨(p,k),Qb1.2 hp,rfl⟩) (by
  show ((y2m l).map (·.born)).Nodup
  rw [x5l];exact List.nodup_range)
 unfold Oper.wp execOp;simp only [ho,hx,Sem.run_bind,hrun,Result.andThen_ok,Sem.run_pure];exact hK _ _ h
end
open ty
set_option maxRecDepth 100000
attribute [local go_sem ↓] Go.wp_at_zero Go.wp_at_succ
theorem z6r: ∀(n:Nat) (l:List Nat),l.Nodup→(∀x∈l,x<n)→l.length≤n
 |0,l,_,h=>by
  cases l with
  |nil=>exact Qab _
  |cons a r=>exact absurd (h a (Qaz ..)) (Nat.not_lt_zero _)
 |n+1,l,hn,h=>by
  have h1:(l.erase n).length≤n:=z6r n (l.erase n) (hn.erase n) (fun x hx=>by
   have hm:=(List.Nodup.mem_erase_iff hn).1 hx;have:=h x hm.2;have:=hm.1
   omega)
  have h2:l.length≤(l.erase n).length+1:=by
   rw [List.length_erase];split<;>omega
  omega
def q2w (w:World) (r:Nat):Nat:=match w.heap[r]? with|some (.mapIter _ _ s _)=>s.size|_=>0
theorem y94 {w0 w K:World} {M:List Ent} {r b n:Nat} {s:Array Nat} (H:Hp w0 w K (iter r b n s::M)):q2w w r=s.size:=by
 have h:w.heap[r]?=some (.mapIter (some b) n s n):=H.ok _ (Qaz ..);unfold q2w;rw [h]
def SeenOk (n:Nat) (s:Array Nat):Prop:=s.toList.Nodup∧ ∀k∈s.toList,k<n
theorem SeenOk.push {n:Nat} {s:Array Nat} {k:Nat} (h:SeenOk n s) (hk:k<n) (hn:k∉s):SeenOk n (s.push k):=by
 refine ⟨?_,?_⟩
 ·rw [Array.toList_push,Qbr];refine ⟨h.1,by simp,fun a ha b hb he=>?_⟩;obtain rfl:=Qax.1 hb;subst he;exact hn (by simpa using ha)
 ·intro x hx;rw [Array.toList_push] at hx;rcases Qbf.1 hx with hx|hx
  ·exact h.2 x hx
  ·obtain rfl:=Qax.1 hx;exact hk
theorem SeenOk.le {n:Nat} {s:Array Nat} (h:SeenOk n s):s.size≤n:=by
 have:=z6r n s.toList h.1 h.2;simpa using this
theorem y3s {P:Program} {w:World} {ops:Array Oper} {rest:List Oper} {o:Oper} {a:Act} {Q:Exit→Act→World→Prop} (hgd:o.guard=none) (m x:Operand) (t:TypeId) (c:Bool) (ho:o.op= .lookup t m x c) {mv xv r:Value} (hm:a.eval m=mv) (hx:a.eval x=xv) (hrun:(Instr.lookup t mv xv c).run P w= .ok r w)
  (h:wpList P ops Q rest (a.put o.dst r) w):wpList P ops Q (o::rest) a w:=by
 refine wpList_plain hgd fun _ hK=>?_;unfold Oper.wp execOp;simp only [ho,hm,hx,Sem.run_bind,hrun,Result.andThen_ok,Sem.run_pure];exact hK _ _ h
def z38 (D:TysD) (a b:Txt):Bool:=(y1o D.objects a).any fun q=>(y0z (y1o D.objects b) q.1).isSome
theorem x2x {κ:Type} {kv:κ→Value} {l:List (κ×Value)} {k:Nat} {p:Value×Value} (h:(y0u kv l)[k]?=some p): ∃q,l[k]?=some q∧p=(kv q.1,q.2):=by
 unfold y0u at h;rw [Qb0] at h
 cases hq:l[k]? with
 |none=>rw [hq] at h;cases h
 |some q=>rw [hq] at h;injection h with h;exact ⟨q,rfl,h.symm⟩
set_option maxHeartbeats 16000000 in
theorem q7b (v:Value) (a b:Txt) (D:TysD) (w0 w K:World) (M:List Ent) (H:Hp w0 w K M) (hv:Tp K v D) (hW:TyW D):
  Calls Tryz.prog 35 #[v,.string (str a),.string (str b)] w fun e w'=>∃K',e= .returned (.bool (z38 D a b))∧Sat K' K∧Hp w0 w' K' M:=by
 have hK:=Sat.refl K;have hmd:z38 D a b=z38 D a b:=rfl
 conv at hmd=>rhs;unfold z38
 have HMD:=hide hmd;clear hmd;go_enter Tryz.func35,Tryz.ntmps35
 go_upto_region 2 with (first
  |(go_at_call 64;refine (z8t _ D _ _ K _ H hv).mono ?_;clear H;rintro e w5 ⟨K5,g5,rfl,hle,H,hT5⟩;replace hK:=hle.trans hK;obtain ⟨ga,gd,gf,go,sch,VT,VD,OB,T⟩:=hT5;have h22:=H.kcell T.a.box T.a.c22))
 have h1:=fun w ho=>y04 (P:=Tryz.prog) (w:=w) (t:=89) (kt:=9) (et:=87) (l:=y1u OB) (b:=go) Tryz.underlying89 (y1g Tryz.underlying9) (.map none) (y5f w) ho a false;rcases oset a OB with ⟨hf,hS⟩|⟨p,hp,hf,hS⟩
 ·rw [hf] at h1
  have HR:z38 D a b=false:=by rw [HMD.out,T.om,hS];rfl
  have h1w:=h1 w5 (H.kmap T.objects)
  go_wp2_with (first
   |((with_reducible show wpList _ _ _ (_::_) _ _);refine y1j (by rfl) (.tmp 15) (.tmp 16) 89 false (by rfl) Tryz.underlying89 (y1g Tryz.underlying9) (.map none) y5f go (y1u OB) (H.kmap T.objects) (by first|rfl|simp [Act.eval,Act.put]) a (by first|rfl|simp [Act.eval,Act.put]) (.map none) (by rw [hf];rfl) ?_)
   |((with_reducible show wpList _ _ _ (_::_) _ _);refine z1i (by rfl) 87 (.tmp 17) (by rfl) Tryz.underlying87 (by first|rfl|simp [Act.eval,Act.put]) (some 18) (by rfl) H ?_;clear H;intro w6 r H))
  try simp only [Act.put,List.getElem_toArray,List.getElem_cons_zero,List.getElem_cons_succ,List.setIfInBounds_toArray,List.set_cons_zero,List.set_cons_succ]
  go_loopw [19] (fun _ wr=>Hp w0 wr K5 (q2v r::M)) (fun _ _=>0)
  case atStart=>exact H
  case round=>
   clear H;have H:=hrel
   go_wp2_with (first
    |((with_reducible show wpList _ _ _ (_::_) _ _);refine z3v (by rfl) (.tmp 18) (by rfl) (by first|rfl|simp [Act.eval,Act.put]) H 0 (by rfl) ?_))
   replace H:=Hp.tail H;go_ret;exact ⟨K5,by rw [HR];rfl,hK,H⟩
 ·rw [hf] at h1;obtain ⟨n,hn⟩: ∃n,(y0u ks p.2.2).length=n:=⟨_,rfl⟩;have HN:=hide hn;have hmap:=T.sets p hp
  go_wp2_with (first
   |((with_reducible show wpList _ _ _ (_::_) _ _);refine y1j (by rfl) (.tmp 15) (.tmp 16) 89 false (by rfl) Tryz.underlying89 (y1g Tryz.underlying9) (.map none) y5f go (y1u OB) (H.kmap T.objects) (by first|rfl|simp [Act.eval,Act.put]) a (by first|rfl|simp [Act.eval,Act.put]) (.map (some p.2.1)) (by rw [hf];rfl) ?_)
   |((with_reducible show wpList _ _ _ (_::_) _ _);refine x2w (by rfl) 87 (.tmp 17) (by rfl) Tryz.underlying87 p.2.1 (y0u ks p.2.2) (H.kmap hmap) (by first|rfl|simp [Act.eval,Act.put]) (some 18) (by rfl) H ?_;clear H;intro w6 r H))
  rw [hn] at H
  try simp only [Act.put,List.getElem_toArray,List.getElem_cons_zero,List.getElem_cons_succ,List.setIfInBounds_toArray,List.set_cons_zero,List.set_cons_succ]
  go_loopw [19] (fun _ wr=>∃s:Array Nat,SeenOk n s∧Hp w0 wr K5 (iter r p.2.1 n s::M)∧ ∀k∈s.toList,∀q,p.2.2[k]?=some q→(y0z (y1o D.objects b) q.1).isSome=false) (fun _ wr=>n - q2w wr r)
  case atStart=>exact ⟨#[],⟨List.nodup_nil,fun _ h=>by cases h⟩,H,fun _ h=>by cases h⟩
  case round=>
   clear H;obtain ⟨s,hs,H,hno⟩:=hrel;have hsn:=y94 H
   have H0:Hp w0 wr K5 (iter r p.2.1 (y0u ks p.2.2).length s::M):=by rw [hn];exact H
   go_wp2_with (first
    |((with_reducible show wpList _ _ _ (_::_) _ _);refine x9q (by rfl) (.tmp 18) (by rfl) (by first|rfl|simp [Act.eval,Act.put]) H0 0 p.2.1 (y0u ks p.2.2) s (by rfl) (H.kmap hmap) ?_ ?_))
   ·intro hall
    have HR:z38 D a b=false:=by
     rw [HMD.out,T.om,hS,List.any_eq_false];intro q hq;obtain ⟨k,hk⟩:=Qbp.1 hq
     have hkn:k<n:=by rw [←hn];unfold y0u;rw [Qay];exact (Qac.1 hk).1
     have:=hno k (by simpa using hall k hkn) q hk;rw [T.om] at this;rw [this];exact Bool.false_ne_true
    replace H:=Hp.tail H
    go_wp2_with fail
    go_ret;exact ⟨K5,by rw [HR];rfl,hK,H⟩
   ·intro k x1 x2 w6 hkx hks H6;obtain ⟨q,hq,he⟩:=x2x hkx;injection he with e1 e2;subst e1 e2
    have hkn:k<n:=by rw [←hn];exact (Qac.1 hkx).1
    have hsp:=hs.push hkn hks;have hsn6:=y94 H6;have hspl:=hsp.le;have hq9:=H6.kcell T.a.box T.a.c22
    have H7:Hp w0 w6 K5 (iter r p.2.1 (y0u ks p.2.2).length (s.push k)::M):=by rw [hn];exact H6
    obtain ⟨mv,hmv⟩:=z5c OB go b q.1;have hmw:=hmv w6 (T.objects.sat H6.sat) (fun p hp=>(T.sets p hp).sat H6.sat);rw [←T.om] at hmw;clear H H0 hmv
    cases hb:y0z (y1o D.objects b) q.1 with
    |some y=>
     have HR:z38 D a b=true:=by
      rw [HMD.out,T.om,hS];exact Qbh.2 ⟨q,Qaf hq,by rw [←T.om,hb];rfl⟩
     rw [hb] at hmw
     go_wp2_with (first
      |((with_reducible show wpList _ _ _ (_::_) _ _);refine z6q (by rfl) (.tmp 18) (by rfl) (by first|rfl|simp [Act.eval,Act.put]) H7 0 p.2.1 (y0u ks p.2.2) s k (ks q.1,q.2) (by rfl) (H6.kmap hmap) hkx ?_)
      |((with_reducible show wpList _ _ _ (_::_) _ _);refine y3s (by rfl) (.tmp 27) (.tmp 28) 89 false (by rfl) (by first|rfl|simp [Act.eval,Act.put]) (by first|rfl|simp [Act.eval,Act.put]) hmw.1 ?_)
      |((with_reducible show wpList _ _ _ (_::_) _ _);refine y3s (by rfl) (.tmp 29) (.tmp 30) 87 true (by rfl) (by first|rfl|simp [Act.eval,Act.put]) (by first|rfl|simp [Act.eval,Act.put]) hmw.2 ?_))
     replace H6:=Hp.tail H6;go_ret;exact ⟨K5,by rw [HR];rfl,hK,H6⟩
    |none=>
     rw [hb] at hmw
     go_wp2_with (first
      |((with_reducible show wpList _ _ _ (_::_) _ _);refine z6q (by rfl) (.tmp 18) (by rfl) (by first|rfl|simp [Act.eval,Act.put]) H7 0 p.2.1 (y0u ks p.2.2) s k (ks q.1,q.2) (by rfl) (H6.kmap hmap) hkx ?_)
      |((with_reducible show wpList _ _ _ (_::_) _ _);refine y3s (by rfl) (.tmp 27) (.tmp 28) 89 false (by rfl) (by first|rfl|simp [Act.eval,Act.put]) (by first|rfl|simp [Act.eval,Act.put]) hmw.1 ?_)
      |((with_reducible show wpList _ _ _ (_::_) _ _);refine y3s (by rfl) (.tmp 29) (.tmp 30) 87 true (by rfl) (by first|rfl|simp [Act.eval,Act.put]) (by first|rfl|simp [Act.eval,Act.put]) hmw.2 ?_))
     go_roundw
     case rel=>
      refine ⟨s.push k,hsp,H6,fun j hj z hz=>?_⟩;rw [Array.toList_push] at hj;rcases Qbf.1 hj with hj|hj
      ·exact hno j hj z hz
      ·obtain rfl:=Qax.1 hj;rw [hq] at hz;injection hz with hz;subst hz;rw [hb];rfl
     case measure=>
      rw [hsn6,hsn];rw [Array.size_push] at hspl ⊢;omega
end Go.Proofs.YtbpgkkoeehopjaaGreat.hp
namespace Go.Proofs
open Go.Shelf
def Tryz.laysSlF6_f67_ren:Go.Shelf.Ren:=⟨fun|6=>67|15=>118|14=>117|28=>163|29=>164|20=>155|21=>156|22=>157|23=>158|24=>159|25=>160|26=>161|27=>162|46=>181|47=>182|48=>183|49=>184|50=>185|57=>199|n=>n,fun|22=>27|24=>9|25=>104|3=>3|39=>168|0=>0|53=>216|55=>218|4=>4|46=>210|45=>209|50=>93|5=>5|9=>9|66=>236|70=>240|76=>249|77=>250|n=>n,fun|n=>n⟩
theorem Tryz.laysSlF6_f67:Go.Proofs.SlLaysF.n6 Tryz.prog Tryz.laysSlF6_f67_ren:={
 mixed:=by kernel_rfl
 f6:=⟨Tryz.f67.name,by decide,Tryz.func67.trans (congrArg some (by kernel_rfl))⟩
 f14:=⟨Tryz.f117.name,by decide,Tryz.func117.trans (congrArg some (by kernel_rfl))⟩
 f15:=Tryz.func118.trans (congrArg some (by kernel_rfl))
 f20:=⟨Tryz.f155.name,by decide,Tryz.func155.trans (congrArg some (by kernel_rfl))⟩
 f21:=⟨Tryz.f156.name,by decide,Tryz.func156.trans (congrArg some (by kernel_rfl))⟩
 f22:=⟨Tryz.f157.name,by decide,Tryz.func157.trans (congrArg some (by kernel_rfl))⟩
 f23:=⟨Tryz.f158.name,by decide,Tryz.func158.trans (congrArg some (by kernel_rfl))⟩
 f24:=⟨Tryz.f159.name,by decide,Tryz.func159.trans (congrArg some (by kernel_rfl))⟩
 f25:=⟨Tryz.f160.name,by decide,Tryz.func160.trans (congrArg some (by kernel_rfl))⟩
 f26:=⟨Tryz.f161.name,by decide,Tryz.func161.trans (congrArg some (by kernel_rfl))⟩
 f27:=⟨Tryz.f162.name,by decide,Tryz.func162.trans (congrArg some (by kernel_rfl))⟩
 f28:=Tryz.func163.trans (congrArg some (by kernel_rfl))
 f29:=Tryz.func164.trans (congrArg some (by kernel_rfl))
 f46:=⟨Tryz.f181.name,by decide,Tryz.func181.trans (congrArg some (by kernel_rfl))⟩
 f47:=Tryz.func182.trans (congrArg some (by kernel_rfl))
 f48:=Tryz.func183.trans (congrArg some (by kernel_rfl))
 f49:=⟨Tryz.f184.name,by decide,Tryz.func184.trans (congrArg some (by kernel_rfl))⟩
 f50:=⟨Tryz.f185.name,by decide,Tryz.func185.trans (congrArg some (by kernel_rfl))⟩
 f57:=⟨Tryz.f199.name,by decide,Tryz.func199.trans (congrArg some (by kernel_rfl))⟩
 t0:=Tryz.underlying0
 a0:=Tryz.isAgg0
 z0:=Tryz.sizeOf0
 v0:=Tryz.zeroValue0
 t3:=Tryz.underlying3
 a3:=Tryz.isAgg3
 z3:=Tryz.sizeOf3
 v3:=Tryz.zeroValue3
 t4:=Tryz.underlying4
 a4:=Tryz.isAgg4
 z4:=Tryz.sizeOf4
 v4:=Tryz.zeroValue4
 t5:=Tryz.underlying5
 a5:=Tryz.isAgg5
 z5:=Tryz.sizeOf5
 v5:=Tryz.zeroValue5
 t9:=Tryz.underlying9
 a9:=Tryz.isAgg9
 z9:=Tryz.sizeOf9
 v9:=Tryz.zeroValue9
 t22:=Tryz.underlying27
 a22:=Tryz.isAgg27
 z22:=Tryz.sizeOf27
 v22:=Tryz.zeroValue27
 a24:=Tryz.isAgg9
 z24:=Tryz.sizeOf9
 t25:=Tryz.underlying104
 a25:=Tryz.isAgg104
 z25:=Tryz.sizeOf104
 v25:=Tryz.zeroValue104
 t39:=Tryz.underlying168
 a39:=Tryz.isAgg168
 z39:=Tryz.sizeOf168
 v39:=Tryz.zeroValue168
 t45:=Tryz.underlying209
 a45:=Tryz.isAgg209
 z45:=Tryz.sizeOf209
 v45:=Tryz.zeroValue209
 t46:=Tryz.underlying210
 a46:=Tryz.isAgg210
 z46:=Tryz.sizeOf210
 v46:=Tryz.zeroValue210
 t50:=Tryz.underlying93
 a50:=Tryz.isAgg93
 z50:=Tryz.sizeOf93
 v50:=Tryz.zeroValue93
 t53:=Tryz.underlying216
 a53:=Tryz.isAgg216
 z53:=Tryz.sizeOf216
 v53:=Tryz.zeroValue216
 t55:=Tryz.underlying218
 a55:=Tryz.isAgg218
 z55:=Tryz.sizeOf218
 v55:=Tryz.zeroValue218
 t66:=Tryz.underlying236
 a66:=Tryz.isAgg236
 z66:=Tryz.sizeOf236
 v66:=Tryz.zeroValue236
 t70:=Tryz.underlying240
 a70:=Tryz.isAgg240
 z70:=Tryz.sizeOf240
 v70:=Tryz.zeroValue240
 t76:=Tryz.underlying249
 a76:=Tryz.isAgg249
 z76:=Tryz.sizeOf249
 v76:=Tryz.zeroValue249
 t77:=Tryz.underlying250
 a77:=Tryz.isAgg250
 z77:=Tryz.sizeOf250
 v77:=Tryz.zeroValue250}
open Go.RowKit Go.Lib Go.Sort in
theorem Tryz.slices_SortFunc {α:Type} [Inhabited α] (enc:α→Value) (h1:OneCell enc) (cf:α→α→Int) (hO:SWO (ltOf cf)) (g:Nat) (cb:Array Value) (blk off cap:Nat) (d:Array α) (w:World) (eg: ∀args w,(callFunc g args).run Tryz.prog w= .ok (.enter g args) w) (hcmp:CmpLays1 Tryz.prog g cb enc cf blk off d.size w) (hH:Holds enc w blk off d) (hblk:blk<w.heap.size) (hsz:d.size<4611686018427387904):
  Calls Tryz.prog 67 #[.slice (some ⟨blk,off,none⟩) d.size cap,.func (.func g) #[] cb] w fun e w'=>
   e= .returned (.tuple #[])∧ ∃d' n os,PermIn 0 d.size d d'∧SortedIn (ltOf cf) 0 d.size d'∧w'=sortWorld enc w blk off n d' os:=Any.slices_SortFunc Tryz.laysSlF6_f67 enc h1 cf hO g cb blk off cap d w eg hcmp hH hblk hsz
end Go.Proofs
namespace Go.Proofs.YtbpgkkoeehopjaaGreat.hp
open Go.RowKit words enc tree gram lex rd dec dat held ty
section
variable {w0 w K : World} {M : List Ent} {enc : Txt → Value}
theorem x2y (w:World) (os:Array Obj) {k:Nat} (h:k<w.heap.size):(Go.Sort.grow w os).heap[k]?=w.heap[k]?:=by
 show (w.heap++os)[k]?=_
 rw [Array.getElem?_append_left h]
theorem x2z (w:World) (blk off n:Nat) (d:Array Txt) (os:Array Obj) {k:Nat} (h:k<w.heap.size) (hb:k≠blk):(sortWorld enc w blk off n d os).heap[k]?=w.heap[k]?:=by
 unfold sortWorld;rw [x2y _ _ (by simpa using h)]
 show ((w.heap).modify blk _)[k]?=_
 rw [Array.getElem?_modify,if_neg (Ne.symm hb)]
theorem z8w (w:World) (blk off n:Nat) (d:Array Txt) (os:Array Obj):w.heap.size≤(sortWorld enc w blk off n d os).heap.size:=by
 unfold sortWorld
 show _≤((Go.Sort.putRow enc (Go.Sort.ahead w n) blk off d).heap++os).size
 rw [Array.size_append];have:=Go.Sort.size_putRow enc (Go.Sort.ahead w n) blk off d;have h2:(Go.Sort.ahead w n).heap.size=w.heap.size:=rfl;omega
theorem x5m (w:World) (blk off n:Nat) (d:Array Txt) (os:Array Obj):w.grownBy (sortWorld enc w blk off n d os) (some blk):=
 ⟨rfl,rfl,rfl,z8w w blk off n d os,fun k hk hne=>x2z w blk off n d os hk (fun e=>hne (by rw [e]))⟩
theorem q2x (d:Array Txt) (cur:Array Value) (h:d.size≤cur.size):(Go.Sort.putCells enc 0 d cur).toList.take d.size=d.toList.map enc:=by
 apply Qbz;intro j;rw [Qbb,Qb0,Array.getElem?_toList,Array.getElem?_toList];unfold Go.Sort.putCells;split
 ·rename_i hj;have hj:j<d.size:=hj
  have hj2:j<cur.size:=by omega
  rw [Array.getElem?_mapIdx,Qbq hj2,Qbq hj];simp only [Option.map_some,Qak,Nat.zero_add,hj,and_self,if_true,Nat.sub_zero];rw [getElem!_pos d j hj]
 ·rename_i hj;have hj: ¬j<d.size:=hj;rw [Array.getElem?_eq_none (by omega)];rfl
theorem Hp.sorted {m c blk:Nat} {vs:List Value} (H:Hp w0 w K (.row 9 1 (.slice (some ⟨blk,0,none⟩) m c) m vs::M)) (n:Nat) (d:Array Txt) (os:Array Obj) (hd:d.size=m):
  Hp w0 (sortWorld enc w blk 0 n d os) K (.row 9 1 (.slice (some ⟨blk,0,none⟩) m c) m (d.toList.map enc)::M):=by
 have ho:w.ownsRow 0 9 1 (.slice (some ⟨blk,0,none⟩) m c) m vs:=H.ok _ (Qaz ..);refine H.setAt (i:=0) rfl (x5m w blk 0 n d os) ?_ (.inl rfl);rcases ho.2 with ⟨h,_⟩|⟨g',c',cur,he,hb0,hb,h1,h2,h3,h4⟩
 ·cases h
 ·injection he with e1 _ e3;injection e1 with e1;injection e1 with e1;subst e1 e3;have hlt:=(Qan.1 hb).1;refine ⟨by rw [Qay,Array.length_toList,hd,Nat.mul_one],.inr ⟨blk,c,Go.Sort.putCells enc 0 d cur,rfl,hb0,?_,h1,h2,?_,?_⟩⟩
  ·unfold sortWorld;rw [x2y _ _ (by simpa using hlt)]
   show ((w.heap).modify blk _)[blk]?=_
   rw [Array.getElem?_modify,if_pos rfl,hb];rfl
  ·unfold Go.Sort.putCells;simpa using h3
  ·rw [Nat.mul_one,←hd];exact q2x d cur (by rw [h3];omega)
theorem q5i (f:Txt→Int):Go.Sort.SWO (ltOf fun x y=>f x - f y):=by
 refine ⟨fun x=>?_,fun x y z h1 h2=>?_,fun x y z h1 h2=>?_⟩
 ·simp [ltOf]
 ·simp only [ltOf,decide_eq_true_eq] at*;omega
 ·simp only [ltOf,decide_eq_false_iff_not] at*;omega
theorem q5j {m c blk g:Nat} {cb:Array Value} {l:List Txt} (f:Txt→Int) (H:Hp w0 w K (.row 9 1 (.slice (some ⟨blk,0,none⟩) m c) m (l.map ks)::M)) (hl:l.length=m) (hm:m≤20000000)
  (eg: ∀args w,(callFunc g args).run Tryz.prog w= .ok (.enter g args) w)
  (hcmp: ∀W,W.heap.size≥w.heap.size→(∀k,k<w.heap.size→k≠blk→W.heap[k]?=w.heap[k]?)→ ∀x y:Txt,Calls Tryz.prog g (#[ks x,ks y]++cb) W fun e w'=>e= .returned (.int .i64 (f x - f y))∧w'=W):
  Calls Tryz.prog 67 #[.slice (some ⟨blk,0,none⟩) m c,.func (.func g) #[] cb] w fun e w'=>e= .returned (.tuple #[])∧ ∃l':List Txt,l'.Perm l∧l'.Pairwise (fun a b=>f a≤f b)∧Hp w0 w' K (.row 9 1 (.slice (some ⟨blk,0,none⟩) m c) m (l'.map ks)::M):=by
 have hds:l.toArray.size=m:=by simpa using hl
 have hblk:blk<w.heap.size:=H.lt (i:=0) rfl rfl
 have hH:Go.Sort.Holds ks w blk 0 l.toArray:=by
  intro j hj;rw [hds] at hj
  have hjl:j<l.length:=by omega
  rw [Nat.zero_add];refine ⟨H.rowCell (i:=0) rfl ?_,H.rowFrozen (i:=0) rfl j⟩;rw [Qb0,Qad hjl,getElem!_pos l.toArray j (by simpa using hjl)];rfl
 have hc:CmpLays1 Tryz.prog g cb ks (fun x y=>f x - f y) blk 0 l.toArray.size w:=by
  intro n os dk hdk x y;refine (hcmp (sortWorld ks w blk 0 n dk os) (z8w ..) (fun k hk hb=>x2z w blk 0 n dk os hk hb) x y).mono ?_;rintro e w' ⟨he,rfl⟩;exact ⟨he,0, #[],by simp [Go.Sort.grow_empty,World.drewN]⟩
 have h:=Tryz.slices_SortFunc ks (fun _=>rfl) (fun x y=>f x - f y) (q5i f) g cb blk 0 c l.toArray w eg hc hH hblk (by rw [hds];omega);rw [hds] at h;refine h.mono ?_;rintro e w' ⟨he,d',n,os,hp,hs,rfl⟩;have hd':d'.size=m:=hp.1.trans hds
 have hperm:d'.toList.Perm l:=by
  have:=hp.2.2
  have e1:(d'.extract 0 m).toList=d'.toList:=by rw [←hd',Array.extract_size]
  have e2:(l.toArray.extract 0 m).toList=l:=by rw [←hds,Array.extract_size]
  rw [e1,e2] at this;exact this
 refine ⟨he,d'.toList,hperm,?_,H.sorted n d' os hd'⟩;rw [List.pairwise_iff_getElem];intro i j hi hj hij
 have hi':i<d'.size:=by simpa using hi
 have hj':j<d'.size:=by simpa using hj
 have:=hs i j (Qak _) hij (by omega);simp only [ltOf,decide_eq_false_iff_not] at this;rw [getElem!_pos d' j hj',getElem!_pos d' i hi'] at this;simp only [Array.getElem_toList];omega
theorem z8x (v:Value) (c:Nat) (p:Option Addr) (w:World):Calls Tryz.prog 67 #[.slice p 0 c,v] w fun e w'=>e= .returned (.tuple #[])∧w'=w:=
 AnyF.slices_SortFunc_none {Tryz.laysSlF6_f67 with} p c v w
end
set_option maxRecDepth 100000
attribute [local go_sem ↓] Go.wp_at_zero Go.wp_at_succ
theorem z6s {K:World}: ∀l:List Txt,RL K (y0t l) (l.map ks)
 |[]=>RL.z
 |x::r=>.lit (z6s r)
def y73 (S:List (Txt×Value)) (k:Nat):Txt:=((S[k]?).map (·.1)).getD []
theorem x5n (S:List (Txt×Value)):(List.range S.length).map (y73 S)=S.map (·.1):=by
 apply Qbz;intro j;rw [Qb0,Qb0];rcases Qbm j S.length with h|h
 ·rw [List.getElem?_range h,Qad h];simp [y73,Qad h]
 ·rw [Qbg (by simpa using h),Qbg h];rfl
theorem x9r {n:Nat} {s:Array Nat} (h:SeenOk n s) (hall: ∀k,k<n→k∈s):s.toList.Perm (List.range n):=
 (List.perm_ext_iff_of_nodup h.1 List.nodup_range).2 fun k=>by
   rw [List.mem_range];exact ⟨fun hk=>h.2 k hk,fun hk=>by simpa using hall k hk⟩
def numV (q:Txt×Value):Nat:=match q.2 with| .int _ n=>n.toNat|_=>0
theorem q5k {f:Nat→Option Txt} {s:List (Txt×Value)} {B:Nat} (h:SOk f s) (hB: ∀n x,f n=some x→n<B):s.length≤B:=by
 have hk:List.Pairwise (fun q q':Txt×Value=>q.1≠q'.1) s:=by
  have:=h.1;unfold List.Nodup at this;rw [List.pairwise_map] at this;exact this
 have hn:(s.map numV).Nodup:=by
  unfold List.Nodup;rw [List.pairwise_map];refine List.Pairwise.imp_of_mem (fun {q q'} hq hq' hne he=>?_) hk;obtain ⟨n,h1,h2⟩:=h.2 q hq;obtain ⟨n',h1',h2'⟩:=h.2 q' hq';simp only [numV,h1,h1',Int.toNat_natCast] at he;subst he;rw [h2] at h2';injection h2' with h2';exact hne h2'
 have:=z6r B (s.map numV) hn (fun x hx=>by
  obtain ⟨q,hq,rfl⟩:=Qbe.1 hx;obtain ⟨n,h1,h2⟩:=h.2 q hq;simp only [numV,h1,Int.toNat_natCast]
  exact hB n _ h2)
 simpa using this
theorem x5o {n:Nat} (h:n=0) (v:Value) (c:Nat) (p:Option Addr) (w:World):Calls Tryz.prog 67 #[.slice p n c,v] w fun e w'=>e= .returned (.tuple #[])∧w'=w:=by
 subst h;exact z8x v c p w
theorem q5l (f:Txt→Int) (mv:Value) (gb:Nat) (W:World) (hc:W.cell? ⟨gb,0,none⟩=some mv) (hl: ∀x,(Instr.lookup 87 mv (.string (str x)) false).run Tryz.prog W= .ok (.int .i64 (f x)) W) (hf: ∀x,0≤f x∧f x≤20000000) (x y:Txt):
  Calls Tryz.prog 68 #[ks x,ks y,.pointer (some ⟨gb,0,none⟩)] W fun e w'=>e= .returned (.int .i64 (f x - f y))∧w'=W:=by
 have hx:=hl x;have hy:=hl y;have bx:=hf x;have hby:=hf y
 have hw:IntKind.i64.wrap (f x - f y)=f x - f y:=by simp [IntKind.wrap,IntKind.bits,IntKind.signed];omega
 go_enter Tryz.func68,Tryz.ntmps68
 go_wp2_with (first
  |((with_reducible show wpList _ _ _ (_::_) _ _);refine y3s (by rfl) (.tmp 6) (.tmp 7) 87 false (by rfl) (by first|rfl|simp [Act.eval,Act.put]) (by first|rfl|simp [Act.eval,Act.put]) hx ?_)
  |((with_reducible show wpList _ _ _ (_::_) _ _);refine y3s (by rfl) (.tmp 9) (.tmp 10) 87 false (by rfl) (by first|rfl|simp [Act.eval,Act.put]) (by first|rfl|simp [Act.eval,Act.put]) hy ?_))
 go_ret;exact ⟨by first|rfl|(rw [hw];rfl)|simp [hw],rfl⟩
def PosP (D:TysD) (x:Txt) (w0 K:World) (M:List Ent) (e:Ending) (w':World):Prop:=
 ∃K' l v,e= .returned v∧Sat K' K∧Hp w0 w' K' M∧RD K' (.list l.length (y0t l)) v∧l.Perm ((y1o D.objects x).map (·.1))∧l.Pairwise (fun a b=>y87 (y1o D.objects x) a≤y87 (y1o D.objects x) b)
set_option maxHeartbeats 16000000 in
theorem z5d (v:Value) (x:Txt) (D:TysD) (w0 w K:World) (M:List Ent) (H:Hp w0 w K M) (hv:Tp K v D) (hW:TyW D):
  Calls Tryz.prog 27 #[v,.string (str x)] w (PosP D x w0 K M):=by
 have hK:=Sat.refl K;obtain ⟨k0,hk0,k0z,k0s,k0b⟩:=info_parts z93;have hSO:=x2l hW.o x
 have hfb: ∀y,0≤y87 (y1o D.objects x) y∧y87 (y1o D.objects x) y≤20000000:=by
  intro y;have hN:=hW.nT;unfold y87;rcases x2m hSO y with ⟨h,_⟩|⟨n,h,hn,_⟩
  ·rw [h];exact ⟨by simp,by simp⟩
  ·rw [h];have:=x89 hn;exact ⟨by simp,by simp only;omega⟩
 have hnv:=x87 hSO;have hSL:(y1o D.objects x).length≤3002000:=q5k hSO (fun n y hy=>Qap (x89 hy) hW.nT);obtain ⟨S,hS0⟩: ∃S,y1o D.objects x=S:=⟨_,rfl⟩;have HS:=hide hS0;rw [hS0] at hfb hnv hSL;clear hSO;go_enter Tryz.func27,Tryz.ntmps27
 go_upto_region 1 with (fail)
 have h1:=fun OB go w ho=>y04 (P:=Tryz.prog) (w:=w) (t:=89) (kt:=9) (et:=87) (l:=y1u OB) (b:=go) Tryz.underlying89 (y1g Tryz.underlying9) (.map none) (y5f w) ho x false
 have hmv: ∀(K5:World) (ga gd gf go:Nat) (sch:List Value) (VT VD:Value) (OB:List (Txt×Nat×List (Txt×Value))) (g9:Nat),Tys K5 g9 D ga gd gf go sch VT VD OB→ ∃mv,(∀w,Km w go (y0u ks (y1u OB))→(Instr.lookup 89 (.map (some go)) (.string (str x)) false).run Tryz.prog w= .ok mv w)∧((mv= .map none∧S=[])∨ ∃b,mv= .map (some b)∧Km K5 b (y0u ks S)):=by
  intro K5 ga gd gf go sch VT VD OB g9 T;rcases oset x OB with ⟨hf,hS⟩|⟨p,hp,hf,hS⟩
  ·exact ⟨.map none,fun w ho=>by rw [h1 OB go w ho,hf];rfl,.inl ⟨rfl,by rw [←HS.out,T.om,hS]⟩⟩
  ·exact ⟨.map (some p.2.1),fun w ho=>by rw [h1 OB go w ho,hf];rfl,.inr ⟨_,rfl,by rw [←HS.out,T.om,hS];exact T.sets p hp⟩⟩
 clear h1
 go_upto_region 3 with (first
  |(go_at_call 64;refine (z8t _ D _ _ K _ H hv).mono ?_;clear H;rintro e w5 ⟨K5,g9,rfl,hle,H,hT5⟩;replace hK:=hle.trans hK;obtain ⟨ga,gd,gf,go,sch,VT,VD,OB,T⟩:=hT5;have h22:=H.kcell T.a.box T.a.c22)
  |((with_reducible show wpList _ _ _ (_::_) _ _);obtain ⟨mv,hlk,hmk⟩:=hmv _ _ _ _ _ _ _ _ _ _ T;refine y3s (by rfl) (.tmp 12) (.tmp 13) 89 false (by rfl) (by first|rfl|simp [Act.eval,Act.put]) (by first|rfl|simp [Act.eval,Act.put]) (hlk _ (H.kmap T.objects)) ?_)
  |((with_reducible show wpList _ _ _ (_::_) _ _);refine x1p (by rfl) 87 (by rfl) [.map none] (by kernel_rfl) (some 5) (by rfl) H ?_;clear H;intro w6 g5 H hg5;clear hg5)
  |((with_reducible show wpList _ _ _ (_::_) _ _);refine z6b (by rfl) 87 (.tmp 5) (.tmp 14) (by rfl) g5 0 (by first|rfl|simp [Act.eval,Act.put]) mv (by first|rfl|simp [Act.eval,Act.put]) [mv] (by rcases hmk with ⟨rfl,_⟩|⟨b,rfl,_⟩<;>rfl) (by rcases hmk with ⟨rfl,_⟩|⟨b,rfl,_⟩<;>simp [Value.oneCell']) (by kernel_rfl) H 0 [.map none] [mv] 87 (by rfl) (Qbn (by rfl)) (by rfl) ?_;clear H;intro w7 H;replace H:Hp w0 w7 K5 (.box g5 [mv] 87::M):=H;have hc5:(w7).cell? ⟨g5,0,none⟩=some mv:=H.cell (i:=0) rfl rfl))
 rcases hmk with ⟨rfl,hSn⟩|⟨b,rfl,hSk⟩
 ·go_wp2_with (first
   |((with_reducible show wpList _ _ _ (_::_) _ _);refine z1i (by rfl) 87 (.tmp 15) (by rfl) Tryz.underlying87 (by first|rfl|simp [Act.eval,Act.put]) (some 16) (by rfl) H ?_;clear H;intro w8 r H))
  try simp only [Act.put,List.getElem_toArray,List.getElem_cons_zero,List.getElem_cons_succ,List.setIfInBounds_toArray,List.set_cons_zero,List.set_cons_succ]
  go_loopw [6,17] (fun o _ wr=>o= .slice none 0 0∧Hp w0 wr K5 (q2v r:: .box g5 [.map none] 87::M)) (fun _ _ _=>0)
  case atStart=>exact ⟨rfl,H⟩
  case round=>
   clear H;obtain ⟨rfl,H⟩:=hrel
   go_upto_region 7 with (first
    |((with_reducible show wpList _ _ _ (_::_) _ _);refine z3v (by rfl) (.tmp 16) (by rfl) (by first|rfl|simp [Act.eval,Act.put]) H 0 (by rfl) ?_))
   have hsn:=z8x (.func (.func 68) #[] #[.pointer (some ⟨g5,0,none⟩)]) 0 none wr
   go_wp2_with (first
    |(go_at_call 67;refine hsn.mono ?_;clear hsn;rintro e w9 ⟨rfl,rfl⟩))
   replace H:=Hp.tail (Hp.tail H);go_ret;exact ⟨K5,[],_,rfl,hK,H,RD.z,by rw [HS.out,hSn];exact List.Perm.nil,List.Pairwise.nil⟩
 ·obtain ⟨n,hn⟩: ∃n,(y0u ks S).length=n:=⟨_,rfl⟩
  have hSl:S.length=n:=by rw [←hn];unfold y0u;rw [Qay]
  go_wp2_with (first
   |((with_reducible show wpList _ _ _ (_::_) _ _);refine x2w (by rfl) 87 (.tmp 15) (by rfl) Tryz.underlying87 b (y0u ks S) (H.kmap hSk) (by first|rfl|simp [Act.eval,Act.put]) (some 16) (by rfl) H ?_;clear H;intro w8 r H))
  try simp only [Act.put,List.getElem_toArray,List.getElem_cons_zero,List.getElem_cons_succ,List.setIfInBounds_toArray,List.set_cons_zero,List.set_cons_succ]
  rw [hn] at H;have heg: ∀args w,(callFunc 68 args).run Tryz.prog w= .ok (.enter 68 args) w:=enters_of Tryz.func68 (by kernel_rfl) rfl
  go_loopw [6,17] (fun o _ wr=>∃s:Array Nat,SeenOk n s∧Hp w0 wr K5 (.row 9 1 o s.size ((s.toList.map (y73 S)).map ks)::iter r b n s:: .box g5 [.map (some b)] 87::M)) (fun _ _ wr=>n - q2w wr r)
  case atStart=>exact ⟨#[],⟨List.nodup_nil,fun _ h=>by cases h⟩,H.nilRow 9 1⟩
  case round=>
   clear H
   obtain ⟨s,hs,H,hrow⟩: ∃(s:Array Nat) (hs:SeenOk n s) (H:Hp w0 wr K5 (.row 9 1 _ s.size ((s.toList.map (y73 S)).map ks)::iter r b n s:: .box g5 [.map (some b)] 87::M)),True:=by
    obtain ⟨s,hs,H⟩:=hrel;exact ⟨s,hs,H,trivial⟩
   obtain ⟨Av,cv,hov,hcv1,hcv2⟩:=H.slice (i:=0) rfl;subst hov;have hsn:=y94 H.tail;have hsle:=hs.le
   have H0:Hp w0 wr K5 (.row 9 1 (.slice Av s.size cv) s.size ((s.toList.map (y73 S)).map ks)::iter r b (y0u ks S).length s:: .box g5 [.map (some b)] 87::M):=by rw [hn];exact H
   go_wp2_with (first
    |((with_reducible show wpList _ _ _ (_::_) _ _);refine x9q (by rfl) (.tmp 16) (by rfl) (by first|rfl|simp [Act.eval,Act.put]) H0 1 b (y0u ks S) s (by rfl) (H.kmap hSk) ?_ ?_))
   ·intro hall
    have hperm:(s.toList.map (y73 S)).Perm (S.map (·.1)):=by
     rw [←x5n,hSl];exact (x9r hs (fun k hk=>by simpa using hall k hk)).map (y73 S)
    have hLl:(s.toList.map (y73 S)).length=s.size:=by simp
    by_cases h0:s.size=0
    ·have hsn:=x5o h0 (.func (.func 68) #[] #[.pointer (some ⟨g5,0,none⟩)]) cv Av wr;have he:s.toList.map (y73 S)=[]:=Qa0 (by rw [hLl,h0]);have he:=hide he;clear h0 hall
     go_wp2_with (first
      |(go_at_call 67;refine hsn.mono ?_;clear hsn;rintro e w9 ⟨rfl,rfl⟩))
     obtain ⟨K6,hle6,H,hr⟩:=Hp.freezeRow H (z6s (s.toList.map (y73 S)));replace H:=Hp.tail (Hp.tail H);go_ret;exact ⟨K6,s.toList.map (y73 S),_,rfl,hle6.trans hK,H,by rw [hLl];exact hr,by rw [HS.out];exact hperm,by rw [he.out];exact List.Pairwise.nil⟩
    ·obtain ⟨blk,cb,hbv,-,-,-⟩:=H.rowAt (i:=0) rfl (by omega);injection hbv with e1 _ e3;subst e1 e3;have hg5:g5≠blk:=fun e=>(List.pairwise_cons.1 H.nd).1 _ (Qa2 _ (Qaz ..)) blk rfl (by rw [←e];rfl)
     have hbb:b≠blk:=fun e=>by
      have hF:=(H.fr _ (Qaz ..) blk rfl).2;have:=hF _ (e▸hSk);cases this
     have hltg:=H.lt (i:=2) rfl rfl;have hltb:=(Qan.1 (H.kmap hSk)).1;have hcb:=H.cell (i:=2) (j:=0) rfl rfl;have hsort:=q5j (cb:= #[.pointer (some ⟨g5,0,none⟩)]) (y87 S) H hLl (by omega) heg (fun W _ hW x y=>q5l (y87 S) (.map (some b)) g5 W ((World.cell?_of_block (hW g5 hltg hg5)).trans hcb) (fun z=>(y04 (w:=W) Tryz.underlying87 (y1g Tryz.underlying9) (.int .i64 0) (y0v W) ((hW b hltb hbb).trans (H.kmap hSk)) z false).trans (by rw [if_neg Bool.false_ne_true,hnv])) hfb x y);clear hbb hg5 hltg hltb hcb
     go_wp2_with (first
      |(go_at_call 67;refine hsort.mono ?_;clear hsort H H0;rintro e w9 ⟨rfl,L,hLp,hLs,H⟩))
     have hLL:L.length=s.size:=hLp.length_eq.trans hLl;obtain ⟨K6,hle6,H,hr⟩:=Hp.freezeRow H (z6s L);replace H:=Hp.tail (Hp.tail H);go_ret;exact ⟨K6,L,_,rfl,hle6.trans hK,H,by rw [hLL];exact hr,by rw [HS.out];exact hLp.trans hperm,by rw [HS.out];exact hLs⟩
   ·intro k x1 x2 w9 hkx hks H9;obtain ⟨q,hq,he⟩:=x2x hkx;injection he with e1 e2;subst e1 e2
    have hkn:k<n:=by rw [←hn];exact (Qac.1 hkx).1
    have hsp:=hs.push hkn hks;have hspl:=hsp.le
    have hkey:y73 S k=q.1:=by simp [y73,hq]
    have H7:Hp w0 w9 K5 (.row 9 1 (.slice Av s.size cv) s.size ((s.toList.map (y73 S)).map ks)::iter r b (y0u ks S).length (s.push k):: .box g5 [.map (some b)] 87::M):=by rw [hn,List.map_map];exact H9
    clear H H0 H9;have H:=H7;rw [hn] at H
    go_wp2_with (first
     |(refine y2k (by rfl) 27 9 1 _ (by rfl) (some 23) (by rfl) Tryz.underlying27 [.string (str q.1)] (by kernel_rfl) H ?_;clear H;intro w1 g23 H)
     |(at_builtin;refine y4v (by rfl) _ _ 27 (by rfl) 9 k0 _ 1 16 Tryz.underlying27 hk0 k0z k0s k0b (by rfl) (by decide) H 1 (.slice Av s.size cv) (s.size) (((s.toList.map (y73 S)).map ks)) (by rfl) (by first|rfl|simp [Act.eval,Act.put]) (some ⟨g23,0,none⟩) 1 1 [.string (str q.1)] (by first|rfl|simp [Act.eval,Act.put]) (by rfl) (H.rd (i:=0) rfl) (by simp [Value.oneCell']) (by simp only [maxLen];omega) (by omega) ?_;clear H;intro V2 w2 H;replace H:Hp w0 w2 K5 (.box g23 [.string (str q.1)] 9:: .row 9 1 (V2) (s.size+1) (((s.toList.map (y73 S)).map ks)++[.string (str q.1)])::(iter r b n (s.push k):: .box g5 [.map (some b)] 87::M)):=H;obtain ⟨V2A,V2c,rfl,V2l,V2m⟩:=H.slice (i:=1) rfl)
     |((with_reducible show wpList _ _ _ (_::_) _ _);refine z6q (by rfl) (.tmp 16) (by rfl) (by first|rfl|simp [Act.eval,Act.put]) H7 1 b (y0u ks S) s k (ks q.1,q.2) (by rfl) (H7.kmap hSk) hkx ?_))
    replace H:=H.sub (Qai _ (Qaa _ (Qam _)));have hsn6:=y94 H.tail;go_roundw
    case rel=>
     refine ⟨s.push k,hsp,?_⟩;rw [Array.size_push,Array.toList_push,Qas,Qas];simp only [List.map_cons,List.map_nil,hkey];exact H
    case measure=>
     rw [hsn6,hsn];rw [Array.size_push] at hspl ⊢;omega
end Go.Proofs.YtbpgkkoeehopjaaGreat.hp
namespace Go.Proofs.YtbpgkkoeehopjaaGreat.hp
open Go.RowKit lex gram rd tree dat ty
theorem x9s (ts:List DefD) (x:Txt):z1l ts x=x0t ts x:=rfl
theorem q2y {ts:List DefD} {x:Txt} {d:DefD} (h:x0t ts x=some d):d.name=x∧ ∃i,ts[i]?=some d∧y1f ts x=some i:=by
 unfold x0t at h
 cases hi:y1f ts x with
 |none=>rw [hi] at h;cases h
 |some i=>
  rw [hi] at h;obtain ⟨e,he,hn⟩:=y1d hi;have:ts[i]?=some d:=h;rw [this] at he;injection he with he;subst he;exact ⟨hn,i,this,rfl⟩
section
variable {ts : List DefD} (hn : (y0a ts).Nodup)
include hn
theorem z8y (t x:Txt):(y0z (y1o (y2c ts) t) x).isSome=decide (x∈posL ts t):=by
 rw [x9a hn,←(z0r ts t).2];unfold y0z;rw [Option.isSome_map];by_cases h:x∈(setL ts t).map (·.1)
 ·rw [Qa5 h,List.find?_isSome];obtain ⟨p,hp,rfl⟩:=Qbe.1 h;exact ⟨p,hp,by simp⟩
 ·rw [Qa4 h]
  cases hq:((setL ts t).find? fun p=>decide (p.1=x)) with
  |none=>rfl
  |some p=>
   have h1:=List.mem_of_find?_eq_some hq;have h2:=List.find?_some hq;exact absurd (Qbe.2 ⟨p,h1,Qa6 h2⟩) h
end
section
variable (defs : List DefD)
theorem z8z:(y12 defs).types=y0h defs:=rfl
theorem y8l:(y12 defs).objects=y2c (y0h defs):=rfl
theorem q5m (a b:Txt):z38 (y12 defs) a b=(posL (y0h defs) a).any fun x=>decide (x∈posL (y0h defs) b):=by
 have hn:=y41 defs;unfold z38;rw [y8l]
 have: ∀l:List (Txt×Value),(l.any fun q=>(y0z (y1o (y2c (y0h defs)) b) q.1).isSome)=(l.map (·.1)).any fun x=>decide (x∈posL (y0h defs) b):=fun l=>by
  rw [List.any_map]
  congr 1
  funext q
  exact z8y hn b q.1
 rw [this,x9a hn,(z0r (y0h defs) a).2]
end
end Go.Proofs.YtbpgkkoeehopjaaGreat.hp
namespace Go.Proofs.YtbpgkkoeehopjaaGreat.ty
open Go.RowKit lex gram rd tree dat hp
def y3t (d acc x:DefD):DefD:=if x.ext=true∧x.kind=d.kind∧x.name=d.name then y0y acc x else acc
def x01 (defs:List DefD) (d:DefD):DefD:=defs.foldl (y3t d) d
def y19 (defs out:List DefD) (d:DefD):List DefD:=if IsTy d∧d.name∉y0a out∧d.name∉y0a givenT then out++[x01 defs d] else out
def y3f (defs:List DefD):List DefD:=defs.foldl (y19 defs) []
def y1p (out:List DefD) (d:DefD):List DefD:=if d.kind=8∧d.name∉y0a out∧d.name∉y0a givenDirsD then out++[d] else out
def y5g (defs:List DefD):List DefD:=defs.foldl y1p []
def y68 (s x:DefD):DefD:=if x.kind=1∧x.ext=true then y0y s x else s
def y43 (defs own:List DefD):DefD:=
 match defs.find? y1c with
 |none=>{y3p with roots:=y40 own}
 |some d=>defs.foldl y68 d
def q2z (defs:List DefD):Prop:=∀x∈defs,x.kind=1→x.ifaces=[]∧x.fields=[]∧x.inputs=[]∧x.members=[]∧x.values=[]
theorem x5p (defs:List DefD) (d:DefD):(x01 defs d).name=d.name:=
 y4n (Q:=fun e:DefD=>e.name=d.name) (fun b a h=>by unfold y3t;split<;>exact h) defs d rfl
theorem x02 (defs l:List DefD):y0a (l.map (x01 defs))=y0a l:=by
 simp only [y0a,List.map_map];exact List.map_congr_left fun d _=>x5p defs d
theorem z80 (p:List DefD×List DefD) (d:DefD):(y2b p d).1=if IsTy d∧d.name∉y0a p.1∧d.name∉y0a givenT then p.1++[d] else p.1:=by
 unfold y2b addD;by_cases h8:d.kind=8
 ·rw [if_pos h8];exact (if_neg (fun h=>by have:=h.1.2.1;omega)).symm
 ·rw [if_neg h8];by_cases ht:IsTy d
  ·rw [if_pos ht];dsimp only;by_cases h1:d.name∈y0a givenT
   ·rw [if_pos h1,if_neg (fun h=>h.2.2 h1)]
   ·rw [if_neg h1];by_cases h2:d.name∈y0a p.1
    ·rw [if_pos h2,if_neg (fun h=>h.2.1 h2)]
    ·rw [if_neg h2,if_pos ⟨ht,h2,h1⟩]
  ·rw [if_neg ht,if_neg (fun h=>ht h.1)]
theorem z81 (p:List DefD×List DefD) (d:DefD):(y2b p d).2=y1p p.2 d:=by
 unfold y2b addD y1p;by_cases h8:d.kind=8
 ·rw [if_pos h8];dsimp only;by_cases h1:d.name∈y0a givenDirsD
  ·rw [if_pos h1,if_neg (fun h=>h.2.2 h1)]
  ·rw [if_neg h1];by_cases h2:d.name∈y0a p.2
   ·rw [if_pos h2,if_neg (fun h=>h.2.1 h2)]
   ·rw [if_neg h2,if_pos ⟨h8,h2,h1⟩]
 ·rw [if_neg h8,if_neg (fun h:d.kind=8∧_=>h8 h.1)]
  split<;>rfl
theorem x20 (defs:List DefD): ∀(l:List DefD) (p:List DefD×List DefD),l.foldl (y19 defs) (p.1.map (x01 defs))=(l.foldl y2b p).1.map (x01 defs)
 |[],p=>rfl
 |d::r,p=>by
  rw [List.foldl_cons,List.foldl_cons,←x20 defs r (y2b p d),z80]
  congr 1
  unfold y19;rw [x02];split
  ·rw [Qas];rfl
  ·rfl
theorem z82: ∀(l:List DefD) (p:List DefD×List DefD),l.foldl y1p p.2=(l.foldl y2b p).2
 |[],p=>rfl
 |d::r,p=>by rw [List.foldl_cons,List.foldl_cons,←z82 r (y2b p d),z81]
theorem x03: ∀(g l:List DefD),(y0a (l++g)).Nodup→g.foldl addD l=l++g
 |[],l,_=>by rw [List.append_nil];rfl
 |d::r,l,h=>by
  have hd:d.name∉y0a l:=by
   intro hm;simp only [y0a,Qas,List.map_cons] at h;rw [Qbr] at h;exact h.2.2 _ hm _ (Qaz ..) rfl
  rw [List.foldl_cons,addD,if_neg hd,x03 r (l++[d]) (by rw [Qat];exact h),Qat];rfl
theorem z6t (defs:List DefD):(∀d∈(bare defs).1,IsTy d∧d.name∉y0a givenT)∧ ∀d∈(bare defs).2,d.name∉y0a givenDirsD:=by
 refine y4n (Q:=fun p:List DefD×List DefD=>(∀d∈p.1,IsTy d∧d.name∉y0a givenT)∧ ∀d∈p.2,d.name∉y0a givenDirsD) ?_ defs ([],[]) ⟨fun _ h=>absurd h (List.not_mem_nil),fun _ h=>absurd h (List.not_mem_nil)⟩;intro p d h;rw [z80,z81];refine ⟨fun e he=>?_,fun e he=>?_⟩
 ·split at he
  ·rename_i hc;rcases Qbf.1 he with he|he
   ·exact h.1 e he
   ·obtain rfl:=Qax.1 he;exact ⟨hc.1,hc.2.2⟩
  ·exact h.1 e he
 ·unfold y1p at he;split at he
  ·rename_i hc;rcases Qbf.1 he with he|he
   ·exact h.2 e he
   ·obtain rfl:=Qax.1 he;exact hc.2.2
  ·exact h.2 e he
theorem z83 {a b:List DefD} (ha:(y0a a).Nodup) (hb:(y0a b).Nodup) (hf: ∀d∈a,d.name∉y0a b):(y0a (a++b)).Nodup:=by
 simp only [y0a,Qas];rw [Qbr];refine ⟨ha,hb,fun x hx y hy e=>?_⟩;obtain ⟨d,hd,rfl⟩:=Qbe.1 hx;exact hf d hd (e▸hy)
theorem z3w:(y0a givenT).Nodup∧(y0a givenDirsD).Nodup:=by decide+kernel
theorem x5q (defs:List DefD):y31 defs=(bare defs).1++givenT:=
 x03 _ _ (z83 (y7u defs).1 z3w.1 fun d hd=>((z6t defs).1 d hd).2)
theorem q20 (defs:List DefD):y3i defs=y5g defs++givenDirsD:=by
 unfold y3i;rw [x03 _ _ (z83 (y7u defs).2 z3w.2 (z6t defs).2)];exact congrArg (· ++givenDirsD) (z82 defs ([],[])).symm
def ext2 (e d:DefD):DefD:=if d.ext=true∧d.kind=e.kind∧d.kind≠1∧d.name=e.name∧d.name∉y0a givenT then y0y e d else e
theorem x9t {l:List DefD} (hn:(y0a l).Nodup) (d:DefD):step2 l d=l.map fun e=>ext2 e d:=by
 have hself: ∀e:DefD,d.name≠e.name→ext2 e d=e:=fun e he=>if_neg fun h=>he h.2.2.2.1;unfold step2
 cases hq:y1f l d.name with
 |none=>
  have hq:=y5x hq;have:l.map (fun e=>ext2 e d)=l.map id:=List.map_congr_left fun e he=>hself e fun h=>hq (h▸List.mem_map_of_mem he);rw [this,List.map_id]
 |some i=>
  obtain ⟨e,hi,hne⟩:=y1d hq;simp only [hi];have hother: ∀j x,l[j]?=some x→j≠i→ext2 x d=x:=fun j x hx hj=>hself x fun h=>hj (z1w hn hx hi (by rw [hne,h]));split
  ·rename_i hc;apply Qbz;intro j;rw [Qb0,List.getElem?_set];by_cases hj:i=j
   ·subst hj;rw [if_pos rfl,if_pos (Qac.1 hi).1,hi,Option.map_some]
    congr 1
    unfold ext2;rw [if_pos ⟨hc.1,hc.2.1,hc.2.2.1,hne.symm,hc.2.2.2⟩]
   ·rw [if_neg hj]
    cases hx:l[j]? with
    |none=>rfl
    |some x=>rw [Option.map_some,hother j x hx (Ne.symm hj)]
  ·rename_i hc
   have:l.map (fun e=>ext2 e d)=l.map id:=List.map_congr_left fun x hx=>by
    obtain ⟨j,hj⟩:=Qbp.1 hx;by_cases hji:j=i
    ·subst hji
     rw [hi] at hj;injection hj with hj;subst hj
     exact if_neg fun h=>hc ⟨h.1,h.2.1,h.2.2.1,h.2.2.2.2⟩
    ·exact hother j x hj hji
   rw [this,List.map_id]
theorem z84: ∀(defs l:List DefD),(y0a l).Nodup→defs.foldl step2 l=l.map fun e=>defs.foldl ext2 e
 |[],l,_=>by simp
 |d::r,l,hn=>by
  rw [List.foldl_cons,z84 r _ (by rw [z3m];exact hn),x9t hn,List.map_map];rfl
theorem z5e {e:DefD} (he:IsTy e) (hg:e.name∉y0a givenT): ∀(l:List DefD) (acc:DefD),acc.name=e.name→acc.kind=e.kind→l.foldl ext2 acc=l.foldl (y3t e) acc
 |[],_,_,_=>rfl
 |d::r,acc,h1,h2=>by
  have hs:ext2 acc d=y3t e acc d:=by
   unfold ext2 y3t;rw [h1,h2];by_cases h:d.ext=true∧d.kind=e.kind∧d.name=e.name
   ·rw [if_pos h,if_pos ⟨h.1,h.2.1,by have:=he.1;omega,h.2.2,by rw [h.2.2];exact hg⟩]
   ·rw [if_neg h,if_neg fun h'=>h ⟨h'.1,h'.2.1,h'.2.2.2.1⟩]
  rw [List.foldl_cons,List.foldl_cons,hs];refine z5e he hg r _ ?_ ?_
  ·unfold y3t;split<;>exact h1
  ·unfold y3t;split<;>exact h2
theorem z5f {e:DefD} (hg:e.name∈y0a givenT): ∀l:List DefD,l.foldl ext2 e=e
 |[]=>rfl
 |d::r=>by
  rw [List.foldl_cons,show ext2 e d=e from if_neg fun h=>h.2.2.2.2 (by rw [h.2.2.2.1];exact hg),z5f hg r]
theorem z85 (defs:List DefD):y0h defs=y3f defs++givenT:=by
 unfold y0h;rw [z84 _ _ (z1g defs),x5q,Qas]
 congr 1
 ·have hr:y3f defs=(bare defs).1.map (x01 defs):=x20 defs defs ([],[]);rw [hr]
  exact List.map_congr_left fun e he=>by
   have h:=(z6t defs).1 e he;exact z5e h.1 h.2 defs e rfl rfl
 ·have:givenT.map (fun e=>defs.foldl ext2 e)=givenT.map id:=List.map_congr_left fun e he=>z5f (List.mem_map_of_mem he) defs;rw [this,List.map_id]
theorem q5n {a b:List DefD} {x:Txt} (h:x∉y0a b):y1f (a++b) x=y1f a x:=by
 unfold y1f;rw [show y0a (a++b)=y0a a++y0a b from Qas,List.findIdx?_append]
 have:(y0a b).findIdx? (· ==x)=none:=by
  rw [List.findIdx?_eq_none_iff];intro y hy;exact Qa3.2 fun e=>h (e▸hy)
 rw [this]
 cases (y0a a).findIdx? (· ==x)<;>rfl
theorem q21 {a b:List DefD} {x:Txt} (h:x∉y0a b):y0c (a++b) x=y0c a x:=by
 unfold y0c;rw [q5n h]
 cases hq:y1f a x with
 |none=>rfl
 |some i=>
  obtain ⟨d,hd,_⟩:=y1d hq;simp only [Option.bind_some];rw [Qa9 (Qac.1 hd).1]
theorem x9u (a:List DefD):y40 (a++givenT)=y40 a:=by
 have hr: ∀x∈rootN,x∉y0a givenT:=by decide+kernel
 unfold y40
 congr 1
 refine List.filter_congr fun p hp=>?_;have hm:p.1∈rootN:=(List.mem_zipIdx' hp).2▸List.getElem_mem _;rw [q21 (hr p.1 hm)]
theorem x21: ∀(l:List DefD) (s:DefD),q2z l→l.foldl y3q s=l.foldl y68 s
 |[],s,_=>rfl
 |d::r,s,h=>by
  have hs:y3q s d=y68 s d:=by
   unfold y3q y68;split
   ·rename_i hc;obtain ⟨e1,e2,e3,e4,e5⟩:=h d (Qaz ..) hc.1;unfold y0y;rw [e1,e2,e3,e4,e5];simp only [List.append_nil]
   ·rfl
  rw [List.foldl_cons,List.foldl_cons,hs];exact x21 r _ fun x hx=>h x (Qa2 _ hx)
theorem x04 {defs:List DefD} (h:q2z defs):y2s defs (y0h defs)=y43 defs (y3f defs):=by
 unfold y2s y43
 cases defs.find? y1c with
 |none=>dsimp only;rw [z85,x9u]
 |some d=>exact x21 defs d h
end Go.Proofs.YtbpgkkoeehopjaaGreat.ty
namespace Go.Proofs.YtbpgkkoeehopjaaGreat.hp
open Go.RowKit lex gram rd tree dat ty
def SchD (d:DefD):Prop:=d.kind=1→d.ifaces=[]∧d.fields=[]∧d.inputs=[]∧d.members=[]∧d.values=[]
theorem q22 {toks:List TokD} {L f:Nat} {h:NoteD×Bool×TokD×Nat} {q:DefD×Nat} (hb:y47 toks L f h=some q):SchD q.1:=by
 unfold y47 at hb;split at hb
 ·simp only [y8r,Qag] at hb;obtain ⟨_,_,_,_,hq⟩:=hb;injection hq with hq;subst hq;exact fun _=>⟨rfl,rfl,rfl,rfl,rfl⟩
 ·simp only [y8s,Qag] at hb;obtain ⟨_,_,_,_,hq⟩:=hb;injection hq with hq;subst hq
  exact fun h=>by simp at h
 ·simp only [y36,Qag] at hb;obtain ⟨_,_,_,_,_,_,_,_,hq⟩:=hb;injection hq with hq;subst hq
  exact fun h=>by simp at h
 ·simp only [y36,Qag] at hb;obtain ⟨_,_,_,_,_,_,_,_,hq⟩:=hb;injection hq with hq;subst hq
  exact fun h=>by simp at h
 ·simp only [z2j,Qag] at hb;obtain ⟨_,_,_,_,_,_,hq⟩:=hb;injection hq with hq;subst hq
  exact fun h=>by simp at h
 ·simp only [z90,Qag] at hb;obtain ⟨_,_,_,_,_,_,hq⟩:=hb;injection hq with hq;subst hq
  exact fun h=>by simp at h
 ·simp only [z2k,Qag] at hb;obtain ⟨_,_,_,_,_,_,hq⟩:=hb;injection hq with hq;subst hq
  exact fun h=>by simp at h
 ·simp only [dirF,Qag] at hb;obtain ⟨_,_,_,_,_,_,_,_,_,_,_,_,hq⟩:=hb;injection hq with hq;subst hq
  exact fun h=>by simp at h
 ·cases hb
theorem x22 (toks:List TokD) (L f:Nat): ∀(fu k:Nat) (l:List DefD),y30 toks L f fu k=some l→ ∀x∈l,SchD x
 |0,_,_,h=>by cases h
 |fu+1,k,l,h=>by
  simp only [y30,Qag] at h;obtain ⟨t,_,h⟩:=h;split at h
  ·injection h with h;subst h;exact fun x hx=>by cases hx
  ·simp only [Qag,defF] at h;obtain ⟨q,⟨_,_,hb⟩,r,hr,hl⟩:=h;injection hl with hl;subst hl;intro x hx;rcases Qbd.1 hx with rfl|hx
   ·exact q22 hb
   ·exact x22 toks L f fu q.2 r hr x hx
theorem q23 (src:Txt) (hlen:src.length≤2200000):q2z (z1k src):=by
 obtain ⟨toks,e,hA,h2,⟨hr,hd,hN⟩|⟨e0,p1,p2,h0,hr,hd⟩⟩:=z0o src hlen
 ·exact x22 _ _ _ _ _ _ hd
 ·rw [hd];exact fun x hx=>by cases hx
end Go.Proofs.YtbpgkkoeehopjaaGreat.hp
namespace Go.Proofs.YtbpgkkoeehopjaaGreat.hp
open Go.RowKit words enc tree gram lex rd dec dat held
set_option maxRecDepth 100000
set_option maxHeartbeats 40000000
attribute [local go_sem ↓] Go.wp_at_zero Go.wp_at_succ
section
variable {w0 w K : World} {M : List Ent}
theorem z86 {p:Addr} {us vs ws:List Value} {k:Nat} (h:At K p (us++vs++ws)) (hk:us.length=k+1):At K ⟨p.block,p.off+(k+1),none⟩ vs:=by
 have e: ∀i u,vs[i]?=some u→(us++vs++ws)[k+i+1]?=some u:=by
  intro i u hu;rw [Qat,Qba (by omega),hk,show k+i+1 - (k+1)=i by omega,Qa9 (Qac.1 hu).1];exact hu
 refine ⟨fun u hu=>h.2 k u (e 0 u hu),fun i u hu=>?_⟩;have:=h.2 _ _ (e _ _ hu);rwa [show p.off+(k+(i+1)+1)=p.off+(k+1)+(i+1) by omega] at this
theorem z5g: ∀(m:Nat) (d:LitD) (cs:Array Value) (w0 w K:World) (M:List Ent),litN d≤m→m≤9000000→RL K (litL d) cs.toList→Hp w0 w K M→
  Calls Tryz.prog 165 #[.agg cs] w fun e w'=>∃K' cs',e= .returned (.agg cs')∧Sat K' K∧Hp w0 w' K' M∧RL K' (litL d) cs'.toList:=by
 intro m
 induction m with
 |zero=>intro d cs w0 w K M h;have:=y7j d;omega
 |succ m ih=>
 intro d cs w0 w K M hn hm hd H;obtain ⟨kind,text,block,items,fields,line,col⟩:=d;obtain ⟨Ai,ci,Af,cf,hcs,hi,hf⟩:=y03 hd;obtain rfl:cs= #[_,_,_,_,_,_,_]:=Qal.1 hcs
 have hni:items.length≤9000000:=by have:=z59 items;simp only [litN] at hn;omega
 have hnf:fields.length≤9000000:=by have:=y6y fields;simp only [litN] at hn;omega
 have HI:=hide (show ∀x∈items,litN x≤m from fun x hx=>by obtain ⟨k,hk⟩:=Qaq hx;have:=z91 hk;simp only [litN] at hn;omega);have HF:=hide (show ∀x∈fields,pairN x≤m from fun x hx=>by obtain ⟨k,hk⟩:=Qaq hx;have:=y9n hk;simp only [litN] at hn;omega);have HIH:=hide ih;rw [y7f] at hi;rw [y3z] at hf;clear ih hcs hd hn;obtain ⟨ni,hni2⟩: ∃x,items.length=x:=⟨_,rfl⟩;obtain ⟨nf,hnf2⟩: ∃x,fields.length=x:=⟨_,rfl⟩;rw [hni2] at hi hni ⊢;rw [hnf2] at hf hnf ⊢;have HNI:=hide hni2;have HNF:=hide hnf2;clear hni2 hnf2;go_enter Tryz.func165,Tryz.ntmps165
 go_wp2_with (first|(refine oL H ?_)|(refine oA 1 H ?_;clear H;intro w gv H)|(refine oA 2 H ?_;clear H;intro w gz H)|(refine oA 3 H ?_;clear H;intro w gw H)|(refine oP H ?_;clear H;intro w _ H))
 replace H:=H.nilRow 121 7
 go_loopw [4] (fun i wr=>∃(K':World) (k:Nat) (A':Option Addr) (c':Nat) (vs:List Value),k≤ni∧i= .int .i64 k∧Sat K' K∧RL K' (litsL (items.take k)) vs∧Hp w0 wr K' (.row 121 7 (.slice A' k c') k vs:: .box gw [.int .i64 kind,.string (str text),.bool block,.slice A' k c',.slice none 0 0,.int .i64 line,.int .i64 col] 121:: .box gz [.int .i64 0,.string ⟨#[]⟩,.bool false,.slice none 0 0,.slice none 0 0,.int .i64 0,.int .i64 0] 121:: .box gv [.int .i64 kind,.string (str text),.bool block,.slice Ai ni ci,.slice Af nf cf,.int .i64 line,.int .i64 col] 121::M)) (fun i _=>ni - (intOf i).toNat)
 case atStart=>exact ⟨K,0,none,0,[],Qak _,rfl,Sat.refl _,.nil (Qab _),H⟩
 case round=>
  clear H;obtain ⟨K',k,A',c',vs,hk,rfl,hle,hvs,H⟩:=hrel;replace hi:=hi.sat hle;replace hf:=hf.sat hle;by_cases hlt:k<ni
  ·obtain ⟨x,ad,us,hx,rfl,hxl,hat⟩:=el_k z1o hi (by rw [HNI.out];exact hlt) (by decide);obtain ⟨hkI,hwr⟩:=wr_k hlt hni;have hxn:=HI.out x (Qaf hx);have HX:=hide (y0k hx);obtain ⟨dk,dt,db,di,df,dln,dcl⟩:=x;obtain ⟨Xi,xi,Xf,xf,rfl,-,-⟩:=y03 hxl;have hc:=fun {w M} (h:Hp w0 w K' M)=>HIH.out _ #[_,_,_,_,_,_,_] w0 w K' M hxn (by omega) hxl h;clear hx
   go_wp2_with (first|(refine oL H ?_)|(refine oA 5 H ?_;clear H;intro w gx H)|(refine oP H ?_;clear H;intro w _ H)|((with_reducible refine (hc H).mono ?_);clear H;rintro e w ⟨K2,cs,rfl,hle2,H,he⟩;obtain ⟨Bi,bi,Bf,bf,hcs,-,-⟩:=y03 he;obtain rfl:cs= #[_,_,_,_,_,_,_]:=Qal.1 hcs;clear hcs)|(refine oQ H ?_;clear H;intro A' c' w _ _ H;dsimp only [List.set] at H))
   go_roundw
   case rel=>exact ⟨K2,k+1,_,_,_,by omega,by go_num,hle2.trans hle,by rw [HX.out,z2g];exact (hvs.sat hle2).app (by simpa [litsL] using he),H.fin⟩
   case measure=>simp [intOf];omega
  ·obtain rfl:k=ni:=by omega
   rw [Qaj (by rw [HNI.out];exact Qab _)] at hvs;clear hlt hi
   go_wp2_with (first|(refine oL H ?_)|(refine oP H ?_;clear H;intro w _ H))
   replace H:=H.nilRow 219 10
   go_loopw [6] (fun i wr=>∃(K2:World) (j:Nat) (A2:Option Addr) (c2:Nat) (vs2:List Value),j≤nf∧i= .int .i64 j∧Sat K2 K'∧RL K2 (pairsL (fields.take j)) vs2∧Hp w0 wr K2 (.row 219 10 (.slice A2 j c2) j vs2:: .row 121 7 (.slice A' k c') k vs:: .box gw [.int .i64 kind,.string (str text),.bool block,.slice A' k c',.slice A2 j c2,.int .i64 line,.int .i64 col] 121:: .box gz [.int .i64 0,.string ⟨#[]⟩,.bool false,.slice none 0 0,.slice none 0 0,.int .i64 0,.int .i64 0] 121:: .box gv [.int .i64 kind,.string (str text),.bool block,.slice Ai k ci,.slice Af nf cf,.int .i64 line,.int .i64 col] 121::M)) (fun i _=>nf - (intOf i).toNat)
   case atStart=>exact ⟨K',0,none,0,[],Qak _,rfl,Sat.refl _,.nil (Qab _),H.fin⟩
   case round=>
    clear H;obtain ⟨K2,j,A2,c2,vs2,hj,rfl,hle2,hvs2,H⟩:=hrel;replace hf:=hf.sat hle2;by_cases hlt:j<nf
    ·obtain ⟨x,ad,us,hx,rfl,hxl,hat⟩:=el_k y9j hf (by rw [HNF.out];exact hlt) (by decide);obtain ⟨hkI,hwr⟩:=wr_k hlt hnf;have hxn:=HF.out x (Qaf hx);have HX:=hide (y0k hx);obtain ⟨pn,⟨dk,dt,db,di,df,dln,dcl⟩,pl,pc⟩:=x;obtain ⟨ls,rfl,hvl⟩:=y7i hxl;obtain ⟨Xi,xi,Xf,xf,rfl,-,-⟩:=y03 hvl;have hc:=fun {w M} (h:Hp w0 w K2 M)=>HIH.out _ #[_,_,_,_,_,_,_] w0 w K2 M (by simp only [pairN] at hxn;omega) (by omega) hvl h;simp only [List.cons_append,List.nil_append] at hat;have hat1:At K2 ⟨(ad.add (j*10)).block,(ad.add (j*10)).off+1,none⟩ [_,_,_,_,_,_,_]:=z86 (us:=[_]) (vs:=[_,_,_,_,_,_,_]) (ws:=[_,_]) (k:=0) hat rfl;clear hx hxl
     go_upto_region 13 with (first|(refine oL H ?_)|(refine oA 7 H ?_;clear H;intro w gx H)|(refine oP H ?_;clear H;intro w _ H)|((with_reducible refine (hc H).mono ?_);clear H;rintro e w ⟨K3,cs,rfl,hle3,H,he⟩;obtain ⟨Bi,bi,Bf,bf,hcs,-,-⟩:=y03 he;obtain rfl:cs= #[_,_,_,_,_,_,_]:=Qal.1 hcs;clear hcs;replace hat:=At.sat hat hle3;clear hat1))
     have hat8:At K3 ⟨(ad.add (j*10)).block,(ad.add (j*10)).off+8,none⟩ [_,_]:=z86 (us:=[_,_,_,_,_,_,_,_]) (vs:=[_,_]) (ws:=[]) (k:=7) hat rfl;refine rN [.box gw _ _,.box gv _ _,.box gx _ _] [19] H ?_;clear H;intro w H;refine rT 0 H ?_;refine rT 1 H ?_;refine rT 2 H ?_;refine rT 3 H ?_;refine rT 4 H ?_;refine rT 5 H ?_;refine rT 6 H ?_;refine rT 7 H ?_;refine rT 8 H ?_;refine rT 9 H ?_;refine rT 10 H ?_;refine rT 11 H ?_;refine rT 12 H ?_;refine rT 13 H ?_;refine rT 14 H ?_;refine rT 15 H ?_;refine rW 16 H ?_;clear H;intro w _ H;refine rA 17 H ?_;clear H;intro A2 c2 w _ _ H;dsimp only [List.set] at H;refine rT 18 H ?_;refine rL 19 H ?_;clear H;intro w _ H;refine rE ?_;have hpe:RL K3 (pairL (.mk pn (.mk dk dt db di df dln dcl) pl pc)) [.string (str pn),.int .i64 dk,.string (str dt),.bool db,.slice Bi di.length bi,.slice Bf df.length bf,.int .i64 dln,.int .i64 dcl,.int .i64 pl,.int .i64 pc]:=DatL.lit (DatL.app he (DatL.lit (DatL.lit (DatL.nil he.le))))
     go_wp2_with (first|(refine oL H ?_)|(refine oP H ?_;clear H;intro w _ H))
     go_roundw
     case rel=>exact ⟨K3,j+1,_,_,_,by omega,by go_num,hle3.trans hle2,by rw [HX.out,y4k];exact (hvs2.sat hle3).app (by simpa [pairsL] using hpe),H.fin⟩
     case measure=>simp [intOf];omega
    ·obtain rfl:j=nf:=by omega
     rw [Qaj (by rw [HNF.out];exact Qab _)] at hvs2
     go_wp2_with (first|(refine oL H ?_)|(refine oP H ?_;clear H;intro w _ H))
     refine oB H ?_;replace H:Hp _ _ _ (.row 219 10 _ _ _:: .row 121 7 _ _ _::M):=H.fin;obtain ⟨K3,hle3,H,hd2⟩:=H.freezeRow hvs2;obtain ⟨K4,hle4,H,hd1⟩:=H.freezeRow (hvs.sat (hle3.trans hle2));refine ⟨K4,_,rfl,hle4.trans (hle3.trans (hle2.trans hle)),H,y2p ?_ ?_⟩
     ·rw [HNI.out];exact hd1
     ·rw [HNF.out];exact hd2.sat hle4
end
end Go.Proofs.YtbpgkkoeehopjaaGreat.hp
