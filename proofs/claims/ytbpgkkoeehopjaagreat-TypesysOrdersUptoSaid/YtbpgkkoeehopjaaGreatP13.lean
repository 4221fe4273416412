/- Part 13 of a proof: see the text that holds the statement. -/
import Derived.Test.YtbpgkkoeehopjaaGreatP7
import Derived.Test.YtbpgkkoeehopjaaGreatP8
import Derived.Test.YtbpgkkoeehopjaaGreatP9
import Derived.Test.YtbpgkkoeehopjaaGreatP10
import Derived.Test.YtbpgkkoeehopjaaGreatP11
import Derived.Test.YtbpgkkoeehopjaaGreatP12
import Derived.Laws.ResultCell
import Derived.Deep.QuietTactic
import Derived.BigQuiet
import Derived.Maps.RangeRun
import Derived.Shelf.SlSortCmp.Whole1
import Derived.KernelRfl
import Derived.Shelf.SlSortCmp.NoneTotal
set_option linter.unusedVariables false
set_option linter.unusedSimpArgs false
namespace Go.Proofs.YtbpgkkoeehopjaaGreat.hp
open Go.RowKit lex gram dat ty
theorem typesN (l:List DefD):y0i (y0q l)≤y0i l+1000:=by
 have h1:=x17 l (y2z l);have h2:=y9n z2a givenT (bare l).1;have h3:=x16 l ([],[]);have h4:=g12 l;have h5:=z4i.1;have h7:y0i ([]:List DefD)=0:=rfl;simp only [h7] at h3;unfold y0q y2z bare at*;unfold y0i at*;omega
theorem dirsN (l:List DefD):y0i (y2r l)≤y0i l+1000:=by
 have h1:=dirs_N l;have h5:=z4i.2;omega
theorem q8q (l:List DefD) (ts:List DefD):defN (y1w l ts)≤2*y0i l+10:=by
 unfold y1w;split
 ·have hr:(y39 ts).length≤3:=by
   unfold y39;rw [Qay];exact Qah (Qb3 _ _) (by rw [List.length_zipIdx];exact Qab _)
  unfold defN y5c;simp only [List.length_nil,sumN];omega
 ·rename_i d hd;have h1:=z4e l d;obtain ⟨i,hi⟩:=Qbp.1 (List.mem_of_find?_eq_some hd);have h2:=y4b hi;omega
structure TyW (D:TysD):Prop where
 nd:(y0a D.types).Nodup
 ndd:(y0a D.dirs).Nodup
 nT:y0i D.types≤3002000
 nD:y0i D.dirs≤3002000
 nS:defN D.schema≤9000000
 f:FOk D.types D.fields
 o:OOk D.types D.objects
theorem z2v (l:List DefD) (h:y0i l≤2900000):TyW (y05 l):=by
 have h1:=typesN l;have h2:=dirsN l;have h3:=q8q l (y0q l);exact ⟨y9o l,x6v l,by show y0i (y0q l)≤_;omega,by show y0i (y2r l)≤_;omega,by show defN (y1w l (y0q l))≤_;omega,x1z _,z2b (y9o l)⟩
def Tp (K:World) (v:Value) (D:TysD):Prop:=(v= .pointer none∧D=y05 [])∨ ∃g,v= .pointer (some ⟨g,0,none⟩)∧TysK K g D
theorem Tp.sat {K K':World} {v:Value} {D:TysD} (h:Tp K v D) (hs:Sat K' K):Tp K' v D:=by
 rcases h with h|⟨g,h1,h2⟩
 ·exact .inl h
 ·exact .inr ⟨g,h1,h2.sat hs⟩
theorem TysK.tp {K:World} {g:Nat} {D:TysD} (h:TysK K g D):Tp K (.pointer (some ⟨g,0,none⟩)) D:=.inr ⟨g,rfl,h⟩
open words enc tree rd dec held
set_option maxRecDepth 100000
attribute [local go_sem ↓] Go.wp_at_zero Go.wp_at_succ
theorem z9x (v:Value) (D:TysD) (w0 w K:World) (M:List Ent) (H:Hp w0 w K M) (T:Tp K v D):
  Calls Tryz.prog 64 #[v] w fun e w'=>∃K' g,e= .returned (.pointer (some ⟨g,0,none⟩))∧Sat K' K∧Hp w0 w' K' M∧TysK K' g D:=by
 rcases T with ⟨rfl,rfl⟩|⟨g,rfl,T⟩
 ·have hz:RD K (.list 0 (y0r [])) (.slice none 0 0):=RD.z;go_enter Tryz.func64,Tryz.ntmps64
  go_wp2_with (first
   |(go_at_call 14;refine (z0s [] 0 0 none w0 _ K M H rfl hz (by simp [y0i,sumN])).mono ?_;clear H;rintro e w1 ⟨K1,g,rfl,hle,H,hT⟩))
  go_ret;exact ⟨K1,g,rfl,hle,H,hT⟩
 ·skip
  go_enter Tryz.func64,Tryz.ntmps64
  go_wp2_with fail
  go_ret;exact ⟨K,g,rfl,Sat.refl K,H,T⟩
def DefR (d:DefD) (K:World) (v:Value):Prop:=∃cs,v= .agg cs∧RL K (defL d) cs.toList
theorem Kb.range {w:World} {g:Nat} {cs us:List Value} {t:TypeId} (h:Kb w g (us++cs) t):w.rangeAt g 0 us:=fun k u hu=>by
 rw [Nat.zero_add];exact h.cell (by rw [Qa9 (Qac.1 hu).1];exact hu)
theorem q5e (v:Value) (D:TysD) (d:DefD) (w0 w K:World) (M:List Ent) (H:Hp w0 w K M) (hv:Tp K v D) (hW:TyW D) (hD:D.schema=d):
  Calls Tryz.prog 18 #[v] w (Post w0 K M (DefR d)):=by
 have hN:defN d≤9000000:=hD▸hW.nS;have hsz:(Tryz.prog.info? 43).map (·.size)=some 17:=y60;go_enter Tryz.func18,Tryz.ntmps18;have hK:=Sat.refl K
 go_upto_region 1 with (first
  |((with_reducible refine isL ?_);first
   |(refine al z43 2 H ?_;clear H;intro w5 g2 H)))
 go_wp2_with (first
  |(go_at_call 64;refine (z9x _ D _ _ K _ H hv).mono ?_;clear H;rintro e w5 ⟨K5,g5,rfl,hle,H,hT5⟩;replace hK:=hle.trans hK;obtain ⟨ga,gd,gf,go,sch,VT,VD,OB,T⟩:=hT5;have hs:=T.a.sch;rw [hD] at hs;have hlen:=T.a.len)
  |(go_at_call 65;refine (y6f d sch.toArray H hN hs).mono ?_;clear H;rintro e w6 ⟨K6,cs5,rfl,hle6,H,hd5⟩;replace hK:=hle6.trans hK;obtain ⟨B6,e6,B7,e7,B8,e8,B9,e9,B10,e10,B11,e11,B12,e12,B14,e14,hcs5,-,-,-,-,-,-,-,-⟩:=y0h hd5;obtain rfl:cs5= #[.int .i64 d.kind,.bool d.ext,.bool d.note.has,.bool d.note.block,.string (str d.note.text),.string (str d.name),.slice B6 d.ifaces.length e6,.slice B7 d.dirs.length e7,.slice B8 d.fields.length e8,.slice B9 d.inputs.length e9,.slice B10 d.members.length e10,.slice B11 d.values.length e11,.slice B12 d.roots.length e12,.bool d.rep,.slice B14 d.places.length e14,.int .i64 d.line,.int .i64 d.col]:=Qal.1 hcs5;clear hcs5)
  |((with_reducible show wpList _ _ _ (_::_) _ _);refine wpList_load_mid (by rfl) 43 (.tmp 6) (by rfl) g5 0 (by first|rfl|simp [Act.eval,Act.put]) sch _ (Kb.range (T.a.box.sat H.sat)) Tryz.underlying43 rfl (by rw [hlen];exact hsz) ?_)
  |((with_reducible refine isL ?_);first
   |(refine sA 2 0 H ?_;clear H;intro w9 H)))
 refine bodyPost_ret (v:=.agg #[.int .i64 d.kind,.bool d.ext,.bool d.note.has,.bool d.note.block,.string (str d.note.text),.string (str d.name),.slice B6 d.ifaces.length e6,.slice B7 d.dirs.length e7,.slice B8 d.fields.length e8,.slice B9 d.inputs.length e9,.slice B10 d.members.length e10,.slice B11 d.values.length e11,.slice B12 d.roots.length e12,.bool d.rep,.slice B14 d.places.length e14,.int .i64 d.line,.int .i64 d.col]) (results_cell_row rfl _ _ g2 43 _ (0,0) _ (by rfl) (H.blkAt (i:=0) rfl) Tryz.underlying43 rfl (by kernel_rfl)) rfl ?_;replace H:=H.sub (Qai _ (Qam _));exact ⟨K6,_,rfl,hK,H,_,rfl,hd5⟩
def y4c (l:List DefD) (x:Txt):Option DefD:=(y1y l x).bind fun i=>l[i]?
def z7l:DefD:={y5c with kind:=0}
def DefO (o:Option DefD) (K:World) (v:Value):Prop:=∃cs,v= .tuple #[.agg cs,.bool o.isSome]∧RL K (defL (o.getD z7l)) cs.toList
theorem q5f {K:World}:RL K (defL z7l) [.int .i64 0,.bool false,.bool false,.bool false,.string ⟨#[]⟩,.string ⟨#[]⟩,.slice none 0 0,.slice none 0 0,.slice none 0 0,.slice none 0 0,.slice none 0 0,.slice none 0 0,.slice none 0 0,.bool false,.slice none 0 0,.int .i64 0,.int .i64 0]:=.lit (.lit (.lit (.lit (.lit (.lit (.cons RD.z (.cons RD.z (.cons RD.z (.cons RD.z (.cons RD.z (.cons RD.z (.cons RD.z (.lit (.cons RD.z (.lit (.lit RL.z))))))))))))))))
theorem x66 {l:List DefD} {x:Txt} (h:y1y l x=none):y4c l x=none:=by unfold y4c;rw [h];rfl
theorem z1q {l:List DefD} {x:Txt} {i:Nat} {d:DefD} (h:y1y l x=some i) (hd:l[i]?=some d):y4c l x=some d:=by unfold y4c;rw [h];exact hd
theorem q7a (v:Value) (x:Txt) (D:TysD) (w0 w K:World) (M:List Ent) (H:Hp w0 w K M) (hv:Tp K v D) (hW:TyW D):
  Calls Tryz.prog 19 #[v,.string (str x)] w (Post w0 K M (DefO (y4c D.types x))):=by
 have hq:=y2x D.types x;have hN:=hW.nT;have hsz:(Tryz.prog.info? 43).map (·.size)=some 17:=y60
 cases hi:y1y D.types x with
 |none=>
  rw [hi] at hq;replace hq:y00 (nmap (y0a D.types)) x=none:=hq;rw [x66 hi];clear hi;go_enter Tryz.func19,Tryz.ntmps19;have hK:=Sat.refl K
  go_upto_region 1 with (first
   |((with_reducible refine isL ?_);first
    |(refine al z43 4 H ?_;clear H;intro w10 g4 H)))
  go_upto_region 2 with (first
   |(go_at_call 64;refine (z9x _ D _ _ K _ H hv).mono ?_;clear H;rintro e w5 ⟨K5,g5,rfl,hle,H,hT5⟩;replace hK:=hle.trans hK))
  obtain ⟨ga,gd,gf,go,sch,VT,VD,OB,T⟩:=hT5;have hcA:=H.kcell T.a.box T.a.c18
  go_wp2_with (first
   |(refine y1p (by rfl) (.tmp 14) (.tmp 15) 87 true (by rfl) Tryz.underlying87 (y1i Tryz.underlying9) (.int .i64 0) y0p ga (nmap (y0a D.types)) (H.kmap T.a.at_) (by first|rfl|simp [Act.eval,Act.put]) (x) (by first|rfl|simp [Act.eval,Act.put]) (.tuple #[.int .i64 0,.bool false]) (by rw [hq];rfl) ?_)
   |((with_reducible refine isL ?_);first
    |(refine sA 4 0 H ?_;clear H;intro w13 H)))
  refine bodyPost_ret (z17 rfl _ _ g4 43 _ (0,0) _ (by rfl) (H.blkAt (i:=0) rfl) Tryz.underlying43 rfl (by kernel_rfl)) rfl ?_;replace H:=H.sub (Qai _ (Qam _));exact ⟨K5,_,rfl,hK,H,_,rfl,q5f⟩
 |some i=>
  rw [hi] at hq;replace hq:y00 (nmap (y0a D.types)) x=some (.int .i64 (i:Int)):=hq;obtain ⟨d,hd,-⟩:=y2o hi;rw [z1q hi hd];have hlt:=y8u hi
  have hltI:(i:Int)<(D.types.length:Int):=by omega
  have hdn:=y4b hd
  have hdm:defN d≤9000000:=by omega
  clear hi;go_enter Tryz.func19,Tryz.ntmps19;have hK:=Sat.refl K
  go_upto_region 1 with (first
   |((with_reducible refine isL ?_);first
    |(refine al z43 4 H ?_;clear H;intro w14 g4 H)))
  go_upto_region 2 with (first
   |(go_at_call 64;refine (z9x _ D _ _ K _ H hv).mono ?_;clear H;rintro e w5 ⟨K5,g5,rfl,hle,H,hT5⟩;replace hK:=hle.trans hK))
  obtain ⟨ga,gd,gf,go,sch,VT,VD,OB,T⟩:=hT5;have hcA:=H.kcell T.a.box T.a.c18;have hcT:=H.kcell T.a.box T.a.c17;have hTy:=T.a.types;obtain ⟨A,c,hVT,hc1,hc2⟩:=y4e hTy;rw [hVT] at hTy hcT;obtain ⟨ad,xs,hA,hxd,hxl,hatK⟩:=y4s (m:=17) (f:=defL) y1b hTy hd (by omega);subst hA
  go_upto_region 3 with (first
   |(refine y1p (by rfl) (.tmp 14) (.tmp 15) 87 true (by rfl) Tryz.underlying87 (y1i Tryz.underlying9) (.int .i64 0) y0p ga (nmap (y0a D.types)) (H.kmap T.a.at_) (by first|rfl|simp [Act.eval,Act.put]) (x) (by first|rfl|simp [Act.eval,Act.put]) (.tuple #[.int .i64 (i:Int),.bool true]) (by rw [hq];rfl) ?_))
  go_upto_region 5 with (fail)
  go_wp2_with (first
   |(go_at_call 65;refine (y6f d xs.toArray H hdm hxd).mono ?_;clear H;rintro e w6 ⟨K6,cs5,rfl,hle6,H,hd5⟩;replace hK:=hle6.trans hK;obtain ⟨B6,e6,B7,e7,B8,e8,B9,e9,B10,e10,B11,e11,B12,e12,B14,e14,hcs5,-,-,-,-,-,-,-,-⟩:=y0h hd5;obtain rfl:cs5= #[.int .i64 d.kind,.bool d.ext,.bool d.note.has,.bool d.note.block,.string (str d.note.text),.string (str d.name),.slice B6 d.ifaces.length e6,.slice B7 d.dirs.length e7,.slice B8 d.fields.length e8,.slice B9 d.inputs.length e9,.slice B10 d.members.length e10,.slice B11 d.values.length e11,.slice B12 d.roots.length e12,.bool d.rep,.slice B14 d.places.length e14,.int .i64 d.line,.int .i64 d.col]:=Qal.1 hcs5;clear hcs5)
   |((with_reducible show wpList _ _ _ (_::_) _ _);refine y0c (by rfl) 43 (.tmp 27) (by rfl) (ad.add (i*17)) (by simp [Act.eval,Act.put]) _ _ (At.sat hatK H.sat) Tryz.underlying43 rfl (by rw [hxl];exact hsz) ?_)
   |((with_reducible refine isL ?_);first
    |(refine sA 4 0 H ?_;clear H;intro w18 H)))
  refine bodyPost_ret (z17 rfl _ _ g4 43 _ (0,0) _ (by rfl) (H.blkAt (i:=0) rfl) Tryz.underlying43 rfl (by kernel_rfl)) rfl ?_;replace H:=H.sub (Qai _ (Qam _));exact ⟨K6,_,rfl,hK,H,_,rfl,hd5⟩
theorem x18 {w:World} {a T:Nat} {d:RootD} {vs:List Value} (h:DatL w a T (z2k d) vs):vs=[.int .i64 d.op,.string (str d.type),.int .i64 d.line,.int .i64 d.col]:=by
 obtain ⟨r0,rfl,h0⟩:=h.lit_inv;obtain ⟨r1,rfl,h1⟩:=h0.lit_inv;obtain ⟨r2,rfl,h2⟩:=h1.lit_inv;obtain ⟨r3,rfl,h3⟩:=h2.lit_inv;rw [h3.nil_inv]
theorem q06 {α:Type} {p:α→Bool}: ∀{l:List α} {k:Nat} {x:α},(∀y∈l.take k,p y=false)→l[k]?=some x→p x=true→l.find? p=some x
 |[],k,x,_,h,_=>by simp at h
 |a::r,0,x,_,h,hp=>by
  simp only [List.getElem?_cons_zero,Option.some.injEq] at h;subst h;simp [List.find?_cons,hp]
 |a::r,k+1,x,h0,h,hp=>by
  have ha:p a=false:=h0 a (by simp);have:=q06 (l:=r) (k:=k) (fun y hy=>h0 y (by rw [List.take_succ_cons];exact Qa2 _ hy)) (by simpa using h) hp;simp [List.find?_cons,ha,this]
theorem q8r {α:Type} {p:α→Bool} {l:List α} (h: ∀y∈l,p y=false):l.find? p=none:=by
 rw [List.find?_eq_none];intro y hy;rw [h y hy];exact Bool.false_ne_true
theorem x4f {α:Type} {p:α→Bool} {l:List α} {k:Nat} {x:α} (h: ∀y∈l.take k,p y=false) (hx:l[k]?=some x) (hp:p x=false): ∀y∈l.take (k+1),p y=false:=by
 intro y hy;rw [y1l hx] at hy;rcases Qbf.1 hy with hy|hy
 ·exact h y hy
 ·obtain rfl:=Qax.1 hy;exact hp
theorem q07:(Tryz.prog.info? 100).map (·.size)=some 4:=by kernel_rfl
def x4g (rs:List RootD) (op:Int):Txt:=((rs.find? fun r=>r.op==op).map (·.type)).getD []
set_option maxHeartbeats 4000000 in
theorem Root_t (v:Value) (op:Int) (D:TysD) (w0 w K:World) (M:List Ent) (H:Hp w0 w K M) (hv:Tp K v D) (hW:TyW D):
  Calls Tryz.prog 17 #[v,.int .i64 op] w fun e w'=>∃K',e= .returned (.string (str (x4g D.schema.roots op)))∧Sat K' K∧Hp w0 w' K' M:=by
 have hsz:=q07
 have hrl:D.schema.roots.length≤9000000:=by have:=hW.nS;unfold defN at this;omega
 obtain ⟨rs,hrs⟩: ∃rs,D.schema.roots=rs:=⟨_,rfl⟩;obtain ⟨n,hn⟩: ∃n,rs.length=n:=⟨_,rfl⟩;rw [hrs] at hrl ⊢;rw [hn] at hrl;have HN:=hide hn;go_enter Tryz.func17,Tryz.ntmps17;have hK:=Sat.refl K
 go_wp2_with (first
  |(go_at_call 64;refine (z9x _ D _ _ K _ H hv).mono ?_;clear H;rintro e w5 ⟨K5,g5,rfl,hle,H,hT5⟩;replace hK:=hle.trans hK;obtain ⟨ga,gd,gf,go,sch,VT,VD,OB,T⟩:=hT5;obtain ⟨A6,c6,A7,c7,A8,c8,A9,c9,A10,c10,A11,c11,A12,c12,A14,c14,hcs,-,-,-,-,-,-,hr,-⟩:=y0h T.a.sch;subst hcs;have h12:=H.kcell (j:=12) T.a.box rfl;rw [hrs,hn] at hr;rw [hrs,hn] at h12))
 clear hn hrs h12 T
 go_loopw [14] (fun i wr=>∃k:Nat,k≤n∧i= .int .i64 k∧Hp w0 wr K5 M∧ ∀y∈rs.take k,(y.op==op)=false) (fun i _=>n - (intOf i).toNat)
 case atStart=>exact ⟨0,Qak _,rfl,H,by simp⟩
 case round=>
  clear H;obtain ⟨k,hk,rfl,H,hno⟩:=hrel;by_cases hlt:k<n
  ·have hkI:(k:Int)<(n:Int):=by omega
   obtain ⟨x,hx⟩: ∃x,rs[k]?=some x:=⟨_,Qad (by rw [HN.out];exact hlt)⟩;have HX:=hide hx;obtain ⟨ad,xs,hA,hxd,_,hatK⟩:=y4s (m:=4) (f:=z2k) (fun _=>rfl) hr hx (by omega);subst hA;clear hx;obtain rfl:=x18 hxd;clear hxd;have hno:=hide hno;obtain ⟨xo,hxo⟩: ∃xo,x.op=xo:=⟨_,rfl⟩;rw [hxo] at hatK;by_cases hop:xo=op
   ·subst hop
    go_wp2_with (first
     |((with_reducible show wpList _ _ _ (_::_) _ _);refine y0c (by rfl) 100 (.tmp 16) (by rfl) (ad.add (k*4)) (by simp [Act.eval,Act.put]) _ _ (At.sat hatK H.sat) Tryz.underlying100 rfl hsz ?_)
     |((with_reducible refine isL ?_);first
      |(refine al z100 6 H ?_;clear H;intro w1 g6 H;have:=H.c 0 0;have:=H.c 0 1)
      |(refine sA 6 0 H ?_;clear H;intro w3 H;have:=H.c 0 0;have:=H.c 0 1)))
    replace H:=H.sub (Qai _ (Qam _));go_ret;exact ⟨K5,by unfold x4g;rw [q06 hno.out HX.out (by simp [hxo])];rfl,hK,H⟩
   ·have hb:(x.op==op)=false:=by simp [hxo,hop]
    go_wp2_with (first
     |((with_reducible show wpList _ _ _ (_::_) _ _);refine y0c (by rfl) 100 (.tmp 16) (by rfl) (ad.add (k*4)) (by simp [Act.eval,Act.put]) _ _ (At.sat hatK H.sat) Tryz.underlying100 rfl hsz ?_)
     |((with_reducible refine isL ?_);first
      |(refine al z100 6 H ?_;clear H;intro w4 g6 H;have:=H.c 0 0)
      |(refine sA 6 0 H ?_;clear H;intro w6 H;have:=H.c 0 0)))
    replace H:=H.sub (Qai _ (Qam _));go_roundw
    case rel=>exact ⟨k+1,by omega,by go_num,H,x4f hno.out HX.out hb⟩
    case measure=>simp [intOf];omega
  ·obtain rfl:n=k:=by omega
   have htk:rs.take n=rs:=by rw [←HN.out];exact List.take_length
   rw [htk] at hno;have hno:=hide hno
   go_wp2_with fail
   go_ret;exact ⟨K5,by unfold x4g;rw [q8r hno.out];rfl,hK,H⟩
theorem q08 {w:World} {p:Addr} {v:Value} (h:w.cell? p=some v): ∃B O,p=⟨B,O,none⟩:=by
 obtain ⟨b,o,sp⟩:=p
 cases sp with
 |none=>exact ⟨b,o,rfl⟩
 |some x=>
  unfold World.cell? at h;split at h
  ·simp at h
  ·cases h
theorem y69 {K:World} {α:Type} {f:α→List Leaf} {m n c:Nat} {ad:Addr} {l:List α} (hf: ∀x,(f x).length=m) (h:RD K (.list n (l.flatMap f)) (.slice (some ad) n c)) (hl:0<l.length) (hm:0<m): ∃B O,ad=⟨B,O,none⟩:=by
 obtain ⟨ad',vs,h1,_,h3,h4⟩:=y4s hf h (Qad hl) hm;injection h1 with h1;subst h1
 have h0:ad.add (0*m)=ad:=by unfold Addr.add;simp
 rw [h0] at h4
 cases vs with
 |nil=>simp at h3;omega
 |cons v r=>exact q08 (h4.1 v rfl)
theorem z0t (B O k:Nat):(⟨B,O,none⟩:Addr).add k=⟨B,O+k,none⟩:=by unfold Addr.add;split<;>simp_all
theorem q7b (x:NamedD) (b:Txt) (gb i:Nat) (w0 w K:World) (M:List Ent) (H:Hp w0 w K M) (hb:M[i]?=some (.box gb [.string (str b)] 9)):
  Calls Tryz.prog 82 #[.agg #[.string (str x.name),.int .i64 x.line,.int .i64 x.col],.pointer (some ⟨gb,0,none⟩)] w fun e w'=>e= .returned (.bool (decide (x.name=b)))∧Hp w0 w' K M:=by
 have hs:=y6g x.name b;go_enter Tryz.func82,Tryz.ntmps82
 go_wp2_with (first
  |((with_reducible show wpList _ _ _ (_::_) _ _);refine z16 (by rfl) 113 (.tmp 0) (by rfl) [.string (str x.name),.int .i64 x.line,.int .i64 x.col] _ (by rfl) (by rfl) (some 2) (by rfl) H ?_;clear H;intro w1 g2 H hg1;clear hg1;have c1:(w1).cell? ⟨g2,0,none⟩=some (.string (str x.name)):=H.cell (i:=0) rfl rfl;have c2:(w1).cell? ⟨gb,0,none⟩=some (.string (str b)):=H.cell (i:=i+1) (by simpa using hb) rfl))
 replace H:=Hp.tail H;go_ret;exact ⟨by rw [←hs];rfl,H⟩
set_option maxHeartbeats 4000000 in
theorem q5g (l:List NamedD) (b:Txt) (gb i n c:Nat) (A:Option Addr) (w0 w K:World) (M:List Ent) (H:Hp w0 w K M) (hb:M[i]?=some (.box gb [.string (str b)] 9)) (hn:l.length=n) (hd:RD K (.list n (y0v l)) (.slice A n c)) (hm:n≤20000000):
  Calls Tryz.prog 127 #[.slice A n c,.func (.func 82) #[] #[.pointer (some ⟨gb,0,none⟩)]] w fun e w'=>e= .returned (.int .i64 (idxI (l.findIdx? fun d=>decide (d.name=b))))∧Hp w0 w' K M:=by
 have HN:=hide hn;clear hn;go_enter Tryz.func127,Tryz.ntmps127
 go_wp2_with fail
 go_loopw [8] (fun i wr=>∃k:Nat,k≤n∧i= .int .i64 k∧Hp w0 wr K M∧ ∀y∈l.take k,decide (y.name=b)=false) (fun i _=>n - (intOf i).toNat)
 case atStart=>exact ⟨0,Qak _,rfl,H,by simp⟩
 case round=>
  clear H;obtain ⟨k,hk,rfl,H,hno⟩:=hrel;by_cases hlt:k<n
  ·have hkI:(k:Int)<(n:Int):=by omega
   obtain ⟨x,hx⟩: ∃x,l[k]?=some x:=⟨_,Qad (by rw [HN.out];exact hlt)⟩;have HX:=hide hx;obtain ⟨ad,xs,hA,hxd,_,hatK⟩:=y4s (m:=3) (f:=y87) (fun _=>rfl) hd hx (by omega);subst hA;clear hx;have hsz:=z6b;obtain rfl:=y78 hxd;clear hxd;have hno:=hide hno
   cases hq:decide (x.name=b) with
   |true=>
    go_wp2_with (first
     |((with_reducible show wpList _ _ _ (_::_) _ _);refine y0c (by rfl) 113 (.tmp 14) (by rfl) (ad.add (k*3)) (by simp [Act.eval,Act.put]) _ _ (At.sat hatK H.sat) Tryz.underlying113 rfl hsz ?_)
     |(go_at_call 82;refine (q7b x b gb i _ _ _ _ H hb).mono ?_;clear H;rintro e w1 ⟨rfl,H⟩;rw [hq]))
    go_ret;exact ⟨by rw [z1o hno.out HX.out hq];rfl,H⟩
   |false=>
    go_wp2_with (first
     |((with_reducible show wpList _ _ _ (_::_) _ _);refine y0c (by rfl) 113 (.tmp 14) (by rfl) (ad.add (k*3)) (by simp [Act.eval,Act.put]) _ _ (At.sat hatK H.sat) Tryz.underlying113 rfl hsz ?_)
     |(go_at_call 82;refine (q7b x b gb i _ _ _ _ H hb).mono ?_;clear H;rintro e w1 ⟨rfl,H⟩;rw [hq]))
    go_roundw
    case rel=>exact ⟨k+1,by omega,by go_num,H,x4f hno.out HX.out hq⟩
    case measure=>simp [intOf];omega
  ·obtain rfl:n=k:=by omega
   have htk:l.take n=l:=by rw [←HN.out];exact List.take_length
   rw [htk] at hno;have hno:=hide hno
   go_wp2_with fail
   go_ret;exact ⟨by rw [z59 hno.out];rfl,H⟩
theorem q8s {α:Type} (p:α→Bool) (l:List α):decide (0≤idxI (l.findIdx? p))=l.any p:=by
 cases h:l.findIdx? p with
 |none=>
  rw [List.findIdx?_eq_none_iff] at h
  have:l.any p=false:=by rw [List.any_eq_false];intro x hx;rw [h x hx];exact Bool.false_ne_true
  rw [this];rfl
 |some i=>
  obtain ⟨hi,h1,_⟩:=Qbs.1 h;have:l.any p=true:=Qbh.2 ⟨l[i],List.getElem_mem hi,h1⟩;rw [this];simp [idxI]
theorem x4h (l:List NamedD) (b:Txt) (gb i n c:Nat) (A:Option Addr) (w0 w K:World) (M:List Ent) (H:Hp w0 w K M) (hb:M[i]?=some (.box gb [.string (str b)] 9)) (hn:l.length=n) (hd:RD K (.list n (y0v l)) (.slice A n c)) (hm:n≤20000000):
  Calls Tryz.prog 81 #[.slice A n c,.func (.func 82) #[] #[.pointer (some ⟨gb,0,none⟩)]] w fun e w'=>e= .returned (.bool (l.any fun d=>decide (d.name=b)))∧Hp w0 w' K M:=by
 have hi:=q8s (fun d:NamedD=>decide (d.name=b)) l;obtain ⟨q,hq⟩: ∃q,idxI (l.findIdx? fun d=>decide (d.name=b))=q:=⟨_,rfl⟩;rw [←hi,hq];clear hi;go_enter Tryz.func81,Tryz.ntmps81
 go_wp2_with (first
  |(go_at_call 127;refine (q5g l b gb i n c A _ _ _ M H hb hn hd hm).mono ?_;clear H;rintro e w1 ⟨rfl,H⟩;rw [hq]))
 go_ret;exact ⟨by first|rfl|simp,H⟩
theorem oset (x:Txt): ∀OB:List (Txt×Nat×List (Txt×Value)),(y00 (y16 OB) x=none∧y14 (omap OB) x=[])∨ ∃p∈OB,y00 (y16 OB) x=some (.map (some p.2.1))∧y14 (omap OB) x=p.2.2
 |[]=>.inl ⟨rfl,rfl⟩
 |p::r=>by
  by_cases h:p.1=x
  ·exact .inr ⟨p,Qaz ..,by simp [y00,y16,h],by simp [y14,omap,h]⟩
  ·have h1:y00 (y16 (p::r)) x=y00 (y16 r) x:=by simp [y00,y16,h]
   have h2:y14 (omap (p::r)) x=y14 (omap r) x:=by simp [y14,omap,h]
   rw [h1,h2];rcases oset x r with h|⟨q,hq,h⟩
   ·exact .inl h
   ·exact .inr ⟨q,Qa2 _ hq,h⟩
theorem z1r {P:Program} {t kt et:Nat} {w:World} {z:Value} (ht:P.underlying t=some (.map kt et)) (hk:P.underlying kt=some .string) (hz:(zeroValue et).run P w= .ok z w) (x:Txt) (ok:Bool):
  (Instr.lookup t (.map none) (.string (str x)) ok).run P w= .ok (if ok then .tuple #[z,.bool false] else z) w:=by
 have hf:(Instr.findKey kt (.string (str x)) []).run P w= .ok none w:=z0o (P:=P) (w:=w) (l:=[]) hk x;unfold Instr.lookup
 cases ok<;>simp [Sem.run_bind,run_underlying ht w,Result.andThen_ok,y8p hk,hf,hz,Sem.run_pure]
theorem x67 (OB:List (Txt×Nat×List (Txt×Value))) (go:Nat) (x y:Txt):
  ∃mv,∀w,Km w go (y0s ks (y16 OB))→(∀p∈OB,Km w p.2.1 (y0s ks p.2.2))→(Instr.lookup 89 (.map (some go)) (.string (str x)) false).run Tryz.prog w= .ok mv w∧(Instr.lookup 87 mv (.string (str y)) true).run Tryz.prog w= .ok (.tuple #[(y00 (y14 (omap OB) x) y).getD (.int .i64 0),.bool (y00 (y14 (omap OB) x) y).isSome]) w:=by
 have h1:=fun w ho=>y04 (P:=Tryz.prog) (w:=w) (t:=89) (kt:=9) (et:=87) (l:=y16 OB) (b:=go) Tryz.underlying89 (y1i Tryz.underlying9) (.map none) (z0r w) ho x false;rcases oset x OB with ⟨hf,hS⟩|⟨p,hp,hf,hS⟩
 ·rw [hf] at h1;refine ⟨.map none,fun w ho hs=>⟨h1 w ho,?_⟩⟩;rw [hS];exact z1r Tryz.underlying87 Tryz.underlying9 (y0p w) y true
 ·rw [hf] at h1;refine ⟨.map (some p.2.1),fun w ho hs=>⟨h1 w ho,?_⟩⟩;rw [hS];exact y04 (P:=Tryz.prog) (w:=w) (t:=87) (kt:=9) (et:=3) (l:=p.2.2) (b:=p.2.1) Tryz.underlying87 (y1i Tryz.underlying9) (.int .i64 0) (y0p w) (hs p hp) y true
def z1s (D:TysD) (a b:Txt):Bool:=
 if y0j D.types a=0∨y0j D.types b=0 then false
 else if a=b then true
 else if y0j D.types b=5 then (y00 (y14 D.objects b) a).isSome
 else if y0j D.types b≠4∨(y0j D.types a≠3∧y0j D.types a≠4) then false
 else (((y4c D.types a).map (·.ifaces)).getD []).any fun n=>decide (n.name=b)
theorem z9y {ts:List DefD} {x:Txt} (h:y0j ts x≠0): ∃i d,y1y ts x=some i∧ts[i]?=some d∧d.kind=y0j ts x:=by
 cases hi:y1y ts x with
 |none=>exact absurd (y5n hi) h
 |some i=>
  obtain ⟨d,hd,_⟩:=y2o hi;exact ⟨i,d,rfl,hd,(y9p hi hd).symm⟩
set_option maxHeartbeats 16000000 in
theorem x4i (v:Value) (a b:Txt) (D:TysD) (w0 w K:World) (M:List Ent) (H:Hp w0 w K M) (hv:Tp K v D) (hW:TyW D):
  Calls Tryz.prog 37 #[v,.string (str a),.string (str b)] w fun e w'=>∃K',e= .returned (.bool (z1s D a b))∧Sat K' K∧Hp w0 w' K' M:=by
 have hwd:z1s D a b=z1s D a b:=rfl
 conv at hwd=>rhs;unfold z1s
 obtain ⟨ka,hka⟩: ∃kk,y0j D.types a=kk:=⟨_,rfl⟩;obtain ⟨kb,hkb⟩: ∃kk,y0j D.types b=kk:=⟨_,rfl⟩;rw [hka,hkb] at hwd;have hst:=y6g a b;have HW:=hide hwd;clear hwd;go_enter Tryz.func37,Tryz.ntmps37;have hK:=Sat.refl K
 go_upto_region 1 with (first
  |(refine z16 (by rfl) 9 (.tmp 2) (by rfl) [.string (str b)] _ (by rfl) (by rfl) (some 5) (by rfl) H ?_;clear H;intro w1 g5 H hg2;clear hg2))
 go_upto_region 2 with (first
  |(go_at_call 64;refine (z9x _ D _ _ K _ H hv).mono ?_;clear H;rintro e w5 ⟨K5,g5_1,rfl,hle,H,hT5⟩;replace hK:=hle.trans hK))
 obtain ⟨ga,gd,gf,go,sch,VT,VD,OB,T⟩:=hT5;by_cases ha0:ka=0
 ·subst ha0;have HR:=hide (HW.out.trans (if_pos (.inl rfl)));have:=H.c 0 0
  go_wp2_with (first
   |(go_at_call 79;refine (y2f a _ g5_1 ga gd gf go sch VT VD D.schema D.types D.dirs _ _ _ _ H T.a hka).mono ?_;clear H;rintro e wa ⟨rfl,H⟩;have:=H.c 0 0))
  replace H:=H.sub (Qai _ (Qam _));go_ret;exact ⟨K5,by rw [HR.out];rfl,hK,H⟩
 ·have ha0':(ka==0)=false:=by simp [ha0]
  by_cases hb0:kb=0
  ·subst hb0;have HR:=hide (HW.out.trans (if_pos (.inr rfl)));have:=H.c 0 0;have tk5:True:=trivial
   go_wp2_with (first
    |(go_at_call 79;have tk_:=tk5;clear tk_ tk5;have tk6:True:=trivial;refine (y2f a _ g5_1 ga gd gf go sch VT VD D.schema D.types D.dirs _ _ _ _ H T.a hka).mono ?_;clear H;rintro e wa ⟨rfl,H⟩;have:=H.c 0 0)
    |(go_at_call 79;have tk_:=tk6;clear tk_ tk6;refine (y2f b _ g5_1 ga gd gf go sch VT VD D.schema D.types D.dirs _ _ _ _ H T.a hkb).mono ?_;clear H;rintro e wb ⟨rfl,H⟩;have:=H.c 0 0))
   replace H:=H.sub (Qai _ (Qam _));go_ret;exact ⟨K5,by rw [HR.out];rfl,hK,H⟩
  ·have hb0':(kb==0)=false:=by simp [hb0]
   have HW2:=hide (HW.out.trans (if_neg (fun h=>h.elim ha0 hb0)));clear HW;have:=H.c 0 0;have tk7:True:=trivial
   go_upto_region 4 with (first
    |(go_at_call 79;have tk_:=tk7;clear tk_ tk7;have tk8:True:=trivial;refine (y2f a _ g5_1 ga gd gf go sch VT VD D.schema D.types D.dirs _ _ _ _ H T.a hka).mono ?_;clear H;rintro e wa ⟨rfl,H⟩;have:=H.c 0 0)
    |(go_at_call 79;have tk_:=tk8;clear tk_ tk8;refine (y2f b _ g5_1 ga gd gf go sch VT VD D.schema D.types D.dirs _ _ _ _ H T.a hkb).mono ?_;clear H;rintro e wb ⟨rfl,H⟩;have:=H.c 0 0))
   by_cases hab:a=b
   ·have HR:=hide (HW2.out.trans (if_pos hab))
    have hab':((str a).toList==(str b).toList)=true:=by rw [hst];exact Qa5 hab
    clear hst;have:=H.c 0 0
    go_wp2_with fail
    replace H:=H.sub (Qai _ (Qam _));go_ret;exact ⟨K5,by rw [HR.out];rfl,hK,H⟩
   ·have HW3:=hide (HW2.out.trans (if_neg hab))
    have hab':((str a).toList==(str b).toList)=false:=by rw [hst];exact Qa4 hab
    clear hst HW2;have cb:(wb).cell? ⟨g5,0,none⟩=some (.string (str b)):=H.cell (i:=0) rfl rfl
    go_upto_region 6 with (fail)
    by_cases h5:kb=5
    ·subst h5;have HR:=hide (HW3.out.trans (if_pos rfl));obtain ⟨mv,hmv⟩:=x67 OB go b a;have:=H.c 0 0
     go_upto_region 7 with (first
      |(go_at_call 79;refine (y2f b _ g5_1 ga gd gf go sch VT VD D.schema D.types D.dirs _ _ _ _ H T.a hkb).mono ?_;clear H;rintro e wb ⟨rfl,H⟩;have:=H.c 0 0))
     have h22:=H.kcell T.a.box T.a.c22;have:=H.c 0 0;have hr1:=fun k=>(hmv ((wb).drewN k) (T.objects.sat (H.drew k).sat) (fun p hp=>(T.sets p hp).sat (H.drew k).sat)).1;have hr2:=fun k=>(hmv ((wb).drewN k) (T.objects.sat (H.drew k).sat) (fun p hp=>(T.sets p hp).sat (H.drew k).sat)).2
     go_quiet (fail)
     replace H:=H.drew nq;obtain ⟨w10,hq11⟩: ∃x,(wb).drewN nq=x:=⟨_,rfl⟩;rw [hq11] at H ⊢;clear hq11;replace H:Hp _ _ _ (_::M):=H
     go_wp2_with fail
     replace H:=H.sub (Qai _ (Qam _));go_ret;exact ⟨K5,by rw [HR.out,T.om];rfl,hK,H⟩
    ·have HW4:=hide (HW3.out.trans (if_neg h5));clear HW3
     have h5':(kb==5)=false:=by simp [h5]
     have cb1:(wb).cell? ⟨g5,0,none⟩=some (.string (str b)):=H.cell (i:=0) rfl rfl;have:=H.c 0 0
     go_upto_region 9 with (first
      |(go_at_call 79;refine (y2f b _ g5_1 ga gd gf go sch VT VD D.schema D.types D.dirs _ _ _ _ H T.a hkb).mono ?_;clear H;rintro e wb ⟨rfl,H⟩;have:=H.c 0 0))
     by_cases h4:kb=4
     ·subst h4;by_cases ha3:ka=3
      ·subst ha3;have HR:=hide (HW4.out.trans (if_neg (by simp)));have:=H.c 0 0;have tk13:True:=trivial
       go_upto_region 11 with (first
        |(go_at_call 79;have tk_:=tk13;clear tk_ tk13;have tk14:True:=trivial;refine (y2f b _ g5_1 ga gd gf go sch VT VD D.schema D.types D.dirs _ _ _ _ H T.a hkb).mono ?_;clear H;rintro e wb ⟨rfl,H⟩;have:=H.c 0 0)
        |(go_at_call 79;have tk_:=tk14;clear tk_ tk14;refine (y2f a _ g5_1 ga gd gf go sch VT VD D.schema D.types D.dirs _ _ _ _ H T.a hka).mono ?_;clear H;rintro e wa ⟨rfl,H⟩;have:=H.c 0 0))
       obtain ⟨i,d,hi,hd,hdk⟩:=z9y (ts:=D.types) (x:=a) (by rw [hka];omega);have hN:=hW.nT;have hdn:=y4b hd;have hif:=z4f d;have hlt:=y8u hi
       have hltI:(i:Int)<(D.types.length:Int):=by omega
       have hlk:=z1q hi hd;have hq:=y2x D.types a;rw [hi] at hq;replace hq:y00 (nmap (y0a D.types)) a=some (.int .i64 (i:Int)):=hq;have hTy:=T.a.types;obtain ⟨A,c,hVT,hc1,hc2⟩:=y4e hTy;have hcT:=T.a.c17;rw [hVT] at hTy;obtain ⟨ad,xs,hA,hxd,hxl,hatK⟩:=y4s (m:=17) (f:=defL) y1b hTy hd (by omega);subst hA;obtain ⟨B,O,hBO⟩:=y69 (m:=17) (f:=defL) y1b hTy (by omega) (by omega);subst hBO;obtain ⟨A6,c6,A7,c7,A8,c8,A9,c9,A10,c10,A11,c11,A12,c12,A14,c14,hcs,hfa,-,-,-,-,-,-,-⟩:=y0h hxd;subst hcs;subst hVT;rw [z0t] at hatK;have hcI:=hatK.2 5 _ rfl;refine held.begin_ (fun w'=>w'.cell? ⟨g5_1,17,none⟩=some (.slice (some ⟨B,O,none⟩) D.types.length c)∧w'.cell? ⟨g5_1,18,none⟩=some (.map (some ga))∧w'.cell? ⟨B,O+i*17+(5+1),none⟩=some (.slice A6 d.ifaces.length c6)∧(Instr.lookup 87 (.map (some ga)) (.string (str a)) false).run Tryz.prog w'= .ok (.int .i64 (i:Int)) w') [] (by kernel_rfl) ?_;replace H:=H.drew1;obtain ⟨w15,hq16⟩: ∃x,(wa).drew=x:=⟨_,rfl⟩;rw [hq16] at H ⊢;clear hq16;have hS17:w15.cell? ⟨g5_1,17,none⟩=some (.slice (some ⟨B,O,none⟩) D.types.length c)∧w15.cell? ⟨g5_1,18,none⟩=some (.map (some ga))∧w15.cell? ⟨B,O+i*17+(5+1),none⟩=some (.slice A6 d.ifaces.length c6)∧(Instr.lookup 87 (.map (some ga)) (.string (str a)) false).run Tryz.prog w15= .ok (.int .i64 (i:Int)) w15:=⟨H.kcell T.a.box T.a.c17,H.kcell T.a.box T.a.c18,H.sat.cell hcI,(y04 Tryz.underlying87 (y1i Tryz.underlying9) (.int .i64 0) (y0p _) (H.kmap T.a.at_) a false).trans (by rw [hq];rfl)⟩;refine tk 0 hS17 ?_;refine tk 1 hS17 ?_;refine tk 2 hS17 ?_;refine tk 3 hS17 ?_;refine tk 4 hS17 ?_;refine tk 5 hS17 ?_;refine tk 6 hS17 ?_;refine tk 7 hS17 ?_;refine tk 8 hS17 ?_;refine tk 9 hS17 ?_;refine tk 10 hS17 ?_;refine tk 11 hS17 ?_;refine tk 12 hS17 ?_;refine tk 13 hS17 ?_;refine held.step (i:=14) (by kernel_rfl) rfl (fun Kq hKq=>?_)
       go_simp
       refine (x4h d.ifaces b g5 0 d.ifaces.length c6 A6 _ _ _ _ H rfl rfl hfa (by omega)).mono ?_;clear H;rintro e wz ⟨rfl,H⟩;replace H:Hp _ _ _ (_::M):=H
       try go_simp
       have hS18:wz.cell? ⟨g5_1,17,none⟩=some (.slice (some ⟨B,O,none⟩) D.types.length c)∧wz.cell? ⟨g5_1,18,none⟩=some (.map (some ga))∧wz.cell? ⟨B,O+i*17+(5+1),none⟩=some (.slice A6 d.ifaces.length c6)∧(Instr.lookup 87 (.map (some ga)) (.string (str a)) false).run Tryz.prog wz= .ok (.int .i64 (i:Int)) wz:=⟨H.kcell T.a.box T.a.c17,H.kcell T.a.box T.a.c18,H.sat.cell hcI,(y04 Tryz.underlying87 (y1i Tryz.underlying9) (.int .i64 0) (y0p _) (H.kmap T.a.at_) a false).trans (by rw [hq];rfl)⟩;refine hKq.out _ _ (fun _=>hS18) (fun _=>?_);clear hKq Kq;refine tk 15 hS18 ?_;refine held.done (by kernel_rfl) ?_ _
       go_wp2_with fail
       replace H:=H.sub (Qai _ (Qam _));go_ret;exact ⟨by rw [HR.out,hlk];rfl,K5,hK,H⟩
      ·have ha3':(ka !=3)=true:=by simp [ha3]
       have ha3'':(ka==3)=false:=by simp [ha3]
       by_cases ha4:ka=4
       ·subst ha4;have HR:=hide (HW4.out.trans (if_neg (by simp)));have:=H.c 0 0;have tk19:True:=trivial
        go_upto_region 11 with (first
         |(go_at_call 79;have tk_:=tk19;clear tk_ tk19;have tk20:True:=trivial;refine (y2f b _ g5_1 ga gd gf go sch VT VD D.schema D.types D.dirs _ _ _ _ H T.a hkb).mono ?_;clear H;rintro e wb ⟨rfl,H⟩;have:=H.c 0 0)
         |(go_at_call 79;have tk_:=tk20;clear tk_ tk20;have tk21:True:=trivial;refine (y2f a _ g5_1 ga gd gf go sch VT VD D.schema D.types D.dirs _ _ _ _ H T.a hka).mono ?_;clear H;rintro e wa ⟨rfl,H⟩;have:=H.c 0 0)
         |(go_at_call 79;have tk_:=tk21;clear tk_ tk21;refine (y2f a _ g5_1 ga gd gf go sch VT VD D.schema D.types D.dirs _ _ _ _ H T.a hka).mono ?_;clear H;rintro e wa ⟨rfl,H⟩;have:=H.c 0 0))
        obtain ⟨i,d,hi,hd,hdk⟩:=z9y (ts:=D.types) (x:=a) (by rw [hka];omega);have hN:=hW.nT;have hdn:=y4b hd;have hif:=z4f d;have hlt:=y8u hi
        have hltI:(i:Int)<(D.types.length:Int):=by omega
        have hlk:=z1q hi hd;have hq:=y2x D.types a;rw [hi] at hq;replace hq:y00 (nmap (y0a D.types)) a=some (.int .i64 (i:Int)):=hq;have hTy:=T.a.types;obtain ⟨A,c,hVT,hc1,hc2⟩:=y4e hTy;have hcT:=T.a.c17;rw [hVT] at hTy;obtain ⟨ad,xs,hA,hxd,hxl,hatK⟩:=y4s (m:=17) (f:=defL) y1b hTy hd (by omega);subst hA;obtain ⟨B,O,hBO⟩:=y69 (m:=17) (f:=defL) y1b hTy (by omega) (by omega);subst hBO;obtain ⟨A6,c6,A7,c7,A8,c8,A9,c9,A10,c10,A11,c11,A12,c12,A14,c14,hcs,hfa,-,-,-,-,-,-,-⟩:=y0h hxd;subst hcs;subst hVT;rw [z0t] at hatK;have hcI:=hatK.2 5 _ rfl;refine held.begin_ (fun w'=>w'.cell? ⟨g5_1,17,none⟩=some (.slice (some ⟨B,O,none⟩) D.types.length c)∧w'.cell? ⟨g5_1,18,none⟩=some (.map (some ga))∧w'.cell? ⟨B,O+i*17+(5+1),none⟩=some (.slice A6 d.ifaces.length c6)∧(Instr.lookup 87 (.map (some ga)) (.string (str a)) false).run Tryz.prog w'= .ok (.int .i64 (i:Int)) w') [] (by kernel_rfl) ?_;replace H:=H.drew1;obtain ⟨w22,hq23⟩: ∃x,(wa).drew=x:=⟨_,rfl⟩;rw [hq23] at H ⊢;clear hq23;have hS24:w22.cell? ⟨g5_1,17,none⟩=some (.slice (some ⟨B,O,none⟩) D.types.length c)∧w22.cell? ⟨g5_1,18,none⟩=some (.map (some ga))∧w22.cell? ⟨B,O+i*17+(5+1),none⟩=some (.slice A6 d.ifaces.length c6)∧(Instr.lookup 87 (.map (some ga)) (.string (str a)) false).run Tryz.prog w22= .ok (.int .i64 (i:Int)) w22:=⟨H.kcell T.a.box T.a.c17,H.kcell T.a.box T.a.c18,H.sat.cell hcI,(y04 Tryz.underlying87 (y1i Tryz.underlying9) (.int .i64 0) (y0p _) (H.kmap T.a.at_) a false).trans (by rw [hq];rfl)⟩;refine tk 0 hS24 ?_;refine tk 1 hS24 ?_;refine tk 2 hS24 ?_;refine tk 3 hS24 ?_;refine tk 4 hS24 ?_;refine tk 5 hS24 ?_;refine tk 6 hS24 ?_;refine tk 7 hS24 ?_;refine tk 8 hS24 ?_;refine tk 9 hS24 ?_;refine tk 10 hS24 ?_;refine tk 11 hS24 ?_;refine tk 12 hS24 ?_;refine tk 13 hS24 ?_;refine held.step (i:=14) (by kernel_rfl) rfl (fun Kq hKq=>?_)
        go_simp
        refine (x4h d.ifaces b g5 0 d.ifaces.length c6 A6 _ _ _ _ H rfl rfl hfa (by omega)).mono ?_;clear H;rintro e wz ⟨rfl,H⟩;replace H:Hp _ _ _ (_::M):=H
        try go_simp
        have hS25:wz.cell? ⟨g5_1,17,none⟩=some (.slice (some ⟨B,O,none⟩) D.types.length c)∧wz.cell? ⟨g5_1,18,none⟩=some (.map (some ga))∧wz.cell? ⟨B,O+i*17+(5+1),none⟩=some (.slice A6 d.ifaces.length c6)∧(Instr.lookup 87 (.map (some ga)) (.string (str a)) false).run Tryz.prog wz= .ok (.int .i64 (i:Int)) wz:=⟨H.kcell T.a.box T.a.c17,H.kcell T.a.box T.a.c18,H.sat.cell hcI,(y04 Tryz.underlying87 (y1i Tryz.underlying9) (.int .i64 0) (y0p _) (H.kmap T.a.at_) a false).trans (by rw [hq];rfl)⟩;refine hKq.out _ _ (fun _=>hS25) (fun _=>?_);clear hKq Kq;refine tk 15 hS25 ?_;refine held.done (by kernel_rfl) ?_ _
        go_wp2_with fail
        replace H:=H.sub (Qai _ (Qam _));go_ret;exact ⟨by rw [HR.out,hlk];rfl,K5,hK,H⟩
       ·have ha4':(ka !=4)=true:=by simp [ha4]
        have ha4'':(ka==4)=false:=by simp [ha4]
        have HR:=hide (HW4.out.trans (if_pos (.inr ⟨ha3,ha4⟩)));have:=H.c 0 0;have tk26:True:=trivial
        go_wp2_with (first
         |(go_at_call 79;have tk_:=tk26;clear tk_ tk26;have tk27:True:=trivial;refine (y2f b _ g5_1 ga gd gf go sch VT VD D.schema D.types D.dirs _ _ _ _ H T.a hkb).mono ?_;clear H;rintro e wb ⟨rfl,H⟩;have:=H.c 0 0)
         |(go_at_call 79;have tk_:=tk27;clear tk_ tk27;have tk28:True:=trivial;refine (y2f a _ g5_1 ga gd gf go sch VT VD D.schema D.types D.dirs _ _ _ _ H T.a hka).mono ?_;clear H;rintro e wa ⟨rfl,H⟩;have:=H.c 0 0)
         |(go_at_call 79;have tk_:=tk28;clear tk_ tk28;refine (y2f a _ g5_1 ga gd gf go sch VT VD D.schema D.types D.dirs _ _ _ _ H T.a hka).mono ?_;clear H;rintro e wa ⟨rfl,H⟩;have:=H.c 0 0))
        replace H:=H.sub (Qai _ (Qam _));go_ret;exact ⟨K5,by rw [HR.out];rfl,hK,H⟩
     ·have h4':(kb !=4)=true:=by simp [h4]
      have h4'':(kb==4)=false:=by simp [h4]
      have HR:=hide (HW4.out.trans (if_pos (.inl h4)));have:=H.c 0 0
      go_wp2_with (first
       |(go_at_call 79;refine (y2f b _ g5_1 ga gd gf go sch VT VD D.schema D.types D.dirs _ _ _ _ H T.a hkb).mono ?_;clear H;rintro e wb ⟨rfl,H⟩;have:=H.c 0 0))
      replace H:=H.sub (Qai _ (Qam _));go_ret;exact ⟨K5,by rw [HR.out];rfl,hK,H⟩
end Go.Proofs.YtbpgkkoeehopjaaGreat.hp
namespace Go.Proofs.YtbpgkkoeehopjaaGreat.hp
open Go.RowKit words enc tree gram lex rd dec dat held
section
variable {P : Program} {w0 w K K' : World} {M : List Ent} {ops : Array Oper} {rest : List Oper} {o : Oper} {a : Act} {Q : Exit → Act → World → Prop} {i b r t kt et : Nat}
theorem Hp.objSet (H:Hp w0 w K M) {o:Obj} (hi:M[i]?=some (.obj b o)) (o':Obj):Hp w0 (ChangeMaps.setBlock w b o') K (M.set i (.obj b o')):=by
 have hb:w.heap[b]?=some o:=H.ok _ (Qaf hi);have hlt:=(Qan.1 hb).1;refine H.setAt hi ⟨rfl,rfl,rfl,by simp [ChangeMaps.setBlock],fun k hk hne=>?_⟩ ?_ (.inl rfl)
 ·have hkb:b≠k:=fun e=>hne (by subst e;rfl);simp [ChangeMaps.setBlock,hkb]
 ·simp [Ent.ok,ChangeMaps.setBlock,hlt]
theorem Hp.allocObj (H:Hp w0 w K M) (o:Obj):Hp w0 (w.alloc o) K (.obj w.heap.size o::M):=
 H.cons (y42 ((Below.refl _ _).alloc (Qab _) _) none) (heap_alloc_new w _) (fun g h=>by simp only [Ent.blk,Option.some.injEq] at h;omega)
abbrev iter (r:Nat) (b:Nat) (n:Nat) (seen:Array Nat):Ent:=.obj r (.mapIter (some b) n seen n)
abbrev q8t (r:Nat):Ent:=.obj r (.mapIter none 0 #[] 0)
theorem q5h (hgd:o.guard=none) (t:TypeId) (x:Operand) (ho:o.op= .range t x) (ht:P.underlying t=some (.map kt et)) (b:Nat) (l:List (Value×Value)) (hb:w.heap[b]?=some (mobj l)) (hx:a.eval x= .map (some b)) (dst:Option Tmp) (hdst:o.dst=dst) (H:Hp w0 w K M)
  (h: ∀w' r,Hp w0 w' K (iter r b l.length #[]::M)→wpList P ops Q rest (a.put dst (.pointer (some ⟨r,0,none⟩))) w'):wpList P ops Q (o::rest) a w:=by
 subst hdst;refine wpList_plain hgd fun _ hK=>?_;have hrun:=run_range_map (P:=P) w t kt et b _ _ ht hb;unfold Oper.wp execOp;simp only [ho,hx,Sem.run_bind,hrun,Result.andThen_ok,Sem.run_pure];exact hK _ _ (h _ _ (H.allocObj _))
theorem z9z (hgd:o.guard=none) (t:TypeId) (x:Operand) (ho:o.op= .range t x) (ht:P.underlying t=some (.map kt et)) (hx:a.eval x= .map none) (dst:Option Tmp) (hdst:o.dst=dst) (H:Hp w0 w K M)
  (h: ∀w' r,Hp w0 w' K (q8t r::M)→wpList P ops Q rest (a.put dst (.pointer (some ⟨r,0,none⟩))) w'):wpList P ops Q (o::rest) a w:=by
 subst hdst;refine wpList_plain hgd fun _ hK=>?_;have hrun:=run_range_nilMap (P:=P) w t kt et ht;unfold Oper.wp execOp;simp only [ho,hx,Sem.run_bind,hrun,Result.andThen_ok,Sem.run_pure];exact hK _ _ (h _ _ (H.allocObj _))
theorem x19 (hgd:o.guard=none) (x:Operand) (ho:o.op= .next x false) (hx:a.eval x= .pointer (some ⟨r,0,none⟩)) (H:Hp w0 w K M) (i:Nat) (hi:M[i]?=some (q8t r))
  (h:wpList P ops Q rest (a.put o.dst (.tuple #[.bool false])) w):wpList P ops Q (o::rest) a w:=by
 refine wpList_plain hgd fun _ hK=>?_;have hr:w.heap[r]?=some (.mapIter none 0 #[] 0):=H.ok _ (Qaf hi)
 have hrun:(Instr.next (.pointer (some ⟨r,0,none⟩)) false o.type).run P w= .ok (.tuple #[.bool false]) w:=by
  simp only [Instr.next,getObj,Sem.run_bind,Sem.run,hr,Result.andThen];rfl
 unfold Oper.wp execOp;simp only [ho,hx,Sem.run_bind,hrun,Result.andThen_ok,Sem.run_pure];exact hK _ _ h
theorem x68 (l:List (Value×Value)):(y20 l).map (·.born)=List.range l.length:=by
 unfold y20;rw [List.map_map];apply Qby;intro j;rcases Qbm j l.length with h|h
 ·simp [h,List.getElem?_range,Qad]
 ·simp [h]
theorem z90 {l:List (Value×Value)} {e:MapEntry} (h:e∈y20 l): ∃p,l[e.born]?=some p∧e.key=p.1∧e.val=p.2:=by
 unfold y20 at h;rw [Qbe] at h;obtain ⟨⟨p,k⟩,hp,rfl⟩:=h;rw [Qb0] at hp;exact ⟨p,hp,rfl,rfl⟩
theorem q8u (hgd:o.guard=none) (x:Operand) (ho:o.op= .next x false) (hx:a.eval x= .pointer (some ⟨r,0,none⟩)) (H:Hp w0 w K M) (i:Nat) (b:Nat) (l:List (Value×Value)) (seen:Array Nat) (hi:M[i]?=some (iter r b l.length seen)) (hb:w.heap[b]?=some (mobj l))
  (h1:(∀k,k<l.length→k∈seen)→wpList P ops Q rest (a.put o.dst (.tuple #[.bool false])) w)
  (h2: ∀k p w',l[k]?=some p→k∉seen→Hp w0 w' K (M.set i (iter r b l.length (seen.push k)))→wpList P ops Q rest (a.put o.dst (.tuple #[.bool true,p.1,p.2])) w'):wpList P ops Q (o::rest) a w:=by
 refine wpList_plain hgd fun _ hK=>?_;have hr:w.heap[r]?=some (.mapIter (some b) l.length seen l.length):=H.ok _ (Qaf hi)
 have hold: ∀x∈(y20 l).toArray.toList,x.born<l.length:=fun x hx=>by
  obtain ⟨p,hp,_⟩:=z90 (show x∈y20 l from hx);exact (Qac.1 hp).1
 rcases run_next_at (P:=P) w o.type r b l.length l.length seen (y20 l).toArray l.length hr hb hold (Qab _) with ⟨h0,hrun⟩|⟨e,he,w1,hw1,hrun⟩
 ·unfold Oper.wp execOp;simp only [ho,hx,Sem.run_bind,hrun,Result.andThen_ok,Sem.run_pure];refine hK _ _ (h1 fun k hk=>?_);refine Qbl fun hn=>?_;have hlen:(leftOf (y20 l).toArray seen)= #[]:=Array.eq_empty_of_size_eq_zero h0;unfold leftOf at hlen;rw [Array.filter_eq_empty_iff] at hlen;obtain ⟨p,hp⟩: ∃p,l[k]?=some p:=⟨_,Qad hk⟩
  have:=hlen {key:=p.1,val:=p.2,born:=k} (by
   simp only [List.mem_toArray,y20,Qbe]
   exact ⟨(p,k),Qb0.2 hp,rfl⟩)
  simp at this;exact hn this
 ·obtain ⟨hm,hc⟩:=mem_left he;obtain ⟨p,hp,hk,hv⟩:=z90 (show e∈y20 l from hm);unfold Oper.wp execOp;simp only [ho,hx,Sem.run_bind,hrun,Result.andThen_ok,Sem.run_pure,hk,hv];refine hK _ _ (h2 e.born p _ hp (fun hin=>?_) ?_)
  ·have:=Array.contains_iff_mem.2 hin;rw [this] at hc;cases hc
  ·rcases hw1 with rfl|rfl
   ·exact H.objSet hi _
   ·exact H.drew1.objSet hi _
theorem q5i (hgd:o.guard=none) (x:Operand) (ho:o.op= .entry x) (hx:a.eval x= .pointer (some ⟨r,0,none⟩)) (H:Hp w0 w K M) (i:Nat) (b:Nat) (l:List (Value×Value)) (seen:Array Nat) (k:Nat) (p:Value×Value) (hi:M[i]?=some (iter r b l.length (seen.push k))) (hb:w.heap[b]?=some (mobj l)) (hp:l[k]?=some p)
  (h:wpList P ops Q rest (a.put o.dst (.tuple #[p.1,p.2])) w):wpList P ops Q (o::rest) a w:=by
 refine wpList_plain hgd fun _ hK=>?_;have hr:w.heap[r]?=some (.mapIter (some b) l.length (seen.push k) l.length):=H.ok _ (Qaf hi)
 have hrun:=run_entry_at (P:=P) w r b l.length seen (y20 l).toArray l.length {key:=p.1,val:=p.2,born:=k} hr hb (by
  simp only [y20,Qbe]
  exact ⟨(p,k),Qb0.2 hp,rfl⟩) (by
  show ((y20 l).map (·.born)).Nodup
  rw [x68];exact List.nodup_range)
 unfold Oper.wp execOp;simp only [ho,hx,Sem.run_bind,hrun,Result.andThen_ok,Sem.run_pure];exact hK _ _ h
end
open ty
set_option maxRecDepth 100000
attribute [local go_sem ↓] Go.wp_at_zero Go.wp_at_succ
theorem z7m: ∀(n:Nat) (l:List Nat),l.Nodup→(∀x∈l,x<n)→l.length≤n
 |0,l,_,h=>by
  cases l with
  |nil=>exact Qab _
  |cons a r=>exact absurd (h a (Qaz ..)) (Nat.not_lt_zero _)
 |n+1,l,hn,h=>by
  have h1:(l.erase n).length≤n:=z7m n (l.erase n) (hn.erase n) (fun x hx=>by
   have hm:=(List.Nodup.mem_erase_iff hn).1 hx;have:=h x hm.2;have:=hm.1
   omega)
  have h2:l.length≤(l.erase n).length+1:=by
   rw [List.length_erase];split<;>omega
  omega
def q8v (w:World) (r:Nat):Nat:=match w.heap[r]? with|some (.mapIter _ _ s _)=>s.size|_=>0
theorem z91 {w0 w K:World} {M:List Ent} {r b n:Nat} {s:Array Nat} (H:Hp w0 w K (iter r b n s::M)):q8v w r=s.size:=by
 have h:w.heap[r]?=some (.mapIter (some b) n s n):=H.ok _ (Qaz ..);unfold q8v;rw [h]
def SeenOk (n:Nat) (s:Array Nat):Prop:=s.toList.Nodup∧ ∀k∈s.toList,k<n
theorem SeenOk.push {n:Nat} {s:Array Nat} {k:Nat} (h:SeenOk n s) (hk:k<n) (hn:k∉s):SeenOk n (s.push k):=by
 refine ⟨?_,?_⟩
 ·rw [Array.toList_push,Qbr];refine ⟨h.1,by simp,fun a ha b hb he=>?_⟩;obtain rfl:=Qax.1 hb;subst he;exact hn (by simpa using ha)
 ·intro x hx;rw [Array.toList_push] at hx;rcases Qbf.1 hx with hx|hx
  ·exact h.2 x hx
  ·obtain rfl:=Qax.1 hx;exact hk
theorem SeenOk.le {n:Nat} {s:Array Nat} (h:SeenOk n s):s.size≤n:=by
 have:=z7m n s.toList h.1 h.2;simpa using this
theorem z1t {P:Program} {w:World} {ops:Array Oper} {rest:List Oper} {o:Oper} {a:Act} {Q:Exit→Act→World→Prop} (hgd:o.guard=none) (m x:Operand) (t:TypeId) (c:Bool) (ho:o.op= .lookup t m x c) {mv xv r:Value} (hm:a.eval m=mv) (hx:a.eval x=xv) (hrun:(Instr.lookup t mv xv c).run P w= .ok r w)
  (h:wpList P ops Q rest (a.put o.dst r) w):wpList P ops Q (o::rest) a w:=by
 refine wpList_plain hgd fun _ hK=>?_;unfold Oper.wp execOp;simp only [ho,hm,hx,Sem.run_bind,hrun,Result.andThen_ok,Sem.run_pure];exact hK _ _ h
theorem q5j {κ:Type} {kv:κ→Value} {l:List (κ×Value)} {k:Nat} {p:Value×Value} (h:(y0s kv l)[k]?=some p): ∃q,l[k]?=some q∧p=(kv q.1,q.2):=by
 unfold y0s at h;rw [Qbz] at h
 cases hq:l[k]? with
 |none=>rw [hq] at h;cases h
 |some q=>rw [hq] at h;injection h with h;exact ⟨q,rfl,h.symm⟩
end Go.Proofs.YtbpgkkoeehopjaaGreat.hp
namespace Go.Proofs
open Go.Shelf
def Tryz.laysSlF6_f67_ren:Go.Shelf.Ren:=⟨fun|6=>67|15=>118|14=>117|28=>163|29=>164|20=>155|21=>156|22=>157|23=>158|24=>159|25=>160|26=>161|27=>162|46=>181|47=>182|48=>183|49=>184|50=>185|57=>199|n=>n,fun|22=>27|24=>9|25=>104|3=>3|39=>168|0=>0|53=>216|55=>218|4=>4|46=>210|45=>209|50=>93|5=>5|9=>9|66=>236|70=>240|76=>249|77=>250|n=>n,fun|n=>n⟩
theorem Tryz.laysSlF6_f67:Go.Proofs.SlLaysF.n6 Tryz.prog Tryz.laysSlF6_f67_ren:={
 mixed:=by kernel_rfl
 f6:=⟨Tryz.f67.name,by decide,Tryz.func67.trans (congrArg some (by kernel_rfl))⟩
 f14:=⟨Tryz.f117.name,by decide,Tryz.func117.trans (congrArg some (by kernel_rfl))⟩
 f15:=Tryz.func118.trans (congrArg some (by kernel_rfl))
 f20:=⟨Tryz.f155.name,by decide,Tryz.func155.trans (congrArg some (by kernel_rfl))⟩
 f21:=⟨Tryz.f156.name,by decide,Tryz.func156.trans (congrArg some (by kernel_rfl))⟩
 f22:=⟨Tryz.f157.name,by decide,Tryz.func157.trans (congrArg some (by kernel_rfl))⟩
 f23:=⟨Tryz.f158.name,by decide,Tryz.func158.trans (congrArg some (by kernel_rfl))⟩
 f24:=⟨Tryz.f159.name,by decide,Tryz.func159.trans (congrArg some (by kernel_rfl))⟩
 f25:=⟨Tryz.f160.name,by decide,Tryz.func160.trans (congrArg some (by kernel_rfl))⟩
 f26:=⟨Tryz.f161.name,by decide,Tryz.func161.trans (congrArg some (by kernel_rfl))⟩
 f27:=⟨Tryz.f162.name,by decide,Tryz.func162.trans (congrArg some (by kernel_rfl))⟩
 f28:=Tryz.func163.trans (congrArg some (by kernel_rfl))
 f29:=Tryz.func164.trans (congrArg some (by kernel_rfl))
 f46:=⟨Tryz.f181.name,by decide,Tryz.func181.trans (congrArg some (by kernel_rfl))⟩
 f47:=Tryz.func182.trans (congrArg some (by kernel_rfl))
 f48:=Tryz.func183.trans (congrArg some (by kernel_rfl))
 f49:=⟨Tryz.f184.name,by decide,Tryz.func184.trans (congrArg some (by kernel_rfl))⟩
 f50:=⟨Tryz.f185.name,by decide,Tryz.func185.trans (congrArg some (by kernel_rfl))⟩
 f57:=⟨Tryz.f199.name,by decide,Tryz.func199.trans (congrArg some (by kernel_rfl))⟩
 t0:=Tryz.underlying0
 a0:=Tryz.isAgg0
 z0:=Tryz.sizeOf0
 v0:=Tryz.zeroValue0
 t3:=Tryz.underlying3
 a3:=Tryz.isAgg3
 z3:=Tryz.sizeOf3
 v3:=Tryz.zeroValue3
 t4:=Tryz.underlying4
 a4:=Tryz.isAgg4
 z4:=Tryz.sizeOf4
 v4:=Tryz.zeroValue4
 t5:=Tryz.underlying5
 a5:=Tryz.isAgg5
 z5:=Tryz.sizeOf5
 v5:=Tryz.zeroValue5
 t9:=Tryz.underlying9
 a9:=Tryz.isAgg9
 z9:=Tryz.sizeOf9
 v9:=Tryz.zeroValue9
 t22:=Tryz.underlying27
 a22:=Tryz.isAgg27
 z22:=Tryz.sizeOf27
 v22:=Tryz.zeroValue27
 a24:=Tryz.isAgg9
 z24:=Tryz.sizeOf9
 t25:=Tryz.underlying104
 a25:=Tryz.isAgg104
 z25:=Tryz.sizeOf104
 v25:=Tryz.zeroValue104
 t39:=Tryz.underlying168
 a39:=Tryz.isAgg168
 z39:=Tryz.sizeOf168
 v39:=Tryz.zeroValue168
 t45:=Tryz.underlying209
 a45:=Tryz.isAgg209
 z45:=Tryz.sizeOf209
 v45:=Tryz.zeroValue209
 t46:=Tryz.underlying210
 a46:=Tryz.isAgg210
 z46:=Tryz.sizeOf210
 v46:=Tryz.zeroValue210
 t50:=Tryz.underlying93
 a50:=Tryz.isAgg93
 z50:=Tryz.sizeOf93
 v50:=Tryz.zeroValue93
 t53:=Tryz.underlying216
 a53:=Tryz.isAgg216
 z53:=Tryz.sizeOf216
 v53:=Tryz.zeroValue216
 t55:=Tryz.underlying218
 a55:=Tryz.isAgg218
 z55:=Tryz.sizeOf218
 v55:=Tryz.zeroValue218
 t66:=Tryz.underlying236
 a66:=Tryz.isAgg236
 z66:=Tryz.sizeOf236
 v66:=Tryz.zeroValue236
 t70:=Tryz.underlying240
 a70:=Tryz.isAgg240
 z70:=Tryz.sizeOf240
 v70:=Tryz.zeroValue240
 t76:=Tryz.underlying249
 a76:=Tryz.isAgg249
 z76:=Tryz.sizeOf249
 v76:=Tryz.zeroValue249
 t77:=Tryz.underlying250
 a77:=Tryz.isAgg250
 z77:=Tryz.sizeOf250
 v77:=Tryz.zeroValue250}
open Go.RowKit Go.Lib Go.Sort in
theorem Tryz.slices_SortFunc {α:Type} [Inhabited α] (enc:α→Value) (h1:OneCell enc) (cf:α→α→Int) (hO:SWO (ltOf cf)) (g:Nat) (cb:Array Value) (blk off cap:Nat) (d:Array α) (w:World) (eg: ∀args w,(callFunc g args).run Tryz.prog w= .ok (.enter g args) w) (hcmp:CmpLays1 Tryz.prog g cb enc cf blk off d.size w) (hH:Holds enc w blk off d) (hblk:blk<w.heap.size) (hsz:d.size<4611686018427387904):
  Calls Tryz.prog 67 #[.slice (some ⟨blk,off,none⟩) d.size cap,.func (.func g) #[] cb] w fun e w'=>
   e= .returned (.tuple #[])∧ ∃d' n os,PermIn 0 d.size d d'∧SortedIn (ltOf cf) 0 d.size d'∧w'=sortWorld enc w blk off n d' os:=Any.slices_SortFunc Tryz.laysSlF6_f67 enc h1 cf hO g cb blk off cap d w eg hcmp hH hblk hsz
end Go.Proofs
namespace Go.Proofs.YtbpgkkoeehopjaaGreat.hp
open Go.RowKit words enc tree gram lex rd dec dat held ty
section
variable {w0 w K : World} {M : List Ent} {enc : Txt → Value}
theorem x4j (w:World) (os:Array Obj) {k:Nat} (h:k<w.heap.size):(Go.Sort.grow w os).heap[k]?=w.heap[k]?:=by
 show (w.heap++os)[k]?=_
 rw [Array.getElem?_append_left h]
theorem x4k (w:World) (blk off n:Nat) (d:Array Txt) (os:Array Obj) {k:Nat} (h:k<w.heap.size) (hb:k≠blk):(sortWorld enc w blk off n d os).heap[k]?=w.heap[k]?:=by
 unfold sortWorld;rw [x4j _ _ (by simpa using h)]
 show ((w.heap).modify blk _)[k]?=_
 rw [Array.getElem?_modify,if_neg (Ne.symm hb)]
theorem z92 (w:World) (blk off n:Nat) (d:Array Txt) (os:Array Obj):w.heap.size≤(sortWorld enc w blk off n d os).heap.size:=by
 unfold sortWorld
 show _≤((Go.Sort.putRow enc (Go.Sort.ahead w n) blk off d).heap++os).size
 rw [Array.size_append];have:=Go.Sort.size_putRow enc (Go.Sort.ahead w n) blk off d;have h2:(Go.Sort.ahead w n).heap.size=w.heap.size:=rfl;omega
theorem x69 (w:World) (blk off n:Nat) (d:Array Txt) (os:Array Obj):w.grownBy (sortWorld enc w blk off n d os) (some blk):=
 ⟨rfl,rfl,rfl,z92 w blk off n d os,fun k hk hne=>x4k w blk off n d os hk (fun e=>hne (by rw [e]))⟩
theorem q5k (d:Array Txt) (cur:Array Value) (h:d.size≤cur.size):(Go.Sort.putCells enc 0 d cur).toList.take d.size=d.toList.map enc:=by
 apply Qby;intro j;rw [Qbb,Qbz,Array.getElem?_toList,Array.getElem?_toList];unfold Go.Sort.putCells;split
 ·rename_i hj;have hj:j<d.size:=hj
  have hj2:j<cur.size:=by omega
  rw [Array.getElem?_mapIdx,Qbq hj2,Qbq hj];simp only [Option.map_some,Qak,Nat.zero_add,hj,and_self,if_true,Nat.sub_zero];rw [getElem!_pos d j hj]
 ·rename_i hj;have hj: ¬j<d.size:=hj;rw [Array.getElem?_eq_none (by omega)];rfl
theorem Hp.sorted {m c blk:Nat} {vs:List Value} (H:Hp w0 w K (.row 9 1 (.slice (some ⟨blk,0,none⟩) m c) m vs::M)) (n:Nat) (d:Array Txt) (os:Array Obj) (hd:d.size=m):
  Hp w0 (sortWorld enc w blk 0 n d os) K (.row 9 1 (.slice (some ⟨blk,0,none⟩) m c) m (d.toList.map enc)::M):=by
 have ho:w.ownsRow 0 9 1 (.slice (some ⟨blk,0,none⟩) m c) m vs:=H.ok _ (Qaz ..);refine H.setAt (i:=0) rfl (x69 w blk 0 n d os) ?_ (.inl rfl);rcases ho.2 with ⟨h,_⟩|⟨g',c',cur,he,hb0,hb,h1,h2,h3,h4⟩
 ·cases h
 ·injection he with e1 _ e3;injection e1 with e1;injection e1 with e1;subst e1 e3;have hlt:=(Qan.1 hb).1;refine ⟨by rw [Qay,Array.length_toList,hd,Nat.mul_one],.inr ⟨blk,c,Go.Sort.putCells enc 0 d cur,rfl,hb0,?_,h1,h2,?_,?_⟩⟩
  ·unfold sortWorld;rw [x4j _ _ (by simpa using hlt)]
   show ((w.heap).modify blk _)[blk]?=_
   rw [Array.getElem?_modify,if_pos rfl,hb];rfl
  ·unfold Go.Sort.putCells;simpa using h3
  ·rw [Nat.mul_one,←hd];exact q5k d cur (by rw [h3];omega)
theorem q8w (f:Txt→Int):Go.Sort.SWO (ltOf fun x y=>f x - f y):=by
 refine ⟨fun x=>?_,fun x y z h1 h2=>?_,fun x y z h1 h2=>?_⟩
 ·simp [ltOf]
 ·simp only [ltOf,decide_eq_true_eq] at*;omega
 ·simp only [ltOf,decide_eq_false_iff_not] at*;omega
theorem q8x {m c blk g:Nat} {cb:Array Value} {l:List Txt} (f:Txt→Int) (H:Hp w0 w K (.row 9 1 (.slice (some ⟨blk,0,none⟩) m c) m (l.map ks)::M)) (hl:l.length=m) (hm:m≤20000000)
  (eg: ∀args w,(callFunc g args).run Tryz.prog w= .ok (.enter g args) w)
  (hcmp: ∀W,W.heap.size≥w.heap.size→(∀k,k<w.heap.size→k≠blk→W.heap[k]?=w.heap[k]?)→ ∀x y:Txt,Calls Tryz.prog g (#[ks x,ks y]++cb) W fun e w'=>e= .returned (.int .i64 (f x - f y))∧w'=W):
  Calls Tryz.prog 67 #[.slice (some ⟨blk,0,none⟩) m c,.func (.func g) #[] cb] w fun e w'=>e= .returned (.tuple #[])∧ ∃l':List Txt,l'.Perm l∧l'.Pairwise (fun a b=>f a≤f b)∧Hp w0 w' K (.row 9 1 (.slice (some ⟨blk,0,none⟩) m c) m (l'.map ks)::M):=by
 have hds:l.toArray.size=m:=by simpa using hl
 have hblk:blk<w.heap.size:=H.lt (i:=0) rfl rfl
 have hH:Go.Sort.Holds ks w blk 0 l.toArray:=by
  intro j hj;rw [hds] at hj
  have hjl:j<l.length:=by omega
  rw [Nat.zero_add];refine ⟨H.rowCell (i:=0) rfl ?_,H.rowFrozen (i:=0) rfl j⟩;rw [Qbz,Qad hjl,getElem!_pos l.toArray j (by simpa using hjl)];rfl
 have hc:CmpLays1 Tryz.prog g cb ks (fun x y=>f x - f y) blk 0 l.toArray.size w:=by
  intro n os dk hdk x y;refine (hcmp (sortWorld ks w blk 0 n dk os) (z92 ..) (fun k hk hb=>x4k w blk 0 n dk os hk hb) x y).mono ?_;rintro e w' ⟨he,rfl⟩;exact ⟨he,0, #[],by simp [Go.Sort.grow_empty,World.drewN]⟩
 have h:=Tryz.slices_SortFunc ks (fun _=>rfl) (fun x y=>f x - f y) (q8w f) g cb blk 0 c l.toArray w eg hc hH hblk (by rw [hds];omega);rw [hds] at h;refine h.mono ?_;rintro e w' ⟨he,d',n,os,hp,hs,rfl⟩;have hd':d'.size=m:=hp.1.trans hds
 have hperm:d'.toList.Perm l:=by
  have:=hp.2.2
  have e1:(d'.extract 0 m).toList=d'.toList:=by rw [←hd',Array.extract_size]
  have e2:(l.toArray.extract 0 m).toList=l:=by rw [←hds,Array.extract_size]
  rw [e1,e2] at this;exact this
 refine ⟨he,d'.toList,hperm,?_,H.sorted n d' os hd'⟩;rw [List.pairwise_iff_getElem];intro i j hi hj hij
 have hi':i<d'.size:=by simpa using hi
 have hj':j<d'.size:=by simpa using hj
 have:=hs i j (Qak _) hij (by omega);simp only [ltOf,decide_eq_false_iff_not] at this;rw [getElem!_pos d' j hj',getElem!_pos d' i hi'] at this;simp only [Array.getElem_toList];omega
theorem z93 (v:Value) (c:Nat) (p:Option Addr) (w:World):Calls Tryz.prog 67 #[.slice p 0 c,v] w fun e w'=>e= .returned (.tuple #[])∧w'=w:=
 AnyF.slices_SortFunc_none {Tryz.laysSlF6_f67 with} p c v w
end
set_option maxRecDepth 100000
attribute [local go_sem ↓] Go.wp_at_zero Go.wp_at_succ
theorem z7n {K:World}: ∀l:List Txt,RL K (y03 l) (l.map ks)
 |[]=>RL.z
 |x::r=>.lit (z7n r)
def y82 (S:List (Txt×Value)) (k:Nat):Txt:=((S[k]?).map (·.1)).getD []
theorem x7a (S:List (Txt×Value)):(List.range S.length).map (y82 S)=S.map (·.1):=by
 apply Qby;intro j;rw [Qbz,Qbz];rcases Qbm j S.length with h|h
 ·rw [List.getElem?_range h,Qad h];simp [y82,Qad h]
 ·rw [Qbg (by simpa using h),Qbg h];rfl
theorem q09 {n:Nat} {s:Array Nat} (h:SeenOk n s) (hall: ∀k,k<n→k∈s):s.toList.Perm (List.range n):=
 (List.perm_ext_iff_of_nodup h.1 List.nodup_range).2 fun k=>by
   rw [List.mem_range];exact ⟨fun hk=>h.2 k hk,fun hk=>by simpa using hall k hk⟩
def numV (q:Txt×Value):Nat:=match q.2 with| .int _ n=>n.toNat|_=>0
theorem q8y {f:Nat→Option Txt} {s:List (Txt×Value)} {B:Nat} (h:SOk f s) (hB: ∀n x,f n=some x→n<B):s.length≤B:=by
 have hk:List.Pairwise (fun q q':Txt×Value=>q.1≠q'.1) s:=by
  have:=h.1;unfold List.Nodup at this;rw [List.pairwise_map] at this;exact this
 have hn:(s.map numV).Nodup:=by
  unfold List.Nodup;rw [List.pairwise_map];refine List.Pairwise.imp_of_mem (fun {q q'} hq hq' hne he=>?_) hk;obtain ⟨n,h1,h2⟩:=h.2 q hq;obtain ⟨n',h1',h2'⟩:=h.2 q' hq';simp only [numV,h1,h1',Int.toNat_natCast] at he;subst he;rw [h2] at h2';injection h2' with h2';exact hne h2'
 have:=z7m B (s.map numV) hn (fun x hx=>by
  obtain ⟨q,hq,rfl⟩:=Qbe.1 hx;obtain ⟨n,h1,h2⟩:=h.2 q hq;simp only [numV,h1,Int.toNat_natCast]
  exact hB n _ h2)
 simpa using this
theorem x7b {n:Nat} (h:n=0) (v:Value) (c:Nat) (p:Option Addr) (w:World):Calls Tryz.prog 67 #[.slice p n c,v] w fun e w'=>e= .returned (.tuple #[])∧w'=w:=by
 subst h;exact z93 v c p w
theorem q8z (f:Txt→Int) (mv:Value) (gb:Nat) (W:World) (hc:W.cell? ⟨gb,0,none⟩=some mv) (hl: ∀x,(Instr.lookup 87 mv (.string (str x)) false).run Tryz.prog W= .ok (.int .i64 (f x)) W) (hf: ∀x,0≤f x∧f x≤20000000) (x y:Txt):
  Calls Tryz.prog 68 #[ks x,ks y,.pointer (some ⟨gb,0,none⟩)] W fun e w'=>e= .returned (.int .i64 (f x - f y))∧w'=W:=by
 have hx:=hl x;have hy:=hl y;have bx:=hf x;have hby:=hf y
 have hw:IntKind.i64.wrap (f x - f y)=f x - f y:=by simp [IntKind.wrap,IntKind.bits,IntKind.signed];omega
 go_enter Tryz.func68,Tryz.ntmps68
 go_wp2_with (first
  |((with_reducible show wpList _ _ _ (_::_) _ _);refine z1t (by rfl) (.tmp 6) (.tmp 7) 87 false (by rfl) (by first|rfl|simp [Act.eval,Act.put]) (by first|rfl|simp [Act.eval,Act.put]) hx ?_)
  |((with_reducible show wpList _ _ _ (_::_) _ _);refine z1t (by rfl) (.tmp 9) (.tmp 10) 87 false (by rfl) (by first|rfl|simp [Act.eval,Act.put]) (by first|rfl|simp [Act.eval,Act.put]) hy ?_))
 go_ret;exact ⟨by first|rfl|(rw [hw];rfl)|simp [hw],rfl⟩
def PosP (D:TysD) (x:Txt) (w0 K:World) (M:List Ent) (e:Ending) (w':World):Prop:=
 ∃K' l v,e= .returned v∧Sat K' K∧Hp w0 w' K' M∧RD K' (.list l.length (y03 l)) v∧l.Perm ((y14 D.objects x).map (·.1))∧l.Pairwise (fun a b=>y9q (y14 D.objects x) a≤y9q (y14 D.objects x) b)
set_option maxHeartbeats 16000000 in
theorem z6c (v:Value) (x:Txt) (D:TysD) (w0 w K:World) (M:List Ent) (H:Hp w0 w K M) (hv:Tp K v D) (hW:TyW D):
  Calls Tryz.prog 27 #[v,.string (str x)] w (PosP D x w0 K M):=by
 have hK:=Sat.refl K;obtain ⟨k0,hk0,k0z,k0s,k0b⟩:=info_parts z3v;have hSO:=x4a hW.o x
 have hfb: ∀y,0≤y9q (y14 D.objects x) y∧y9q (y14 D.objects x) y≤20000000:=by
  intro y;have hN:=hW.nT;unfold y9q;rcases x4b hSO y with ⟨h,_⟩|⟨n,h,hn,_⟩
  ·rw [h];exact ⟨by simp,by simp⟩
  ·rw [h];have:=q0t hn;exact ⟨by simp,by simp only;omega⟩
 have hnv:=q0r hSO;have hSL:(y14 D.objects x).length≤3002000:=q8y hSO (fun n y hy=>Qap (q0t hy) hW.nT);obtain ⟨S,hS0⟩: ∃S,y14 D.objects x=S:=⟨_,rfl⟩;have HS:=hide hS0;rw [hS0] at hfb hnv hSL;clear hSO;go_enter Tryz.func27,Tryz.ntmps27
 go_upto_region 1 with (fail)
 have h1:=fun OB go w ho=>y04 (P:=Tryz.prog) (w:=w) (t:=89) (kt:=9) (et:=87) (l:=y16 OB) (b:=go) Tryz.underlying89 (y1i Tryz.underlying9) (.map none) (z0r w) ho x false
 have hmv: ∀(K5:World) (ga gd gf go:Nat) (sch:List Value) (VT VD:Value) (OB:List (Txt×Nat×List (Txt×Value))) (g9:Nat),Tys K5 g9 D ga gd gf go sch VT VD OB→ ∃mv,(∀w,Km w go (y0s ks (y16 OB))→(Instr.lookup 89 (.map (some go)) (.string (str x)) false).run Tryz.prog w= .ok mv w)∧((mv= .map none∧S=[])∨ ∃b,mv= .map (some b)∧Km K5 b (y0s ks S)):=by
  intro K5 ga gd gf go sch VT VD OB g9 T;rcases oset x OB with ⟨hf,hS⟩|⟨p,hp,hf,hS⟩
  ·exact ⟨.map none,fun w ho=>by rw [h1 OB go w ho,hf];rfl,.inl ⟨rfl,by rw [←HS.out,T.om,hS]⟩⟩
  ·exact ⟨.map (some p.2.1),fun w ho=>by rw [h1 OB go w ho,hf];rfl,.inr ⟨_,rfl,by rw [←HS.out,T.om,hS];exact T.sets p hp⟩⟩
 clear h1
 go_upto_region 3 with (first
  |(go_at_call 64;refine (z9x _ D _ _ K _ H hv).mono ?_;clear H;rintro e w5 ⟨K5,g9,rfl,hle,H,hT5⟩;replace hK:=hle.trans hK;obtain ⟨ga,gd,gf,go,sch,VT,VD,OB,T⟩:=hT5;have h22:=H.kcell T.a.box T.a.c22)
  |((with_reducible show wpList _ _ _ (_::_) _ _);obtain ⟨mv,hlk,hmk⟩:=hmv _ _ _ _ _ _ _ _ _ _ T;refine z1t (by rfl) (.tmp 12) (.tmp 13) 89 false (by rfl) (by first|rfl|simp [Act.eval,Act.put]) (by first|rfl|simp [Act.eval,Act.put]) (hlk _ (H.kmap T.objects)) ?_)
  |((with_reducible show wpList _ _ _ (_::_) _ _);refine x3w (by rfl) 87 (by rfl) [.map none] (by kernel_rfl) (some 5) (by rfl) H ?_;clear H;intro w6 g5 H hg5;clear hg5)
  |((with_reducible show wpList _ _ _ (_::_) _ _);refine z69 (by rfl) 87 (.tmp 5) (.tmp 14) (by rfl) g5 0 (by first|rfl|simp [Act.eval,Act.put]) mv (by first|rfl|simp [Act.eval,Act.put]) [mv] (by rcases hmk with ⟨rfl,_⟩|⟨b,rfl,_⟩<;>rfl) (by rcases hmk with ⟨rfl,_⟩|⟨b,rfl,_⟩<;>simp [Value.oneCell']) (by kernel_rfl) H 0 [.map none] [mv] 87 (by rfl) (Qbn (by rfl)) (by rfl) ?_;clear H;intro w7 H;replace H:Hp w0 w7 K5 (.box g5 [mv] 87::M):=H;have hc5:(w7).cell? ⟨g5,0,none⟩=some mv:=H.cell (i:=0) rfl rfl))
 rcases hmk with ⟨rfl,hSn⟩|⟨b,rfl,hSk⟩
 ·go_wp2_with (first
   |((with_reducible show wpList _ _ _ (_::_) _ _);refine z9z (by rfl) 87 (.tmp 15) (by rfl) Tryz.underlying87 (by first|rfl|simp [Act.eval,Act.put]) (some 16) (by rfl) H ?_;clear H;intro w8 r H))
  try simp only [Act.put,List.getElem_toArray,List.getElem_cons_zero,List.getElem_cons_succ,List.setIfInBounds_toArray,List.set_cons_zero,List.set_cons_succ]
  go_loopw [6,17] (fun o _ wr=>o= .slice none 0 0∧Hp w0 wr K5 (q8t r:: .box g5 [.map none] 87::M)) (fun _ _ _=>0)
  case atStart=>exact ⟨rfl,H⟩
  case round=>
   clear H;obtain ⟨rfl,H⟩:=hrel
   go_upto_region 7 with (first
    |((with_reducible show wpList _ _ _ (_::_) _ _);refine x19 (by rfl) (.tmp 16) (by rfl) (by first|rfl|simp [Act.eval,Act.put]) H 0 (by rfl) ?_))
   have hsn:=z93 (.func (.func 68) #[] #[.pointer (some ⟨g5,0,none⟩)]) 0 none wr
   go_wp2_with (first
    |(go_at_call 67;refine hsn.mono ?_;clear hsn;rintro e w9 ⟨rfl,rfl⟩))
   replace H:=Hp.tail (Hp.tail H);go_ret;exact ⟨K5,[],_,rfl,hK,H,RD.z,by rw [HS.out,hSn];exact List.Perm.nil,List.Pairwise.nil⟩
 ·obtain ⟨n,hn⟩: ∃n,(y0s ks S).length=n:=⟨_,rfl⟩
  have hSl:S.length=n:=by rw [←hn];unfold y0s;rw [Qay]
  go_wp2_with (first
   |((with_reducible show wpList _ _ _ (_::_) _ _);refine q5h (by rfl) 87 (.tmp 15) (by rfl) Tryz.underlying87 b (y0s ks S) (H.kmap hSk) (by first|rfl|simp [Act.eval,Act.put]) (some 16) (by rfl) H ?_;clear H;intro w8 r H))
  try simp only [Act.put,List.getElem_toArray,List.getElem_cons_zero,List.getElem_cons_succ,List.setIfInBounds_toArray,List.set_cons_zero,List.set_cons_succ]
  rw [hn] at H;have heg: ∀args w,(callFunc 68 args).run Tryz.prog w= .ok (.enter 68 args) w:=enters_of Tryz.func68 (by kernel_rfl) rfl
  go_loopw [6,17] (fun o _ wr=>∃s:Array Nat,SeenOk n s∧Hp w0 wr K5 (.row 9 1 o s.size ((s.toList.map (y82 S)).map ks)::iter r b n s:: .box g5 [.map (some b)] 87::M)) (fun _ _ wr=>n - q8v wr r)
  case atStart=>exact ⟨#[],⟨List.nodup_nil,fun _ h=>by cases h⟩,H.nilRow 9 1⟩
  case round=>
   clear H
   obtain ⟨s,hs,H,hrow⟩: ∃(s:Array Nat) (hs:SeenOk n s) (H:Hp w0 wr K5 (.row 9 1 _ s.size ((s.toList.map (y82 S)).map ks)::iter r b n s:: .box g5 [.map (some b)] 87::M)),True:=by
    obtain ⟨s,hs,H⟩:=hrel;exact ⟨s,hs,H,trivial⟩
   obtain ⟨Av,cv,hov,hcv1,hcv2⟩:=H.slice (i:=0) rfl;subst hov;have hsn:=z91 H.tail;have hsle:=hs.le
   have H0:Hp w0 wr K5 (.row 9 1 (.slice Av s.size cv) s.size ((s.toList.map (y82 S)).map ks)::iter r b (y0s ks S).length s:: .box g5 [.map (some b)] 87::M):=by rw [hn];exact H
   go_wp2_with (first
    |((with_reducible show wpList _ _ _ (_::_) _ _);refine q8u (by rfl) (.tmp 16) (by rfl) (by first|rfl|simp [Act.eval,Act.put]) H0 1 b (y0s ks S) s (by rfl) (H.kmap hSk) ?_ ?_))
   ·intro hall
    have hperm:(s.toList.map (y82 S)).Perm (S.map (·.1)):=by
     rw [←x7a,hSl];exact (q09 hs (fun k hk=>by simpa using hall k hk)).map (y82 S)
    have hLl:(s.toList.map (y82 S)).length=s.size:=by simp
    by_cases h0:s.size=0
    ·have hsn:=x7b h0 (.func (.func 68) #[] #[.pointer (some ⟨g5,0,none⟩)]) cv Av wr;have he:s.toList.map (y82 S)=[]:=Qa0 (by rw [hLl,h0]);have he:=hide he;clear h0 hall
     go_wp2_with (first
      |(go_at_call 67;refine hsn.mono ?_;clear hsn;rintro e w9 ⟨rfl,rfl⟩))
     obtain ⟨K6,hle6,H,hr⟩:=Hp.freezeRow H (z7n (s.toList.map (y82 S)));replace H:=Hp.tail (Hp.tail H);go_ret;exact ⟨K6,s.toList.map (y82 S),_,rfl,hle6.trans hK,H,by rw [hLl];exact hr,by rw [HS.out];exact hperm,by rw [he.out];exact List.Pairwise.nil⟩
    ·obtain ⟨blk,cb,hbv,-,-,-⟩:=H.rowAt (i:=0) rfl (by omega);injection hbv with e1 _ e3;subst e1 e3;have hg5:g5≠blk:=fun e=>(List.pairwise_cons.1 H.nd).1 _ (Qa2 _ (Qaz ..)) blk rfl (by rw [←e];rfl)
     have hbb:b≠blk:=fun e=>by
      have hF:=(H.fr _ (Qaz ..) blk rfl).2;have:=hF _ (e▸hSk);cases this
     have hltg:=H.lt (i:=2) rfl rfl;have hltb:=(Qan.1 (H.kmap hSk)).1;have hcb:=H.cell (i:=2) (j:=0) rfl rfl;have hsort:=q8x (cb:= #[.pointer (some ⟨g5,0,none⟩)]) (y9q S) H hLl (by omega) heg (fun W _ hW x y=>q8z (y9q S) (.map (some b)) g5 W ((World.cell?_of_block (hW g5 hltg hg5)).trans hcb) (fun z=>(y04 (w:=W) Tryz.underlying87 (y1i Tryz.underlying9) (.int .i64 0) (y0p W) ((hW b hltb hbb).trans (H.kmap hSk)) z false).trans (by rw [if_neg Bool.false_ne_true,hnv])) hfb x y);clear hbb hg5 hltg hltb hcb
     go_wp2_with (first
      |(go_at_call 67;refine hsort.mono ?_;clear hsort H H0;rintro e w9 ⟨rfl,L,hLp,hLs,H⟩))
     have hLL:L.length=s.size:=hLp.length_eq.trans hLl;obtain ⟨K6,hle6,H,hr⟩:=Hp.freezeRow H (z7n L);replace H:=Hp.tail (Hp.tail H);go_ret;exact ⟨K6,L,_,rfl,hle6.trans hK,H,by rw [hLL];exact hr,by rw [HS.out];exact hLp.trans hperm,by rw [HS.out];exact hLs⟩
   ·intro k x1 x2 w9 hkx hks H9;obtain ⟨q,hq,he⟩:=q5j hkx;injection he with e1 e2;subst e1 e2
    have hkn:k<n:=by rw [←hn];exact (Qac.1 hkx).1
    have hsp:=hs.push hkn hks;have hspl:=hsp.le
    have hkey:y82 S k=q.1:=by simp [y82,hq]
    have H7:Hp w0 w9 K5 (.row 9 1 (.slice Av s.size cv) s.size ((s.toList.map (y82 S)).map ks)::iter r b (y0s ks S).length (s.push k):: .box g5 [.map (some b)] 87::M):=by rw [hn,List.map_map];exact H9
    clear H H0 H9;have H:=H7;rw [hn] at H
    go_wp2_with (first
     |(refine y2w (by rfl) 27 9 1 _ (by rfl) (some 23) (by rfl) Tryz.underlying27 [.string (str q.1)] (by kernel_rfl) H ?_;clear H;intro w1 g23 H)
     |(at_builtin;refine y4p (by rfl) _ _ 27 (by rfl) 9 k0 _ 1 16 Tryz.underlying27 hk0 k0z k0s k0b (by rfl) (by decide) H 1 (.slice Av s.size cv) (s.size) (((s.toList.map (y82 S)).map ks)) (by rfl) (by first|rfl|simp [Act.eval,Act.put]) (some ⟨g23,0,none⟩) 1 1 [.string (str q.1)] (by first|rfl|simp [Act.eval,Act.put]) (by rfl) (H.rd (i:=0) rfl) (by simp [Value.oneCell']) (by simp only [maxLen];omega) (by omega) ?_;clear H;intro V2 w2 H;replace H:Hp w0 w2 K5 (.box g23 [.string (str q.1)] 9:: .row 9 1 (V2) (s.size+1) (((s.toList.map (y82 S)).map ks)++[.string (str q.1)])::(iter r b n (s.push k):: .box g5 [.map (some b)] 87::M)):=H;obtain ⟨V2A,V2c,rfl,V2l,V2m⟩:=H.slice (i:=1) rfl)
     |((with_reducible show wpList _ _ _ (_::_) _ _);refine q5i (by rfl) (.tmp 16) (by rfl) (by first|rfl|simp [Act.eval,Act.put]) H7 1 b (y0s ks S) s k (ks q.1,q.2) (by rfl) (H7.kmap hSk) hkx ?_))
    replace H:=H.sub (Qai _ (Qaa _ (Qam _)));have hsn6:=z91 H.tail;go_roundw
    case rel=>
     refine ⟨s.push k,hsp,?_⟩;rw [Array.size_push,Array.toList_push,Qas,Qas];simp only [List.map_cons,List.map_nil,hkey];exact H
    case measure=>
     rw [hsn6,hsn];rw [Array.size_push] at hspl ⊢;omega
def zeroF:FieldD:=⟨y7n,[],[],([],[]),[],0,0⟩
theorem z7o {w:World} {B O:Nat} {vs:List Value} (h:At w ⟨B,O,none⟩ vs):w.rangeAt B O vs:=fun k u hu=>by
 cases k with
 |zero=>exact h.1 u hu
 |succ k=>exact h.2 k u hu
theorem read_b (src:Txt) (defs:List DefD) (hp:z7c src defs) (w0 w K:World) (M:List Ent) (H:Hp w0 w K M):
  Calls Tryz.prog 13 #[.string (str src)] w fun e w'=>∃K' A c,e= .returned (.slice A defs.length c)∧Sat K' K∧Hp w0 w' K' M∧RD K' (.list defs.length (y0r defs)) (.slice A defs.length c):=x96 H hp rfl
theorem q80 {l:List Txt} {x:Txt} (h:l.Perm [x]):l=[x]:=List.perm_singleton.1 h
def z7p:Txt:=List.append [101,120,116,101,110,100,32,116,121,112,101,32,81,117,101,114,121,123,98,58,91,73,110,116,33,93,33,125,32,116,121,112,101,32,81,117,101,114,121] [123,97,58,73,110,116,125,32,116,121,112,101,32,81,117,101,114,121,123,99,58,73,110,116,125,32,117,110,105,111,110,32,85,61,81,117,101,114,121]
def z94:List TokD:=(y1n z7p).getD []
def y6i:List DefD:=(y1f z94 100 50 100 0).getD []
theorem z95:z7c z7p y6i:=
 ⟨Qa6 (by kernel_rfl),z94,40,40,3000,100,50,by kernel_rfl,Qa6 (by kernel_rfl),by omega,by kernel_rfl,by omega,by kernel_rfl⟩
theorem q1a:y0i y6i≤1000:=Qa6 (by kernel_rfl)
def y40:Txt:=[81,117,101,114,121]
def uT:Txt:=[85]
def D0:TysD:=y05 y6i
theorem D0_W:TyW D0:=z2v y6i (by have:=q1a;omega)
theorem q81:x4g D0.schema.roots 1=y40:=by kernel_rfl
def Q0:DefD:=(y4c D0.types y40).getD z7l
def F0:FieldD:=Q0.fields.getD 0 zeroF
def F1:FieldD:=Q0.fields.getD 1 zeroF
theorem q1b:y4c D0.types y40=some Q0:=by kernel_rfl
theorem z96:Q0.fields=[F0,F1]:=by kernel_rfl
theorem Q0_len:Q0.fields.length=2:=by rw [z96];rfl
theorem D0_set:(y14 D0.objects uT).map (·.1)=[y40]:=by kernel_rfl
theorem D0_in:z1s D0 y40 uT=true:=by kernel_rfl
theorem D0_out:z1s D0 uT y40=false:=by kernel_rfl
set_option maxHeartbeats 16000000 in
theorem q1c (w0 w K:World) (M:List Ent) (H:Hp w0 w K M):
  Calls Tryz.prog 24 #[] w fun e w'=>∃K',e= .returned (.bool true)∧Sat K' K∧Hp w0 w' K' M:=by
 have hK:=Sat.refl K
 have hq:((str y40).toList==[81,117,101,114,121])=true:=by kernel_rfl
 have hn0:((str F0.name).toList==[97])=true:=by kernel_rfl
 have hn1:((str F1.ty.2).toList==[33,93,33])=true:=by kernel_rfl
 go_enter Tryz.func24,Tryz.ntmps24
 go_upto_region 4 with (first
  |(go_at_call 13;refine (read_b z7p y6i z95 _ _ _ _ H).mono ?_;clear H;rintro e w1 ⟨K1,Ad,cd,rfl,hle1,H,hd⟩;replace hK:=hle1.trans hK)
  |(go_at_call 14;refine (z0s y6i _ cd Ad _ _ _ _ H rfl hd (by have:=q1a;omega)).mono ?_;clear H;rintro e w2 ⟨K2,g,rfl,hle2,H,hT⟩;replace hd:=hd.sat hle2;replace hK:=hle2.trans hK)
  |(go_at_call 17;refine (Root_t (.pointer (some ⟨g,0,none⟩)) 1 D0 _ _ _ _ H hT.tp D0_W).mono ?_;clear H;rintro e w3 ⟨K3,rfl,hle3,H⟩;replace hd:=hd.sat hle3;replace hT:=hT.sat hle3;replace hK:=hle3.trans hK;rw [q81]))
 go_upto_region 5 with (first
  |(go_at_call 19;refine (q7a (.pointer (some ⟨g,0,none⟩)) y40 D0 _ _ _ _ H hT.tp D0_W).mono ?_;clear H;rintro e w4 ⟨K4,v4,rfl,hle4,H,cs4,rfl,hd4⟩;replace hd:=hd.sat hle4;replace hT:=hT.sat hle4;replace hK:=hle4.trans hK;simp only [q1b,Option.getD_some] at hd4;rw [q1b];obtain ⟨B6,e6,B7,e7,B8,e8,B9,e9,B10,e10,B11,e11,B12,e12,B14,e14,hcs4,-,-,df,-,-,-,-,-⟩:=y0h hd4;rw [Q0_len] at hcs4 df;rw [z96] at df;obtain ⟨ad0,xs0,hB8,hx0,-,hat0⟩:=y4s (m:=10) (f:=y3z) (k:=0) (fun _=>rfl) df rfl (by omega);subst hB8;obtain ⟨bf,of,hbo⟩:=y69 (m:=10) (f:=y3z) (fun _=>rfl) df (by simp) (by omega);subst hbo;obtain ⟨ad1,xs1,hB9,hx1,-,hat1⟩:=y4s (m:=10) (f:=y3z) (k:=1) (fun _=>rfl) df rfl (by omega);injection hB9 with hB9;subst hB9;obtain rfl:cs4= #[.int .i64 Q0.kind,.bool Q0.ext,.bool Q0.note.has,.bool Q0.note.block,.string (str Q0.note.text),.string (str Q0.name),.slice B6 Q0.ifaces.length e6,.slice B7 Q0.dirs.length e7,.slice (some ⟨bf,of,none⟩) 2 e8,.slice B9 Q0.inputs.length e9,.slice B10 Q0.members.length e10,.slice B11 Q0.values.length e11,.slice B12 Q0.roots.length e12,.bool Q0.rep,.slice B14 Q0.places.length e14,.int .i64 Q0.line,.int .i64 Q0.col]:=Qal.1 hcs4)
  |((with_reducible refine isL ?_);first
   |(refine al z43 2 H ?_;clear H;intro w5 g2 H)
   |(refine sA 2 0 H ?_;clear H;intro w7 H)))
 obtain ⟨Af0,cf0,Ag0,cg0,hx0e,-,-⟩:=y77 hx0;obtain ⟨Af1,cf1,Ag1,cg1,hx1e,-,-⟩:=y77 hx1;subst hx0e hx1e;rw [z0t] at hat0 hat1;have f0:=H.sat.cell ((z7o hat0) 3 _ rfl);have f1:=H.sat.cell ((z7o hat1) 6 _ rfl);simp only [Nat.zero_mul,Nat.add_zero,Nat.one_mul] at f0 f1;clear hd4 hcs4 df hx0 hx1 hat0 hat1;have:=H.c 0 8
 go_upto_region 8 with (first
  |(go_at_call 27;refine (z6c (.pointer (some ⟨g,0,none⟩)) uT D0 _ _ _ _ H hT.tp D0_W).mono ?_;clear H;rintro e w7 ⟨K7,l7,v7,rfl,hle7,H,hl7,hp7,-⟩;replace hd:=hd.sat hle7;replace hT:=hT.sat hle7;replace hK:=hle7.trans hK;rw [D0_set] at hp7;obtain rfl:=q80 hp7;replace hl7:RD K7 (.list 1 (y03 [y40])) v7:=hl7;obtain ⟨A7,c7,hv7,-,-⟩:=y4e hl7;subst hv7;obtain ⟨ad7,xs7,hA7,hx7,-,hat7⟩:=y4s (m:=1) (f:=fun x=>[str' x]) (l:=[y40]) (k:=0) (fun _=>rfl) hl7 rfl (by omega);subst hA7;obtain ⟨b7,o7,hbo7⟩:=y69 (m:=1) (f:=fun x=>[str' x]) (l:=[y40]) (fun _=>rfl) hl7 (by simp) (by omega);subst hbo7;have:=H.c 0 8))
 have x7:xs7=[.string (str y40)]:=by
  obtain ⟨r0,e0,h0⟩:=DatL.lit_inv hx7;rw [e0,h0.nil_inv]
 subst x7;rw [z0t] at hat7;have f7:=H.sat.cell ((z7o hat7) 0 _ rfl);simp only [Nat.zero_mul,Nat.add_zero] at f7;clear hl7 hx7 hat7 hp7 f0 f1;have mk1:=True.intro
 go_wp2_with (first
  |(go_at_call 37;clear mk1;refine (x4i (.pointer (some ⟨g,0,none⟩)) y40 uT D0 _ _ _ _ H hT.tp D0_W).mono ?_;clear H;rintro e w8 ⟨K8,rfl,hle8,H⟩;replace hT:=hT.sat hle8;replace hK:=hle8.trans hK;rw [D0_in])
  |(go_at_call 37;refine (x4i (.pointer (some ⟨g,0,none⟩)) uT y40 D0 _ _ _ _ H hT.tp D0_W).mono ?_;clear H;rintro e w9 ⟨K9,rfl,hle9,H⟩;replace hT:=hT.sat hle9;replace hK:=hle9.trans hK;rw [D0_out]))
 go_ret;exact ⟨_,rfl,hK,H.tail⟩
end Go.Proofs.YtbpgkkoeehopjaaGreat.hp
namespace Go.Proofs.YtbpgkkoeehopjaaGreat.ty
open Go.RowKit lex gram rd tree dat hp
def y7o (t:Txt) (d:DefD):Bool:=(d.kind==3)&&d.ifaces.any fun n=>decide (n.name=t)
def addN (l:List Txt) (x:Txt):List Txt:=if x∈l then l else l++[x]
def z2m (ts:List DefD) (t:Txt):Option DefD:=(y1y ts t).bind fun i=>ts[i]?
def memO (ts:List DefD) (ms:List NamedD):List Txt:=ms.foldl (fun l m=>if y0j ts m.name=3 then addN l m.name else l) []
def posL (ts:List DefD) (t:Txt):List Txt:=
 if y0j ts t=3 then [t]
 else if y0j ts t=4 then (ts.filter (y7o t)).map (·.name)
 else if y0j ts t=5 then memO ts (((z2m ts t).map (·.members)).getD [])
 else []
def memS (ts:List DefD) (ms:List NamedD) (s:List (Txt×Value)):List (Txt×Value):=ms.zipIdx.foldl (fun s q=>if y0j ts q.1.name=3 then y1m s q.1.name q.2 else s) s
def setL (ts:List DefD) (t:Txt):List (Txt×Value):=
 if y0j ts t=3 then [(t,.int .i64 (((y1y ts t).getD 0:Nat):Int))]
 else if y0j ts t=4 then (ts.zipIdx.filter fun p=>y7o t p.1).map fun p=>(p.1.name,.int .i64 ((p.2:Nat):Int))
 else if y0j ts t=5 then memS ts (((z2m ts t).map (·.members)).getD []) []
 else []
theorem y8v (x:Txt) (n:Nat) (t t':Txt): ∀om:OMap,y14 (addO om t' x n) t=if t'=t then y1m (y14 om t) x n else y14 om t
 |[]=>by
  by_cases h:t'=t
  ·subst h;simp [addO,y14,y1m,y00]
  ·simp [addO,y14,h]
 |p::r=>by
  have ih:=y8v x n t t' r;unfold addO;by_cases hp:p.1=t'
  ·rw [if_pos hp];by_cases h:t'=t
   ·subst h;rw [if_pos rfl];simp [y14,hp]
   ·rw [if_neg h];have hpt: ¬p.1=t:=fun e=>h (hp▸e);simp [y14,h,hpt]
  ·rw [if_neg hp];by_cases h:p.1=t
   ·have h': ¬t'=t:=fun e=>hp (h.trans e.symm);rw [if_neg h'];simp [y14,h]
   ·have e1:y14 (p::addO r t' x n) t=y14 (addO r t' x n) t:=by simp [y14,h]
    have e2:y14 (p::r) t=y14 r t:=by simp [y14,h]
    rw [e1,e2,ih]
def stp (ts:List DefD) (t:Txt) (s:List (Txt×Value)) (p:DefD×Nat):List (Txt×Value):=
 if p.1.kind=3 then p.1.ifaces.foldl (fun s n=>if y0j ts n.name=4∧n.name=t then y1m s p.1.name p.2 else s) (if p.1.name=t then y1m s p.1.name p.2 else s)
 else if p.1.kind=5 then p.1.members.zipIdx.foldl (fun s q=>if y0j ts q.1.name=3∧p.1.name=t then y1m s q.1.name q.2 else s) s
 else s
theorem y5t {α β γ:Type} (g:β→γ) {f:β→α→β} {f':γ→α→γ} (h: ∀b a,g (f b a)=f' (g b) a): ∀(l:List α) (b:β),g (l.foldl f b)=l.foldl f' (g b)
 |[],b=>rfl
 |a::r,b=>by rw [List.foldl_cons,List.foldl_cons,y5t g h r,h]
theorem x7c (ts:List DefD) (t:Txt) (m:OMap) (p:DefD×Nat):y14 (y4a ts m p) t=stp ts t (y14 m t) p:=by
 unfold y4a stp;split
 ·rw [y5t (fun m=>y14 m t) (f':=fun s (n:NamedD)=>if y0j ts n.name=4∧n.name=t then y1m s p.1.name p.2 else s),y8v];intro b a;split
  ·rename_i h;rw [y8v];by_cases h2:a.name=t
   ·rw [if_pos h2,if_pos ⟨h,h2⟩]
   ·rw [if_neg h2,if_neg (fun h=>h2 h.2)]
  ·rename_i h;rw [if_neg (fun h2=>h h2.1)]
 ·split
  ·rw [y5t (fun m=>y14 m t) (f':=fun s (q:NamedD×Nat)=>if y0j ts q.1.name=3∧p.1.name=t then y1m s q.1.name q.2 else s)];intro b a;split
   ·rename_i h;rw [y8v];by_cases h2:p.1.name=t
    ·rw [if_pos h2,if_pos ⟨h,h2⟩]
    ·rw [if_neg h2,if_neg (fun h=>h2 h.2)]
   ·rename_i h;rw [if_neg (fun h2=>h h2.1)]
  ·rfl
theorem x7d (ts:List DefD) (t:Txt):y14 (y11 ts) t=ts.zipIdx.foldl (stp ts t) []:=by
 unfold y11;rw [y5t (fun m=>y14 m t) (f':=stp ts t) (fun b a=>x7c ts t b a)];rfl
theorem z97 (s:List (Txt×Value)) (x:Txt) (n:Nat):y1m (y1m s x n) x n=y1m s x n:=by
 by_cases h:(y00 s x).isSome=true
 ·have e:y1m s x n=s:=by unfold y1m;rw [if_pos h]
  rw [e,e]
 ·have e:y1m s x n=s++[(x,.int .i64 (n:Int))]:=by unfold y1m;rw [if_neg h]
  have h2:(y00 (s++[(x,.int .i64 (n:Int))]) x).isSome=true:=by
   unfold y00;rw [List.find?_append]
   cases hq:s.find? (fun p=>decide (p.1=x))<;>simp
  rw [e];unfold y1m;rw [if_pos h2]
theorem x4l {α:Type} (s0:List (Txt×Value)) (x:Txt) (n:Nat) (p:α→Prop) [DecidablePred p]: ∀(l:List α) (s:List (Txt×Value)),l.foldl (fun s a=>if p a then y1m s x n else s) s=if l.any (fun a=>decide (p a))=true then y1m s x n else s
 |[],s=>by simp
 |a::r,s=>by
  rw [List.foldl_cons,x4l s0 x n p r,List.any_cons];by_cases h:p a
  ·rw [if_pos h,Qa5 h,Bool.true_or,if_pos rfl,z97]
   split<;>rfl
  ·rw [if_neg h,Qa4 h,Bool.false_or]
theorem x2a {α β:Type} (f:β→α→β) (h: ∀b a,f b a=b): ∀(l:List α) (b:β),l.foldl f b=b
 |[],b=>rfl
 |a::r,b=>by rw [List.foldl_cons,h,x2a f h r]
theorem x4m {ts:List DefD} (hn:(y0a ts).Nodup) {i:Nat} {d:DefD} (hd:ts[i]?=some d) (t:Txt) (s:List (Txt×Value)):stp ts t s (d,i)=
  if y0j ts t=3 then (if d.name=t then y1m s t i else s)
  else if y0j ts t=4 then (if y7o t d=true then y1m s d.name i else s)
  else if y0j ts t=5 then (if d.name=t then memS ts d.members s else s)
  else s:=by
 have hk:=z9p hn hd
 have hkt:d.name=t→y0j ts t=d.kind:=fun e=>by rw [←e];exact hk
 unfold stp;dsimp only;by_cases h3:d.kind=3
 ·rw [if_pos h3];by_cases k4:y0j ts t=4
  ·have hne: ¬d.name=t:=fun e=>by have:=hkt e;omega
   rw [if_neg (by omega: ¬y0j ts t=3),if_pos k4,if_neg hne,x4l []]
   have:(d.ifaces.any fun a=>decide (y0j ts a.name=4∧a.name=t))=y7o t d:=by
    unfold y7o;rw [h3];simp only [beq_self_eq_true,Bool.true_and]
    congr 1
    funext a
    by_cases e:a.name=t
    ·rw [e];simp [k4]
    ·simp [e]
   rw [this]
  ·rw [x2a _ (fun b a=>by rw [if_neg];rintro ⟨h1,h2⟩;rw [h2] at h1;exact k4 h1)];by_cases k3:y0j ts t=3
   ·rw [if_pos k3];by_cases e:d.name=t
    ·rw [if_pos e,if_pos e,e]
    ·rw [if_neg e,if_neg e]
   ·have hne: ¬d.name=t:=fun e=>by have:=hkt e;omega
    rw [if_neg k3,if_neg k4,if_neg hne,if_neg hne]
    split<;>rfl
 ·rw [if_neg h3]
  have hi:y7o t d=false:=by unfold y7o;simp [h3]
  by_cases h5:d.kind=5
  ·rw [if_pos h5];by_cases e:d.name=t
   ·have k5:=hkt e;rw [if_neg (by omega),if_neg (by omega),if_pos (by omega),if_pos e];unfold memS
    congr 1
    funext s q
    by_cases hq:y0j ts q.1.name=3
    ·rw [if_pos ⟨hq,e⟩,if_pos hq]
    ·rw [if_neg (fun h=>hq h.1),if_neg hq]
   ·rw [x2a _ (fun b a=>by rw [if_neg (fun h=>e h.2)]),hi];simp [e]
  ·rw [if_neg h5,hi];by_cases e:d.name=t
   ·have:=hkt e
    have k3: ¬y0j ts t=3:=by omega
    have k5: ¬y0j ts t=5:=by omega
    rw [if_neg k3,if_neg k5];simp
   ·simp [e]
theorem z7q {ts:List DefD} (hn:(y0a ts).Nodup) {i j:Nat} {d e:DefD} (hd:ts[i]?=some d) (he:ts[j]?=some e) (h:d.name=e.name):i=j:=by
 have h1:=z2u hn hd;have h2:=z2u hn he;rw [h,h2] at h1;injection h1 with h1;exact h1.symm
theorem set_eq {ts:List DefD} (hn:(y0a ts).Nodup) (t:Txt):y14 (y11 ts) t=setL ts t:=by
 rw [x7d];have hstep: ∀k d,ts[k]?=some d→(ts.take (k+1)).zipIdx.foldl (stp ts t) []=stp ts t ((ts.take k).zipIdx.foldl (stp ts t) []) (d,k):=fun k d h=>y3s h _ _
 have hall:ts.zipIdx.foldl (stp ts t) []=(ts.take ts.length).zipIdx.foldl (stp ts t) []:=by rw [List.take_length]
 rw [hall];have hget: ∀k,k<ts.length→ ∃d,ts[k]?=some d:=fun k hk=>⟨_,Qad hk⟩;unfold setL;by_cases k3:y0j ts t=3
 ·rw [if_pos k3]
  obtain ⟨i0,hi0⟩: ∃i0,y1y ts t=some i0:=by
   cases h:y1y ts t with
   |none=>have:=y5n h;omega
   |some i=>exact ⟨i,rfl⟩
  obtain ⟨d0,hd0,e0⟩:=y2o hi0
  have key: ∀k,k≤ts.length→(ts.take k).zipIdx.foldl (stp ts t) []=if i0<k then [(t,.int .i64 ((i0:Nat):Int))] else []:=by
   intro k
   induction k with
   |zero=>intro _;rw [List.take_zero,if_neg (by omega)];rfl
   |succ k ih=>
    intro hk;obtain ⟨d,hd⟩:=hget k (by omega);rw [hstep k d hd,ih (by omega),x4m hn hd,if_pos k3];by_cases e:d.name=t
    ·have:k=i0:=z7q hn hd hd0 (e.trans e0.symm);subst this;rw [if_pos e,if_neg (by omega),if_pos (by omega)];rfl
    ·have:k≠i0:=fun h=>e (by subst h;rw [hd] at hd0;injection hd0 with hd0;rw [hd0];exact e0);rw [if_neg e];by_cases hlt:i0<k
     ·rw [if_pos hlt,if_pos (by omega)]
     ·rw [if_neg hlt,if_neg (by omega)]
  rw [key _ (Qab _),if_pos (Qac.1 hd0).1,hi0];rfl
 ·rw [if_neg k3];by_cases k4:y0j ts t=4
  ·rw [if_pos k4]
   have key: ∀k,k≤ts.length→(ts.take k).zipIdx.foldl (stp ts t) []=((ts.take k).zipIdx.filter fun p=>y7o t p.1).map fun p=>(p.1.name,.int .i64 ((p.2:Nat):Int)):=by
    intro k
    induction k with
    |zero=>intro _;rfl
    |succ k ih=>
     intro hk;obtain ⟨d,hd⟩:=hget k (by omega);rw [hstep k d hd,ih (by omega),x4m hn hd,if_neg k3,if_pos k4,x4c hd,List.filter_append];by_cases h:y7o t d=true
     ·rw [if_pos h]
      have hno:y00 (((ts.take k).zipIdx.filter fun p=>y7o t p.1).map fun p=>((p.1.name,.int .i64 ((p.2:Nat):Int)):Txt×Value)) d.name=none:=by
       unfold y00;rw [Option.map_eq_none_iff,List.find?_eq_none];intro q hq;obtain ⟨p,hp,rfl⟩:=Qbe.1 hq;have hp1:=y8t (List.mem_filter.1 hp).1;rw [Qbb] at hp1;split at hp1
       ·rename_i hlt;simp only [decide_eq_true_eq];intro e;have:=z7q hn hp1 hd e;omega
       ·cases hp1
      unfold y1m;rw [hno];simp [h]
     ·rw [if_neg h];simp [h]
   rw [key _ (Qab _),List.take_length]
  ·rw [if_neg k4];by_cases k5:y0j ts t=5
   ·rw [if_pos k5]
    obtain ⟨i0,hi0⟩: ∃i0,y1y ts t=some i0:=by
     cases h:y1y ts t with
     |none=>have:=y5n h;omega
     |some i=>exact ⟨i,rfl⟩
    obtain ⟨d0,hd0,e0⟩:=y2o hi0
    have key: ∀k,k≤ts.length→(ts.take k).zipIdx.foldl (stp ts t) []=if i0<k then memS ts d0.members [] else []:=by
     intro k
     induction k with
     |zero=>intro _;rw [List.take_zero,if_neg (by omega)];rfl
     |succ k ih=>
      intro hk;obtain ⟨d,hd⟩:=hget k (by omega);rw [hstep k d hd,ih (by omega),x4m hn hd,if_neg k3,if_neg k4,if_pos k5];by_cases e:d.name=t
      ·have:k=i0:=z7q hn hd hd0 (e.trans e0.symm);subst this;rw [hd] at hd0;injection hd0 with hd0;subst hd0;rw [if_pos e,if_neg (by omega),if_pos (by omega)]
      ·have:k≠i0:=fun h=>e (by subst h;rw [hd] at hd0;injection hd0 with hd0;rw [hd0];exact e0);rw [if_neg e];by_cases hlt:i0<k
       ·rw [if_pos hlt,if_pos (by omega)]
       ·rw [if_neg hlt,if_neg (by omega)]
    rw [key _ (Qab _),if_pos (Qac.1 hd0).1];unfold z2m;rw [hi0];simp [hd0]
   ·rw [if_neg k5]
    have key: ∀k,k≤ts.length→(ts.take k).zipIdx.foldl (stp ts t) []=[]:=by
     intro k
     induction k with
     |zero=>intro _;rfl
     |succ k ih=>
      intro hk;obtain ⟨d,hd⟩:=hget k (by omega);rw [hstep k d hd,ih (by omega),x4m hn hd,if_neg k3,if_neg k4,if_neg k5]
    exact key _ (Qab _)
def q82 (s:List (Txt×Value)):Prop:=∃ns:List Nat,s.map (·.2)=ns.map (fun n=>Value.int .i64 ((n:Nat):Int))∧ns.Pairwise (· < ·)
theorem x7e (ts:List DefD) (ms:List NamedD):q82 (memS ts ms [])∧(memS ts ms []).map (·.1)=memO ts ms:=by
 have key: ∀k,k≤ms.length→ ∃ns:List Nat,((ms.take k).zipIdx.foldl (fun s (q:NamedD×Nat)=>if y0j ts q.1.name=3 then y1m s q.1.name q.2 else s) []).map (·.2)=ns.map (fun n=>Value.int .i64 ((n:Nat):Int))∧ns.Pairwise (· < ·)∧(∀n∈ns,n<k)∧
   ((ms.take k).zipIdx.foldl (fun s (q:NamedD×Nat)=>if y0j ts q.1.name=3 then y1m s q.1.name q.2 else s) []).map (·.1)=(ms.take k).foldl (fun l m=>if y0j ts m.name=3 then addN l m.name else l) []:=by
  intro k
  induction k with
  |zero=>intro _;exact ⟨[],rfl,List.Pairwise.nil,by simp,rfl⟩
  |succ k ih=>
   intro hk;obtain ⟨ns,h1,h2,h3,h4⟩:=ih (by omega);obtain ⟨m,hm⟩: ∃m,ms[k]?=some m:=⟨_,Qad (by omega)⟩;rw [y3s hm,y4r hm];generalize (ms.take k).zipIdx.foldl (fun s (q:NamedD×Nat)=>if y0j ts q.1.name=3 then y1m s q.1.name q.2 else s) []=s at h1 h4 ⊢;generalize (ms.take k).foldl (fun l m=>if y0j ts m.name=3 then addN l m.name else l) []=l at h4 ⊢;dsimp only;by_cases h:y0j ts m.name=3
   ·rw [if_pos h,if_pos h]
    have hin:(y00 s m.name).isSome=true↔m.name∈l:=by
     rw [←h4];unfold y00;rw [Option.isSome_map,List.find?_isSome];simp only [decide_eq_true_eq,Qbe]
    unfold y1m addN;by_cases hs:(y00 s m.name).isSome=true
    ·rw [if_pos hs,if_pos (hin.1 hs)];exact ⟨ns,h1,h2,fun n hn=>by have:=h3 n hn;omega,h4⟩
    ·rw [if_neg hs,if_neg (fun h=>hs (hin.2 h))];refine ⟨ns++[k],by rw [Qas,Qas,h1];rfl,?_,fun n hn=>?_,by rw [Qas,h4];rfl⟩
     ·rw [List.pairwise_append];exact ⟨h2,by simp,fun a ha b hb=>by obtain rfl:=Qax.1 hb;exact h3 a ha⟩
     ·rcases Qbf.1 hn with hn|hn
      ·have:=h3 n hn;omega
      ·obtain rfl:=Qax.1 hn;omega
   ·rw [if_neg h,if_neg h];exact ⟨ns,h1,h2,fun n hn=>by have:=h3 n hn;omega,h4⟩
 obtain ⟨ns,h1,h2,_,h4⟩:=key ms.length (Qab _);rw [List.take_length] at h1 h4;exact ⟨⟨ns,h1,h2⟩,h4⟩
theorem z98 {α:Type}: ∀(l:List α) (k:Nat),(l.zipIdx k).Pairwise (fun p q=>p.2<q.2)∧ ∀p∈l.zipIdx k,k≤p.2
 |[],k=>⟨List.Pairwise.nil,by simp⟩
 |a::r,k=>by
  obtain ⟨h1,h2⟩:=z98 r (k+1);rw [List.zipIdx_cons];refine ⟨List.pairwise_cons.2 ⟨fun p hp=>?_,h1⟩,fun p hp=>?_⟩
  ·have:=h2 p hp;dsimp only;omega
  ·rcases Qbd.1 hp with rfl|hp
   ·exact Qab _
   ·have:=h2 p hp;omega
theorem x7f (ts:List DefD) (t:Txt):q82 (setL ts t)∧(setL ts t).map (·.1)=posL ts t:=by
 unfold setL posL;split
 ·exact ⟨⟨[(y1y ts t).getD 0],rfl,by simp⟩,rfl⟩
 ·split
  ·refine ⟨⟨(ts.zipIdx.filter fun p=>y7o t p.1).map (·.2),by rw [List.map_map,List.map_map];rfl,?_⟩,?_⟩
   ·rw [List.pairwise_map];exact (z98 ts 0).1.filter _
   ·rw [List.map_map]
    have: ∀(l:List DefD) (k:Nat),((l.zipIdx k).filter fun p=>y7o t p.1).map (fun p=>p.1.name)=(l.filter (y7o t)).map (·.name):=by
     intro l
     induction l with
     |nil=>intro k;rfl
     |cons a r ih=>
      intro k;rw [List.zipIdx_cons,List.filter_cons,List.filter_cons];dsimp only;split
      ·rw [List.map_cons,List.map_cons,ih]
      ·exact ih _
    exact this ts 0
  ·split
   ·exact x7e ts _
   ·exact ⟨⟨[],rfl,List.Pairwise.nil⟩,rfl⟩
theorem z4k {α:Type} (f:α→Int): ∀{l m:List α},l.Perm m→l.Pairwise (fun a b=>f a≤f b)→m.Pairwise (fun a b=>f a<f b)→l=m
 |[],m,h,_,_=>(List.nil_perm.1 h).symm
 |a::r,[],h,_,_=>absurd h.length_eq (by simp)
 |a::r,b::s,h,h1,h2=>by
  rw [List.pairwise_cons] at h1 h2
  have hab:a=b:=by
   have hb:b∈a::r:=h.mem_iff.2 (by simp);rcases Qbd.1 hb with hb|hb
   ·exact hb.symm
   ·have ha:a∈b::s:=h.mem_iff.1 (by simp);rcases Qbd.1 ha with ha|ha
    ·exact ha
    ·have:=h1.1 b hb;have:=h2.1 a ha;omega
  subst hab;rw [z4k f ((List.perm_cons a).1 h) h1.2 h2.2]
theorem x2b {s:List (Txt×Value)} (hn:(s.map (·.1)).Nodup) (hr:q82 s):(s.map (·.1)).Pairwise (fun a b=>y9q s a<y9q s b):=by
 obtain ⟨ns,h1,h2⟩:=hr
 have hfind: ∀(i:Nat) (x:Txt) (v:Value),s[i]?=some (x,v)→y00 s x=some v:=by
  intro i x v hi;unfold y00
  have:s.find? (fun p=>decide (p.1=x))=some (x,v):=by
   rw [List.find?_eq_some_iff_getElem];obtain ⟨hl,he⟩:=Qac.1 hi;refine ⟨by simp,i,hl,he,fun j hj=>?_⟩;have:=List.pairwise_iff_getElem.1 hn j i (by simpa using (by omega:j<s.length)) (by simpa using hl) hj;simp only [List.getElem_map,he] at this;simpa using this
  rw [this];rfl
 rw [List.pairwise_iff_getElem];intro i j hi hj hij;simp only [Qay] at hi hj
 have hlen:ns.length=s.length:=by have:=congrArg List.length h1;simpa using this.symm
 have hval: ∀k (hk:k<s.length),s[k].2=Value.int .i64 ((ns[k]'(by omega):Nat):Int):=by
  intro k hk;have:=congrArg (·[k]?) h1;simp only [Qbz] at this;rw [Qad hk,Qad (by omega:k<ns.length)] at this;simpa using this
 have hnum: ∀k (hk:k<s.length),y9q s s[k].1=((ns[k]'(by omega):Nat):Int):=by
  intro k hk;unfold y9q;rw [hfind k s[k].1 s[k].2 (Qad hk),hval k hk]
 simp only [List.getElem_map];rw [hnum i hi,hnum j hj];have:=List.pairwise_iff_getElem.1 h2 i j (by omega) (by omega) hij;omega
theorem pos_is {ts:List DefD} (hn:(y0a ts).Nodup) {t:Txt} {l:List Txt} (h:l.Perm ((y14 (y11 ts) t).map (·.1))) (hs:l.Pairwise (fun a b=>y9q (y14 (y11 ts) t) a≤y9q (y14 (y11 ts) t) b)):l=posL ts t:=by
 have hso:=(x4a (z2b hn) t).1;rw [set_eq hn] at h hs hso;obtain ⟨hr,hp⟩:=x7f ts t;rw [←hp];exact z4k _ h hs (x2b hso hr)
end Go.Proofs.YtbpgkkoeehopjaaGreat.ty
namespace Go.Proofs.YtbpgkkoeehopjaaGreat.hp
open Go.RowKit lex gram rd tree dat ty
theorem z99 (ts:List DefD) (x:Txt):y4c ts x=z2m ts x:=rfl
theorem x4n {ts:List DefD} {x:Txt} {d:DefD} (h:z2m ts x=some d):d.name=x∧ ∃i,ts[i]?=some d∧y1y ts x=some i:=by
 unfold z2m at h
 cases hi:y1y ts x with
 |none=>rw [hi] at h;cases h
 |some i=>
  rw [hi] at h;obtain ⟨e,he,hn⟩:=y2o hi;have:ts[i]?=some d:=h;rw [this] at he;injection he with he;subst he;exact ⟨hn,i,this,rfl⟩
section
variable {ts : List DefD} (hn : (y0a ts).Nodup)
include hn
end
section
variable (defs : List DefD)
theorem z2c:(y05 defs).types=y0q defs:=rfl
end
open words enc dec held
set_option maxRecDepth 100000
set_option maxHeartbeats 40000000
attribute [local go_sem ↓] Go.wp_at_zero Go.wp_at_succ
section
variable {w0 w K : World} {M : List Ent}
theorem z6d (v:Value) (x:Txt) (defs:List DefD) (H:Hp w0 w K M) (hv:Tp K v (y05 defs)) (hW:TyW (y05 defs)) {l:List Txt} (hl:posL (y0q defs) x=l) {n:Nat} (hn:l.length=n):
  Calls Tryz.prog 27 #[v,.string (str x)] w fun e w'=>∃K' A c,e= .returned (.slice A n c)∧Sat K' K∧Hp w0 w' K' M∧RD K' (.list n (l.flatMap fun x=>[str' x])) (.slice A n c):=by
 refine (z6c v x (y05 defs) w0 w K M H hv hW).mono ?_;rintro e w' ⟨K',l',v',rfl,hle,H,hd,hp,hs⟩;have:=pos_is (y9o defs) hp hs;rw [hl] at this;subst this;rw [hn,textsL_flat] at hd;obtain ⟨A,c,rfl,-,-⟩:=y4e hd;exact ⟨K',A,c,rfl,hle,H,hd⟩
theorem q7c (v:Value) (x:Txt) (D:TysD) (H:Hp w0 w K M) (hv:Tp K v D) (hW:TyW D) {o:Bool} {d:DefD} (h1:(y4c D.types x).isSome=o) (h2:(y4c D.types x).getD z7l=d):
  Calls Tryz.prog 19 #[v,.string (str x)] w fun e w'=>∃K' cs,e= .returned (.tuple #[.agg cs,.bool o])∧Sat K' K∧Hp w0 w' K' M∧RL K' (defL d) cs.toList:=by
 refine (q7a v x D w0 w K M H hv hW).mono ?_;rintro e w' ⟨K',v',rfl,hle,H,cs,rfl,hd⟩;rw [h1];rw [h2] at hd;exact ⟨K',cs,rfl,hle,H,hd⟩
theorem pos_le (ts:List DefD) (t:Txt) (h:y0i ts≤8000000):(posL ts t).length≤9000000:=by
 have hl:=y0w y28 ts;unfold posL;split
 ·simp
 ·split
  ·rw [Qay];have:=Qb3 (y7o t) ts;unfold y0i at h;omega
  ·split
   ·cases hd:z2m ts t with
    |none=>simp [memO]
    |some d=>
     obtain ⟨_,i,hi,_⟩:=x4n hd;have h1:=y4b hi;have h2:=z1n d
     have h3: ∀(ms:List NamedD) (l:List Txt),(ms.foldl (fun l m=>if y0j ts m.name=3 then addN l m.name else l) l).length≤l.length+ms.length:=by
      intro ms
      induction ms with
      |nil=>intro l;simp
      |cons m r ih=>
       intro l;rw [List.foldl_cons];refine Qah (ih _) ?_;unfold addN
       split<;>(try split)<;>simp<;>omega
     have:=h3 d.members [];simp only [List.length_nil] at this;simp only [Option.map_some,Option.getD_some,memO];omega
   ·simp
end
end Go.Proofs.YtbpgkkoeehopjaaGreat.hp
