/- Part 14 of a proof: see the text that holds the statement. -/
import Derived.Test.YtbpgkkoeehopjaaGreatP4
import Derived.Test.YtbpgkkoeehopjaaGreatP8
import Derived.Test.YtbpgkkoeehopjaaGreatP9
import Derived.Test.YtbpgkkoeehopjaaGreatP10
import Derived.Test.YtbpgkkoeehopjaaGreatP13
import Derived.Deep.QuietTactic
import Derived.BigQuiet
set_option linter.unusedVariables false
set_option linter.unusedSimpArgs false
namespace Go.Proofs.YtbpgkkoeehopjaaGreat.hp
open Go.RowKit words enc tree gram lex rd dec dat held ty
set_option maxRecDepth 100000
attribute [local go_sem ↓] Go.wp_at_zero Go.wp_at_succ
abbrev sv (x:Txt):Value:=.string (str x)
theorem x4o {K:World}: ∀{l:List Txt} {vs:List Value},RL K (y03 l) vs→vs=l.map sv
 |[],vs,h=>h.nil_inv
 |x::l,vs,h=>by
  obtain ⟨r,rfl,h'⟩:=DatL.lit_inv (show RL K (str' x::y03 l) vs from h);rw [x4o h'];rfl
set_option maxHeartbeats 4000000 in
theorem x0a (defs:List DefD) (n c:Nat) (A:Option Addr) (w0 w K:World) (M:List Ent) (H:Hp w0 w K M) (hn:defs.length=n) (hd:RD K (.list n (y0r defs)) (.slice A n c)) (hm:n≤20000000):
  Calls Tryz.prog 63 #[.slice A n c] w fun e w'=>∃A' c',e= .returned (.slice A' n c')∧Hp w0 w' K (.row 9 1 (.slice A' n c') n ((defs.map (·.name)).map sv)::M):=by
 obtain ⟨k0,hk0,k0z,k0s,k0b⟩:=info_parts z3v;have HN:=hide hn;clear hn;go_enter Tryz.func63,Tryz.ntmps63
 go_wp2_with fail
 go_loopw [3,8] (fun v i wr=>∃(k:Nat) (vs:List Value),k≤n∧i= .int .i64 k∧Hp w0 wr K (.row 9 1 v k vs::M)∧RL K (y03 ((defs.take k).map (·.name))) vs) (fun _ i _=>n - (intOf i).toNat)
 case atStart=>exact ⟨0,[],Qak _,rfl,H.nilRow 9 1,.nil (Qab _)⟩
 case round=>
  clear H;obtain ⟨k,vs,hk,rfl,H,hvs⟩:=hrel;obtain ⟨Av,cv,rfl,_,_⟩:=H.slice (i:=0) rfl;by_cases hlt:k<n
  ·have hkI:(k:Int)<(n:Int):=by omega
   obtain ⟨x,hx⟩: ∃x,defs[k]?=some x:=⟨_,Qad (by rw [HN.out];exact hlt)⟩;have HE:=hide (y1l hx);obtain ⟨ad,xs,rfl,hxd,_,hat⟩:=y65 (m:=17) (f:=defL) y1b H hd hx (by omega);clear hx;obtain ⟨A6,c6,A7,c7,A8,c8,A9,c9,A10,c10,A11,c11,A12,c12,A14,c14,rfl,-,-,-,-,-,-,-,-⟩:=y0h hxd;have hsz:(Tryz.prog.info? 43).map (·.size)=some 17:=y60
   go_upto_region 6 with (first
    |(at_builtin;refine ap1 1 e27 H (us:=[.string (str x.name)]) ?_ (h1:=(by simp [Value.oneCell']));clear H;intro v2A v2c w2 v2l v2m H;dsimp only [List.set,List.nil_append] at H;have:=H.c 0 5)
    |((with_reducible show wpList _ _ _ (_::_) _ _);refine y0c (by rfl) 43 (.tmp 10) (by rfl) (ad.add (k*17)) (by simp [Act.eval,Act.put]) _ _ hat Tryz.underlying43 rfl hsz ?_)
    |((with_reducible refine isL ?_);first
     |(refine al z43 5 H ?_;clear H;intro w1 g5 H;have:=H.c 0 5)
     |(refine sA 5 0 H ?_;clear H;intro w3 H;have:=H.c 0 5)))
   replace H:=H.sub (Qai _ (Qaa _ (Qam _)))
   go_wp2_with fail
   go_roundw
   case rel=>exact ⟨k+1,_,by omega,by go_num,H,by rw [HE.out,Qas];exact x1v hvs⟩
   case measure=>simp [intOf];omega
  ·obtain rfl:n=k:=by omega
   have htk:defs.take n=defs:=by rw [←HN.out];exact List.take_length
   rw [htk] at hvs;clear htk;rw [x4o hvs] at H
   go_wp2_with fail
   go_ret;exact ⟨_,_,rfl,H⟩
theorem q1d (v:Value) (D:TysD) (w0 w K:World) (M:List Ent) (H:Hp w0 w K M) (hv:Tp K v D) (hW:TyW D):
  Calls Tryz.prog 15 #[v] w fun e w'=>∃K' A' c',e= .returned (.slice A' D.types.length c')∧Sat K' K∧Hp w0 w' K' (.row 9 1 (.slice A' D.types.length c') D.types.length ((y0a D.types).map sv)::M):=by
 have hl:=q05 D.types;have hN:=hW.nT;go_enter Tryz.func15,Tryz.ntmps15;have hK:=Sat.refl K
 go_wp2_with (first
  |(go_at_call 64;refine (z9x _ D _ _ K M H hv).mono ?_;clear H;rintro e w5 ⟨K5,g5,rfl,hle,H,hT5⟩;replace hK:=hle.trans hK;obtain ⟨ga,gd,gf,go,sch,VT,VD,OB,T⟩:=hT5;have h17:=H.kcell T.a.box T.a.c17;obtain ⟨Aty,ct,hVT,-,-⟩:=y4e T.a.types;subst hVT)
  |(go_at_call 63;refine (x0a D.types D.types.length _ _ _ _ _ M H rfl T.a.types (by omega)).mono ?_;clear H;rintro e w6 ⟨A6,c6,rfl,H⟩))
 go_ret;exact ⟨_,_,_,rfl,hK,H⟩
theorem x0b (v:Value) (D:TysD) (w0 w K:World) (M:List Ent) (H:Hp w0 w K M) (hv:Tp K v D) (hW:TyW D):
  Calls Tryz.prog 16 #[v] w fun e w'=>∃K' A' c',e= .returned (.slice A' D.dirs.length c')∧Sat K' K∧Hp w0 w' K' (.row 9 1 (.slice A' D.dirs.length c') D.dirs.length ((y0a D.dirs).map sv)::M):=by
 have hl:=q05 D.dirs;have hN:=hW.nD;go_enter Tryz.func16,Tryz.ntmps16;have hK:=Sat.refl K
 go_wp2_with (first
  |(go_at_call 64;refine (z9x _ D _ _ K M H hv).mono ?_;clear H;rintro e w5 ⟨K5,g5,rfl,hle,H,hT5⟩;replace hK:=hle.trans hK;obtain ⟨ga,gd,gf,go,sch,VT,VD,OB,T⟩:=hT5;have h19:=H.kcell T.a.box T.a.c19;obtain ⟨Aty,ct,hVT,-,-⟩:=y4e T.a.dirs;subst hVT)
  |(go_at_call 63;refine (x0a D.dirs D.dirs.length _ _ _ _ _ M H rfl T.a.dirs (by omega)).mono ?_;clear H;rintro e w6 ⟨A6,c6,rfl,H⟩))
 go_ret;exact ⟨_,_,_,rfl,hK,H⟩
set_option maxHeartbeats 40000000
section
variable {w0 w K : World} {M : List Ent} {g : Nat}
theorem y8w {n c:Nat} {A:Option Addr} {l:List Txt} (H:Hp w0 w K (.row 9 1 (.slice A n c) n (l.map sv)::M)): ∃K',Sat K' K∧Hp w0 w K' M∧RD K' (.list n (y03 l)) (.slice A n c):=
 H.freezeRow (q0f l)
theorem q1e (v:Value) (D:TysD) (H:Hp w0 w K M) (hv:Tp K v D) (hW:TyW D):
  Calls Tryz.prog 15 #[v] w fun e w'=>∃K' A' c',e= .returned (.slice A' D.types.length c')∧Sat K' K∧Hp w0 w' K' M∧RD K' (.list D.types.length (y03 (y0a D.types))) (.slice A' D.types.length c'):=
 (q1d v D w0 w K M H hv hW).mono fun e w' ⟨K',A',c',he,hle,H⟩=>by
   obtain ⟨K2,hle2,H,hd⟩:=y8w H;exact ⟨K2,A',c',he,hle2.trans hle,H,hd⟩
theorem q7d (v:Value) (D:TysD) (H:Hp w0 w K M) (hv:Tp K v D) (hW:TyW D):
  Calls Tryz.prog 16 #[v] w fun e w'=>∃K' A' c',e= .returned (.slice A' D.dirs.length c')∧Sat K' K∧Hp w0 w' K' M∧RD K' (.list D.dirs.length (y03 (y0a D.dirs))) (.slice A' D.dirs.length c'):=
 (x0b v D w0 w K M H hv hW).mono fun e w' ⟨K',A',c',he,hle,H⟩=>by
   obtain ⟨K2,hle2,H,hd⟩:=y8w H;exact ⟨K2,A',c',he,hle2.trans hle,H,hd⟩
theorem x4p (v:Value) (D:TysD) {d:DefD} (H:Hp w0 w K M) (hv:Tp K v D) (hW:TyW D) (hD:D.schema=d):
  Calls Tryz.prog 18 #[v] w fun e w'=>∃K' cs,e= .returned (.agg cs)∧Sat K' K∧Hp w0 w' K' M∧RL K' (defL d) cs.toList:=
 (q5e v D d w0 w K M H hv hW hD).mono fun e w' ⟨K',v',he,hle,H,cs,hv,hd⟩=>⟨K',cs,by rw [he,hv],hle,H,hd⟩
end
theorem x2c (a b:Txt):str a++str b=str (a++b):=by
 apply ByteArray.ext;simp [str]
instance sli27b:Sli Tryz.prog 27 9 1 16:=⟨sli Tryz.underlying27 (z:=.string ⟨#[]⟩) (by kernel_rfl)⟩
instance sc24:Sc Tryz.prog 24:=⟨⟨_,Tryz.underlying24,rfl⟩⟩
section
variable {P : Program} {w0 w K K' : World} {M N : List Ent} {ops : Array Oper} {Q : Exit → Act → World → Prop} {F : List Nat} {fuel : Nat} {listed : Array Bool} {a a' : Act} {oi : Oper}
theorem rG (i:Nat) {f:FuncId} {xs:Array Value} {R:Ending→World→Prop} (hC:Calls P f xs w R) (h: ∀e w',R e w'→ ∃v a',e= .returned v∧a.put oi.dst v=a'∧Ov w0 K M w'∧AnyL P .any ops Q (Ov w0 K M) F fuel (listed.setIfInBounds i true) a' w') (hr:Region.ready .any ops listed=[i]:=by kernel_rfl)
  (hi:ops[i]?=some oi:=by (simp only [List.getElem?_toArray,List.getElem?_cons_zero,List.getElem?_cons_succ];try rfl)) (hrun:(execOp a.eval oi).run P w= .ok (.enter f xs) w:=by (go_simp;try with_reducible rfl)) (hw:Region.wanted oi (yielded ops a.tmps)=true:=by rfl):AnyL P .any ops Q (Ov w0 K M) F (fuel+1) listed a w:=
 held.step hr hi fun Kq hKq=>by
  rw [if_pos hw];unfold Oper.wp;rw [hrun,Oper.upon_enter];refine hC.mono fun e w' hR=>?_;obtain ⟨v,a',rfl,ha,hS,hW⟩:=h e w' hR;exact hKq.out _ _ (fun _=>hS) (fun _=>by rw [ha];exact hW)
end
section
variable {w0 w K : World} {M : List Ent}
theorem x0c {l:List Txt} {n c k:Nat} {A:Option Addr} (h:RD K (.list n (y03 l)) (.slice A n c)) (hk:k<l.length): ∃ad x,A=some ad∧l[k]?=some x∧At K (ad.add k) [.string (str x)]:=by
 obtain ⟨ad,vs,h1,h2,_,_,h5,h6⟩:=y74 (m:=1) (f:=fun x=>[str' x]) (fun _=>rfl) (textsL_flat l▸h) (Qad hk) (by omega);obtain ⟨r0,rfl,h0⟩:=h2.lit_inv;obtain rfl:=h0.nil_inv;rw [Nat.mul_one] at h5 h6;exact ⟨ad,_,h1,Qad hk,h5,h6⟩
theorem ptr_at {l:List Value} {n c k:Nat} {A:Option Addr} (h:RD K (.list n (l.flatMap fun v=>[Leaf.lit v])) (.slice A n c)) (hk:k<l.length): ∃ad x,A=some ad∧l[k]?=some x∧At K (ad.add k) [x]:=by
 obtain ⟨ad,vs,h1,h2,_,_,h5,h6⟩:=y74 (m:=1) (f:=fun v=>[Leaf.lit v]) (fun _=>rfl) h (Qad hk) (by omega);obtain ⟨r0,rfl,h0⟩:=h2.lit_inv;obtain rfl:=h0.nil_inv;rw [Nat.mul_one] at h5 h6;exact ⟨ad,_,h1,Qad hk,h5,h6⟩
end
theorem q83 {l:List DefD} {k:Nat} {d:DefD} (h:l[k]?=some d):defN d≤y0i l:=y6d (f:=defN) h
theorem look_N {ts:List DefD} {x:Txt} {d:DefD} (h:(y4c ts x).getD z7l=d) (hN:y0i ts≤8000000):defN d≤9000000:=by
 subst h
 cases hq:y4c ts x with
 |none=>simp only [Option.getD_none];exact Qa6 (by kernel_rfl)
 |some d=>
  obtain ⟨_,i,hi,_⟩:=x4n (show z2m ts x=some d from hq);have:=q83 hi;simp only [Option.getD_some];omega
section
variable {w0 w K : World} {M : List Ent} {g : Nat}
theorem y79 {l:List Txt} {n c1 c2:Nat} {A1 A2:Option Addr} (hl:l.length=n) (hn:n≤9000000) (h1:RD K (.list n (y03 l)) (.slice A1 n c1)) (h2:RD K (.list n (y03 l)) (.slice A2 n c2)) (H:Hp w0 w K M):
  Calls Tryz.prog 26 #[.slice A1 n c1,.slice A2 n c2] w fun e w'=>e= .returned (.bool true)∧Hp w0 w' K M:=by
 have HN:=hide hl;clear hl;go_enter Tryz.func26,Tryz.ntmps26
 go_wp2_with fail
 go_loopw [13] (fun i wr=>∃j:Nat,j≤n∧i= .int .i64 j∧Hp w0 wr K M) (fun i _=>n - (intOf i).toNat)
 case atStart=>exact ⟨0,Qak _,rfl,H⟩
 case round=>
  clear H;obtain ⟨j,hj,rfl,H⟩:=hrel;by_cases hlt:j<n
  ·obtain ⟨ad,x,rfl,hx,hat⟩:=x0c h1 (by rw [HN.out];exact hlt);obtain ⟨ad2,y,rfl,hy,hat2⟩:=x0c h2 (by rw [HN.out];exact hlt)
   obtain rfl:y=x:=by rw [hx] at hy;injection hy with hy;exact hy.symm
   obtain ⟨hjI,hwr⟩:=wr_k hlt hn;clear hx hy
   go_upto_region 6 with fail
   refine rB [] H ?_;clear H;intro w H;refine rT 0 H ?_;refine rT 1 H ?_;refine rT 2 H ?_;refine rT 3 H ?_;refine rT 4 H ?_;refine rT 5 H ?_;refine rT 6 H ?_;refine rT 7 H ?_;refine rT 8 H ?_;refine rE ?_
   go_wp2_with fail
   go_roundw
   case rel=>exact ⟨j+1,by omega,by go_num,H⟩
   case measure=>simp [intOf];omega
  ·obtain rfl:n=j:=by omega
   go_wp2_with fail
   go_ret;exact ⟨rfl,H⟩
end
end Go.Proofs.YtbpgkkoeehopjaaGreat.hp
namespace Go.Proofs.YtbpgkkoeehopjaaGreat.gram
open tree
set_option maxRecDepth 100000
def y7a (g:List Txt→Option (List Txt)):List (List Txt)→Option (List Txt)
 |[]=>some []
 |c::r=>match g c with
  |none=>none
  |some a=>match y7a g r with
   |none=>none
   |some b=>some (a++b)
def y6j (g:List Txt→Option (List Txt)) (nu:Txt→Option Bool) (R:List RuleD):List Txt→Option (List Txt)
 |[]=>some []
 |s::r=>
  if s=[]∨1000<s.length then none
  else if y2a s=true then
   match y7a g (y01 R s) with
   |none=>none
   |some F=>match nu s with
    |none=>none
    |some true=>(match y6j g nu R r with
     |none=>none
     |some G=>some (F++G))
    |some false=>some F
  else some [s]
def x4q (R:List RuleD) (nf:Nat):Nat→List Txt→Option (List Txt)
 |0,_=>none
 |f+1,l=>y6j (x4q R nf f) (z0g R nf) R l
def fits (F:List Txt) (t:TokD):Bool:=F.any fun s=>y0n s t
theorem z7r (F G:List Txt) (t:TokD):fits (F++G) t=(fits F t||fits G t):=by simp [fits]
theorem x0d {g:List Txt→Option (List Txt)} {b:List Txt→Option Bool} {t:TokD} (h: ∀l F,g l=some F→b l=some (fits F t)): ∀{cs:List (List Txt)} {F:List Txt},y7a g cs=some F→anyO b cs=some (fits F t)
 |[],F,hF=>by rw [y7a] at hF;injection hF with hF;subst hF;rfl
 |c::r,F,hF=>by
  rw [y7a] at hF
  cases hg:g c with
  |none=>rw [hg] at hF;cases hF
  |some a=>
   rw [hg] at hF
   cases hr:y7a g r with
   |none=>rw [hr] at hF;cases hF
   |some G=>
    rw [hr] at hF;injection hF with hF;subst hF;rw [anyO,h c a hg,z7r]
    cases fits a t with
    |true=>rfl
    |false=>exact x0d h hr
theorem z6e {g:List Txt→Option (List Txt)} {b:List Txt→Option Bool} {nu:Txt→Option Bool} {R:List RuleD} {t:TokD} (h: ∀l F,g l=some F→b l=some (fits F t)): ∀{l F:List Txt},y6j g nu R l=some F→y3b b nu R t l=some (fits F t)
 |[],F,hF=>by rw [y6j] at hF;injection hF with hF;subst hF;rfl
 |s::r,F,hF=>by
  rw [y6j] at hF;rw [y3b];by_cases h0:s=[]∨1000<s.length
  ·rw [if_pos h0] at hF;cases hF
  rw [if_neg h0] at hF ⊢
  cases hr:y2a s with
  |false=>
   rw [hr,if_neg (by decide)] at hF;rw [if_neg (by decide)];injection hF with hF;subst hF;simp [fits]
  |true=>
   rw [hr,if_pos rfl] at hF;rw [if_pos rfl]
   cases ha:y7a g (y01 R s) with
   |none=>rw [ha] at hF;cases hF
   |some G=>
    rw [ha] at hF;rw [x0d h ha]
    cases hz:nu s with
    |none=>rw [hz] at hF;cases hF
    |some z=>
     rw [hz] at hF
     cases z with
     |false=>
      injection hF with hF;subst hF
      cases fits G t<;>rfl
     |true=>
      simp only at hF
      cases hf:y6j g nu R r with
      |none=>rw [hf] at hF;cases hF
      |some H=>
       rw [hf] at hF;injection hF with hF;subst hF;rw [z7r]
       cases fits G t with
       |true=>rfl
       |false=>exact z6e h hf
theorem x0e {R:List RuleD} {nf:Nat} {t:TokD}: ∀{f:Nat} {l F:List Txt},x4q R nf f l=some F→begF R nf t f l=some (fits F t)
 |0,l,F,h=>by cases h
 |f+1,l,F,h=>z6e (fun l F h=>x0e h) h
def x2d (R:List RuleD) (nf bf:Nat):List (List Txt)→Option (List (List Txt×List Txt))
 |[]=>some []
 |c::r=>match x4q R nf bf c with
  |none=>none
  |some F=>match x2d R nf bf r with
   |none=>none
   |some T=>some ((F,c)::T)
def pick (t:TokD):List (List Txt×List Txt)→Option (List Txt)
 |[]=>none
 |(F,c)::r=>if fits F t=true then some c else pick t r
theorem x4r {R:List RuleD} {nf bf:Nat} {t:TokD}: ∀{cs:List (List Txt)} {T:List (List Txt×List Txt)},x2d R nf bf cs=some T→choF (begF R nf t bf) cs=some (pick t T)
 |[],T,h=>by rw [x2d] at h;injection h with h;subst h;rfl
 |c::r,T,h=>by
  rw [x2d] at h
  cases hf:x4q R nf bf c with
  |none=>rw [hf] at h;cases h
  |some F=>
   rw [hf] at h
   cases hr:x2d R nf bf r with
   |none=>rw [hr] at h;cases h
   |some U=>
    rw [hr] at h;injection h with h;subst h;rw [choF,x0e hf,pick]
    cases fits F t with
    |true=>rfl
    |false=>exact x4r hr
def tabF (R:List RuleD) (nf bf:Nat) (s:Txt):Option (List (List Txt×List Txt)×Bool):=
 match x2d R nf bf (y01 R s) with
 |none=>none
 |some T=>match z0g R nf s with
  |none=>none
  |some z=>some (T,z)
theorem y8x {R:List RuleD} {nf bf:Nat} {t:TokD} {s:Txt} {T:List (List Txt×List Txt)} {z:Bool} (h:tabF R nf bf s=some (T,z)):y5g R nf bf t s=some (match pick t T with|some c=>(c,true)|none=>([],z)):=by
 unfold tabF at h
 cases hr:x2d R nf bf (y01 R s) with
 |none=>rw [hr] at h;cases h
 |some U=>
  rw [hr] at h
  cases hz:z0g R nf s with
  |none=>rw [hz] at h;cases h
  |some y=>
   rw [hz] at h;injection h with h;injection h with h1 h2;subst h1 h2;unfold y5g;rw [x4r hr]
   cases pick t U with
   |none=>simp only [hz]
   |some c=>rfl
abbrev nfG:Nat:=40
abbrev bfG:Nat:=40
def tabG (s:Txt):Option (List (List Txt×List Txt)×Bool):=tabF rulesG nfG bfG s
def q84 (R:List RuleD):Nat→Txt→Nat
 |0,_=>0
 |f+1,s=>if y2a s=true then ((y01 R s).map fun c=>match c with|[]=>0|x::_=>q84 R f x).foldl max 0+1 else 0
def rank (s:Txt):Nat:=q84 rulesG 40 s
def y4y (s:Txt):List Txt:=if y2a s=true then (match tabG s with
 |some (T,_)=>T.flatMap (·.1)
 |none=>[]) else [s]
def z0u (s:Txt):Bool:=decide (s≠[])&&decide (s.length≤1000)&&(!y2a s||(rulesG.any fun r=>decide (r.name=s)))
abbrev endT:Txt:=[46,101,110,100]
def x7g (s:Txt) (p:List Txt×List Txt):Bool:=match p.2 with
 |[]=>p.1.isEmpty
 |x::r=>decide (r.length≤11)&&(x::r).all z0u&&decide (p.1=y4y x)&&decide (rank x<rank s)&&decide (endT∉p.1)
def tabOk (s:Txt):Bool:=match tabG s with
 |some (T,_)=>T.all (x7g s)
 |none=>false
theorem tab_ok: ∀r∈rulesG,(tabOk r.name&&decide (rank r.name≤12))=true:=by decide+kernel
theorem z7s {s:Txt} (h:z0u s=true) (hr:y2a s=true):(∃T z,tabG s=some (T,z)∧ ∀p∈T,x7g s p=true)∧rank s≤12:=by
 unfold z0u at h;rw [hr] at h;simp only [Bool.not_true,Bool.false_or,Qao,Qbh,decide_eq_true_eq] at h;obtain ⟨_,r,hm,rfl⟩:=h;have h1:=tab_ok r hm;simp only [Qao,decide_eq_true_eq] at h1;refine ⟨?_,h1.2⟩;have h2:=h1.1;unfold tabOk at h2
 cases ht:tabG r.name with
 |none=>rw [ht] at h2;cases h2
 |some p=>
  obtain ⟨T,z⟩:=p;rw [ht] at h2;exact ⟨T,z,rfl,Qbi.1 h2⟩
theorem z6f {s:Txt} (h:z0u s=true): ¬(s=[]∨1000<s.length):=by
 unfold z0u at h;simp only [Qao,decide_eq_true_eq] at h;rintro (h0|h0)
 ·exact h.1.1 h0
 ·have:=h.1.2;omega
theorem x0f {s:Txt} (h:y2a s=false):rank s=0:=by
 unfold rank q84;rw [h,if_neg (by decide)]
theorem z4l {s:Txt} {t:TokD} (h:y0n s t=true):t.kind≠1∧(s≠endT→t.kind≠0):=by
 unfold y0n at h;split at h
 ·have:t.kind=3:=by simpa using h
  omega
 split at h
 ·simp only [Qao] at h
  have:t.kind=3:=by simpa using h.1
  omega
 split at h
 ·simp only [Qao] at h
  have:t.kind=3:=by simpa using h.1
  omega
 split at h
 ·simp only [Qao] at h
  have:t.kind=3:=by simpa using h.1
  omega
 split at h
 ·simp only [Bool.or_eq_true] at h;rcases h with h|h
  ·have:t.kind=6:=by simpa using h
   omega
  ·have:t.kind=7:=by simpa using h
   omega
 split at h
 ·simp only [Bool.or_eq_true] at h;rcases h with h|h
  ·have:t.kind=4:=by simpa using h
   omega
  ·have:t.kind=5:=by simpa using h
   omega
 split at h
 ·rename_i he
  have:t.kind=0:=by simpa using h
  exact ⟨by omega,fun h=>absurd he h⟩
 cases s with
 |nil=>cases h
 |cons c r=>
  simp only at h;split at h
  ·simp only [Qao] at h
   have:t.kind=3:=by simpa using h.1
   omega
  ·simp only [Qao] at h
   have:t.kind=2:=by simpa using h.1
   omega
theorem y3j {F:List Txt} {t:TokD} (h:fits F t=true) (hn:endT∉F):t.kind≠0:=by
 unfold fits at h;obtain ⟨s,hs,hf⟩:=Qbh.1 h;exact (z4l hf).2 (fun e=>hn (e▸hs))
theorem x0g {t:TokD} {c:List Txt}: ∀{T:List (List Txt×List Txt)},pick t T=some c→ ∃F,(F,c)∈T∧fits F t=true
 |[],h=>by cases h
 |(F,d)::r,h=>by
  rw [pick] at h;split at h
  ·rename_i hf;injection h with h;subst h;exact ⟨F,Qaz ..,hf⟩
  ·obtain ⟨G,hm,hG⟩:=x0g h;exact ⟨G,Qa2 _ hm,hG⟩
theorem x0h {t:TokD}: ∀{T:List (List Txt×List Txt)},pick t T=none→fits (T.flatMap (·.1)) t=false
 |[],h=>rfl
 |(F,d)::r,h=>by
  rw [pick] at h;split at h
  ·cases h
  ·rename_i hf;rw [List.flatMap_cons,z7r,x0h h];simpa using hf
theorem q5l {t:TokD} {F G:List Txt} (h:fits F t=true) (hs: ∀x∈F,x∈G):fits G t=true:=by
 unfold fits at h ⊢;obtain ⟨s,hm,hf⟩:=Qbh.1 h;exact Qbh.2 ⟨s,hs s hm,hf⟩
structure TokE (toks:List TokD):Prop where
 ends: ∀k t,toks[k]?=some t→((t.kind=0∨t.kind=1)↔k+1=toks.length)
def sure (t:TokD) (s:Txt):Bool:=fits (y4y s) t&&(t.kind !=0)
def phi (toks:List TokD) (st:List Txt) (k:Nat):Nat:=match st,toks[k]? with
 |s::r,some t=>if sure t s=true then (s::r).length+200*(toks.length - k - 1)+12*rank s else (s::r).length+200*(toks.length - k)
 |_,_=>200*(toks.length - k)
theorem x4s {toks:List TokD} {st:List Txt} {k:Nat} (hok: ∀s∈st,z0u s=true) (hk:k<toks.length):phi toks st k≤st.length+200*(toks.length - k):=by
 unfold phi;split
 ·rename_i s r t ht;split
  ·have hr:rank s≤12:=by
    cases hr:y2a s with
    |true=>exact (z7s (hok s (Qaz ..)) hr).2
    |false=>rw [x0f hr];omega
   omega
  ·omega
 ·omega
theorem z0v (toks:List TokD) (depth:Int) (hE:TokE toks): ∀(f:Nat) (st:List Txt) (k:Nat) (op:Int),k<toks.length→(∀s∈st,z0u s=true)→phi toks st k<f→f≤900000000→ ∃r,runF rulesG nfG bfG toks depth f st k op=some r
 |0,st,k,op,hk,hok,hp,hf=>by omega
 |f+1,[],k,op,hk,hok,hp,hf=>⟨_,rfl⟩
 |f+1,s::r,k,op,hk,hok,hp,hf=>by
  obtain ⟨t,ht⟩: ∃t,toks[k]?=some t:=⟨_,Qad hk⟩;have hs:=hok s (Qaz ..);have hrest: ∀x∈r,z0u x=true:=fun x hx=>hok x (Qa2 _ hx)
  have hp0:phi toks (s::r) k=if sure t s=true then (s::r).length+200*(toks.length - k - 1)+12*rank s else (s::r).length+200*(toks.length - k):=by unfold phi;simp only [ht]
  rw [hp0] at hp;rw [runF,ht];simp only;rw [if_neg (z6f hs)]
  cases hr:y2a s with
  |true=>
   rw [if_pos rfl];obtain ⟨⟨T,z,hT,hall⟩,hrk⟩:=z7s hs hr
   have hfs:y4y s=T.flatMap (·.1):=by unfold y4y;rw [hr,if_pos rfl,hT]
   rw [y8x hT]
   cases hpk:pick t T with
   |none=>
    have hns:sure t s=false:=by unfold sure;rw [hfs,x0h hpk];rfl
    rw [hns,if_neg (by decide)] at hp
    cases z with
    |false=>exact ⟨_,rfl⟩
    |true=>
     simp only [List.nil_append,List.length_nil];have h1:=x4s hrest hk;simp only [List.length_cons] at hp;rw [if_neg (by omega)];exact z0v toks depth hE f r k op hk hrest (by omega) (by omega)
   |some c=>
    obtain ⟨F,hm,hF⟩:=x0g hpk;have hro:=hall _ hm;unfold x7g at hro
    cases c with
    |nil=>
     simp only [List.isEmpty_iff] at hro;subst hro;cases hF
    |cons x c=>
     simp only [Qao,decide_eq_true_eq,Qbi] at hro;obtain ⟨⟨⟨⟨h1,h2⟩,h3⟩,h4⟩,h5⟩:=hro;have hk0:=y3j hF h5
     have hsu:sure t s=true:=by
      unfold sure;rw [hfs,q5l hF (fun y hy=>List.mem_flatMap.2 ⟨_,hm,hy⟩)];simpa using hk0
     have hsx:sure t x=true:=by
      unfold sure;rw [←h3,hF];simpa using hk0
     rw [hsu,if_pos rfl] at hp;simp only [List.length_cons] at hp;simp only [List.length_cons]
     have hpx:phi toks (x::c++r) k=(x::c++r).length+200*(toks.length - k - 1)+12*rank x:=by
      unfold phi;simp only [ht,List.cons_append];rw [hsx,if_pos rfl]
     have hl:(x::c++r).length=c.length+1+r.length:=by simp;omega
     rw [if_neg (by omega)];refine z0v toks depth hE f (x::c++r) k op hk ?_ (by omega) (by omega);intro y hy;rcases Qbf.1 hy with hy|hy
     ·exact h2 y hy
     ·exact hrest y hy
  |false=>
   rw [if_neg (by decide)]
   cases hft:y0n s t with
   |false=>exact ⟨_,rfl⟩
   |true=>
    rw [if_neg (by decide)];by_cases hb:y06 s=1∧depth≤op
    ·rw [if_pos hb];exact ⟨_,rfl⟩
    rw [if_neg hb]
    have hfs:y4y s=[s]:=by unfold y4y;rw [hr,if_neg (by decide)]
    have hk1:=(z4l hft).1;by_cases h0:t.kind=0
    ·have hl:=(hE.ends k t ht).1 (.inl h0)
     have hns:sure t s=false:=by unfold sure;rw [h0];simp
     rw [hns,if_neg (by decide)] at hp;simp only [List.length_cons] at hp;rw [if_neg (by omega)];have h1:=x4s hrest hk;exact z0v toks depth hE f r k _ hk hrest (by omega) (by omega)
    ·have hl: ¬k+1=toks.length:=fun e=>by have:=(hE.ends k t ht).2 e;omega
     have hsu:sure t s=true:=by
      unfold sure;rw [hfs];simp only [fits,List.any_cons,List.any_nil,hft,Bool.or_false,Bool.true_and];simpa using h0
     rw [hsu,if_pos rfl,x0f hr] at hp;simp only [List.length_cons] at hp
     have hk2:k+1<toks.length:=by omega
     rw [if_pos hk2];have h1:=x4s hrest hk2;exact z0v toks depth hE f r (k+1) _ hk2 hrest (by omega) (by omega)
def Runs (toks:List TokD) (n:Nat) (st:List Txt) (k:Nat) (op:Int):Prop:=runF rulesG nfG bfG toks 200 n st k op=some (0,0,0)
def Alt:List (List Txt×List Txt)→Bool→TokD→(List Txt→Prop)→Prop
 |[],true,_,P=>P []
 |[],false,_,_=>False
 |(F,c)::r,z,t,P=>(fits F t=true∧P c)∨(fits F t=false∧Alt r z t P)
theorem x4t {t:TokD} {P:List Txt→Prop} {z:Bool}: ∀{T:List (List Txt×List Txt)},(∀c,pick t T=some c→P c)→(pick t T=none→z=true∧P [])→Alt T z t P
 |[],h1,h2=>by
  obtain ⟨rfl,h⟩:=h2 rfl;exact h
 |(F,c)::r,h1,h2=>by
  cases hf:fits F t with
  |true=>exact .inl ⟨hf,h1 c (by rw [pick,if_pos hf])⟩
  |false=>
   have he:pick t ((F,c)::r)=pick t r:=by rw [pick,if_neg (by rw [hf];decide)]
   rw [he] at h1 h2;exact .inr ⟨hf,x4t h1 h2⟩
theorem Runs.rule {toks:List TokD} {n k:Nat} {s:Txt} {rest:List Txt} {op:Int} {T:List (List Txt×List Txt)} {z:Bool} (h:Runs toks n (s::rest) k op) (hT:tabG s=some (T,z)) (hs:(decide (s≠[])&&decide (s.length≤1000)&&y2a s)=true):
  ∃m t,n=m+1∧toks[k]?=some t∧Alt T z t (fun c=>Runs toks m (c++rest) k op):=by
 simp only [Qao,decide_eq_true_eq] at hs;unfold Runs at h
 cases n with
 |zero=>cases h
 |succ m=>
  rw [runF] at h
  cases ht:toks[k]? with
  |none=>rw [ht] at h;cases h
  |some t=>
   rw [ht] at h;simp only at h;rw [if_neg (by rintro (h0|h0);exact hs.1.1 h0;have:=hs.1.2;omega),hs.2,if_pos rfl,y8x hT] at h;refine ⟨m,t,rfl,rfl,x4t ?_ ?_⟩
   ·intro c hc;rw [hc] at h;simp only at h;split at h
    ·cases h
    ·exact h
   ·intro hc;rw [hc] at h
    cases z with
    |false=>simp at h
    |true=>
     simp only at h;split at h
     ·cases h
     ·exact ⟨rfl,h⟩
abbrev nDOC:Txt:=[68,79,67]
abbrev y26:Txt:=[68,69,70,83]
abbrev nDEF:Txt:=[68,69,70]
abbrev x2e:Txt:=[66,79,68,89]
abbrev x0i:Txt:=[88,66,79,68,89]
abbrev z2w:Txt:=[88,83,67,72,69,77,65]
abbrev y9r:Txt:=[82,79,79,84,83,48]
abbrev y6k:Txt:=[82,79,79,84,83]
abbrev z4m:Txt:=[82,79,79,84,76]
abbrev x0j:Txt:=[82,79,79,84]
abbrev y44:Txt:=[88,79,66,74,69,67,84]
abbrev y5z:Txt:=[73,70,65,67,69,83]
abbrev y7b:Txt:=[73,70,65,67,69,83,49]
abbrev nAMP:Txt:=[65,77,80]
abbrev y9s:Txt:=[73,70,65,67,69,76]
abbrev y3t:Txt:=[70,73,69,76,68,83]
abbrev y7c:Txt:=[70,73,69,76,68,83,49]
abbrev y9t:Txt:=[70,73,69,76,68,76]
abbrev z2d:Txt:=[70,73,69,76,68]
abbrev y9u:Txt:=[70,73,69,76,68,48]
abbrev y8a:Txt:=[73,78,80,85,84,83]
abbrev y50:Txt:=[86,65,76,85,69,76]
abbrev y9d:Txt:=[86,65,76,85,69]
abbrev y9v:Txt:=[86,65,76,85,69,48]
abbrev z2x:Txt:=[68,69,70,65,85,76,84]
abbrev y45:Txt:=[77,69,77,66,69,82,83]
abbrev y5o:Txt:=[77,69,77,66,69,82,83,49]
abbrev y7d:Txt:=[77,69,77,66,69,82,76]
abbrev nBAR:Txt:=[66,65,82]
abbrev z1u:Txt:=[88,85,78,73,79,78]
abbrev z0w:Txt:=[67,65,83,69,83]
abbrev y9w:Txt:=[67,65,83,69,83,49]
abbrev z4n:Txt:=[67,65,83,69,76]
abbrev x0k:Txt:=[67,65,83,69]
abbrev z4o:Txt:=[67,65,83,69,48]
abbrev z6g:Txt:=[88,69,78,85,77]
abbrev y7e:Txt:=[66,76,65,78,75,83]
abbrev y7f:Txt:=[66,76,65,78,75,83,49]
abbrev z1v:Txt:=[88,73,78,80,85,84]
abbrev z4p:Txt:=[82,69,80,69,65,84]
abbrev y51:Txt:=[80,76,65,67,69,83]
abbrev y08:Txt:=[68,73,82,83]
abbrev nDIR:Txt:=[68,73,82]
abbrev q1f:Txt:=[65,82,71,83]
abbrev x0l:Txt:=[65,82,71,76]
abbrev nARG:Txt:=[65,82,71]
abbrev nLIT:Txt:=[76,73,84]
abbrev x2f:Txt:=[76,73,84,76]
abbrev x2g:Txt:=[79,66,74,76]
abbrev z7t:Txt:=[84,89,80,69]
abbrev x0m:Txt:=[84,89,80,69,48]
abbrev x7h:Txt:=[66,65,78,71]
theorem q1g:tabG nDOC=some ([([[46,115,116,114],[39,115,99,104,101,109,97],[39,115,99,97,108,97,114],[39,116,121,112,101],[39,105,110,116,101,114,102,97,99,101],[39,117,110,105,111,110],[39,101,110,117,109],[39,105,110,112,117,116],[39,100,105,114,101,99,116,105,118,101],[39,101,120,116,101,110,100]],[nDEF,y26,[46,101,110,100]])],false):=by kernel_rfl
theorem q7e {toks:List TokD} {n k:Nat} {rest:List Txt} {op:Int} (h:Runs toks n (nDOC::rest) k op): ∃m t,n=m+1∧toks[k]?=some t∧((fits [[46,115,116,114],[39,115,99,104,101,109,97],[39,115,99,97,108,97,114],[39,116,121,112,101],[39,105,110,116,101,114,102,97,99,101],[39,117,110,105,111,110],[39,101,110,117,109],[39,105,110,112,117,116],[39,100,105,114,101,99,116,105,118,101],[39,101,120,116,101,110,100]] t=true∧Runs toks m (nDEF::y26::[46,101,110,100]::rest) k op)∨(fits [[46,115,116,114],[39,115,99,104,101,109,97],[39,115,99,97,108,97,114],[39,116,121,112,101],[39,105,110,116,101,114,102,97,99,101],[39,117,110,105,111,110],[39,101,110,117,109],[39,105,110,112,117,116],[39,100,105,114,101,99,116,105,118,101],[39,101,120,116,101,110,100]] t=false∧(False))):=h.rule q1g (by decide+kernel)
theorem z2y:tabG y26=some ([([[46,115,116,114],[39,115,99,104,101,109,97],[39,115,99,97,108,97,114],[39,116,121,112,101],[39,105,110,116,101,114,102,97,99,101],[39,117,110,105,111,110],[39,101,110,117,109],[39,105,110,112,117,116],[39,100,105,114,101,99,116,105,118,101],[39,101,120,116,101,110,100]],[nDEF,y26]),([],[])],true):=by kernel_rfl
theorem x2h {toks:List TokD} {n k:Nat} {rest:List Txt} {op:Int} (h:Runs toks n (y26::rest) k op): ∃m t,n=m+1∧toks[k]?=some t∧((fits [[46,115,116,114],[39,115,99,104,101,109,97],[39,115,99,97,108,97,114],[39,116,121,112,101],[39,105,110,116,101,114,102,97,99,101],[39,117,110,105,111,110],[39,101,110,117,109],[39,105,110,112,117,116],[39,100,105,114,101,99,116,105,118,101],[39,101,120,116,101,110,100]] t=true∧Runs toks m (nDEF::y26::rest) k op)∨(fits [[46,115,116,114],[39,115,99,104,101,109,97],[39,115,99,97,108,97,114],[39,116,121,112,101],[39,105,110,116,101,114,102,97,99,101],[39,117,110,105,111,110],[39,101,110,117,109],[39,105,110,112,117,116],[39,100,105,114,101,99,116,105,118,101],[39,101,120,116,101,110,100]] t=false∧((fits [] t=true∧Runs toks m (rest) k op)∨(fits [] t=false∧(Runs toks m rest k op))))):=h.rule z2y (by decide+kernel)
theorem q85:tabG nDEF=some ([([[46,115,116,114]],[[46,115,116,114],x2e]),([[39,115,99,104,101,109,97],[39,115,99,97,108,97,114],[39,116,121,112,101],[39,105,110,116,101,114,102,97,99,101],[39,117,110,105,111,110],[39,101,110,117,109],[39,105,110,112,117,116],[39,100,105,114,101,99,116,105,118,101]],[x2e]),([[39,101,120,116,101,110,100]],[[39,101,120,116,101,110,100],x0i])],false):=by kernel_rfl
theorem q7f {toks:List TokD} {n k:Nat} {rest:List Txt} {op:Int} (h:Runs toks n (nDEF::rest) k op): ∃m t,n=m+1∧toks[k]?=some t∧((fits [[46,115,116,114]] t=true∧Runs toks m ([46,115,116,114]::x2e::rest) k op)∨(fits [[46,115,116,114]] t=false∧((fits [[39,115,99,104,101,109,97],[39,115,99,97,108,97,114],[39,116,121,112,101],[39,105,110,116,101,114,102,97,99,101],[39,117,110,105,111,110],[39,101,110,117,109],[39,105,110,112,117,116],[39,100,105,114,101,99,116,105,118,101]] t=true∧Runs toks m (x2e::rest) k op)∨(fits [[39,115,99,104,101,109,97],[39,115,99,97,108,97,114],[39,116,121,112,101],[39,105,110,116,101,114,102,97,99,101],[39,117,110,105,111,110],[39,101,110,117,109],[39,105,110,112,117,116],[39,100,105,114,101,99,116,105,118,101]] t=false∧((fits [[39,101,120,116,101,110,100]] t=true∧Runs toks m ([39,101,120,116,101,110,100]::x0i::rest) k op)∨(fits [[39,101,120,116,101,110,100]] t=false∧(False))))))):=h.rule q85 (by decide+kernel)
theorem q5m:tabG x2e=some ([([[39,115,99,104,101,109,97]],[[39,115,99,104,101,109,97],y08,y6k]),([[39,115,99,97,108,97,114]],[[39,115,99,97,108,97,114],[46,110,97,109,101],y08]),([[39,116,121,112,101]],[[39,116,121,112,101],[46,110,97,109,101],y5z,y08,y3t]),([[39,105,110,116,101,114,102,97,99,101]],[[39,105,110,116,101,114,102,97,99,101],[46,110,97,109,101],y5z,y08,y3t]),([[39,117,110,105,111,110]],[[39,117,110,105,111,110],[46,110,97,109,101],y08,y45]),([[39,101,110,117,109]],[[39,101,110,117,109],[46,110,97,109,101],y08,z0w]),([[39,105,110,112,117,116]],[[39,105,110,112,117,116],[46,110,97,109,101],y08,y7e]),([[39,100,105,114,101,99,116,105,118,101]],[[39,100,105,114,101,99,116,105,118,101],[64],[46,110,97,109,101],y8a,z4p,[39,111,110],nBAR,[46,112,108,97,99,101],y51])],false):=by kernel_rfl
theorem q86 {toks:List TokD} {n k:Nat} {rest:List Txt} {op:Int} (h:Runs toks n (x2e::rest) k op): ∃m t,n=m+1∧toks[k]?=some t∧((fits [[39,115,99,104,101,109,97]] t=true∧Runs toks m ([39,115,99,104,101,109,97]::y08::y6k::rest) k op)∨(fits [[39,115,99,104,101,109,97]] t=false∧((fits [[39,115,99,97,108,97,114]] t=true∧Runs toks m ([39,115,99,97,108,97,114]::[46,110,97,109,101]::y08::rest) k op)∨(fits [[39,115,99,97,108,97,114]] t=false∧((fits [[39,116,121,112,101]] t=true∧Runs toks m ([39,116,121,112,101]::[46,110,97,109,101]::y5z::y08::y3t::rest) k op)∨(fits [[39,116,121,112,101]] t=false∧((fits [[39,105,110,116,101,114,102,97,99,101]] t=true∧Runs toks m ([39,105,110,116,101,114,102,97,99,101]::[46,110,97,109,101]::y5z::y08::y3t::rest) k op)∨(fits [[39,105,110,116,101,114,102,97,99,101]] t=false∧((fits [[39,117,110,105,111,110]] t=true∧Runs toks m ([39,117,110,105,111,110]::[46,110,97,109,101]::y08::y45::rest) k op)∨(fits [[39,117,110,105,111,110]] t=false∧((fits [[39,101,110,117,109]] t=true∧Runs toks m ([39,101,110,117,109]::[46,110,97,109,101]::y08::z0w::rest) k op)∨(fits [[39,101,110,117,109]] t=false∧((fits [[39,105,110,112,117,116]] t=true∧Runs toks m ([39,105,110,112,117,116]::[46,110,97,109,101]::y08::y7e::rest) k op)∨(fits [[39,105,110,112,117,116]] t=false∧((fits [[39,100,105,114,101,99,116,105,118,101]] t=true∧Runs toks m ([39,100,105,114,101,99,116,105,118,101]::[64]::[46,110,97,109,101]::y8a::z4p::[39,111,110]::nBAR::[46,112,108,97,99,101]::y51::rest) k op)∨(fits [[39,100,105,114,101,99,116,105,118,101]] t=false∧(False))))))))))))))))):=h.rule q5m (by decide+kernel)
theorem q1h:tabG x0i=some ([([[39,115,99,104,101,109,97]],[[39,115,99,104,101,109,97],z2w]),([[39,115,99,97,108,97,114]],[[39,115,99,97,108,97,114],[46,110,97,109,101],nDIR,y08]),([[39,116,121,112,101]],[[39,116,121,112,101],[46,110,97,109,101],y44]),([[39,105,110,116,101,114,102,97,99,101]],[[39,105,110,116,101,114,102,97,99,101],[46,110,97,109,101],y44]),([[39,117,110,105,111,110]],[[39,117,110,105,111,110],[46,110,97,109,101],z1u]),([[39,101,110,117,109]],[[39,101,110,117,109],[46,110,97,109,101],z6g]),([[39,105,110,112,117,116]],[[39,105,110,112,117,116],[46,110,97,109,101],z1v])],false):=by kernel_rfl
theorem x4u {toks:List TokD} {n k:Nat} {rest:List Txt} {op:Int} (h:Runs toks n (x0i::rest) k op): ∃m t,n=m+1∧toks[k]?=some t∧((fits [[39,115,99,104,101,109,97]] t=true∧Runs toks m ([39,115,99,104,101,109,97]::z2w::rest) k op)∨(fits [[39,115,99,104,101,109,97]] t=false∧((fits [[39,115,99,97,108,97,114]] t=true∧Runs toks m ([39,115,99,97,108,97,114]::[46,110,97,109,101]::nDIR::y08::rest) k op)∨(fits [[39,115,99,97,108,97,114]] t=false∧((fits [[39,116,121,112,101]] t=true∧Runs toks m ([39,116,121,112,101]::[46,110,97,109,101]::y44::rest) k op)∨(fits [[39,116,121,112,101]] t=false∧((fits [[39,105,110,116,101,114,102,97,99,101]] t=true∧Runs toks m ([39,105,110,116,101,114,102,97,99,101]::[46,110,97,109,101]::y44::rest) k op)∨(fits [[39,105,110,116,101,114,102,97,99,101]] t=false∧((fits [[39,117,110,105,111,110]] t=true∧Runs toks m ([39,117,110,105,111,110]::[46,110,97,109,101]::z1u::rest) k op)∨(fits [[39,117,110,105,111,110]] t=false∧((fits [[39,101,110,117,109]] t=true∧Runs toks m ([39,101,110,117,109]::[46,110,97,109,101]::z6g::rest) k op)∨(fits [[39,101,110,117,109]] t=false∧((fits [[39,105,110,112,117,116]] t=true∧Runs toks m ([39,105,110,112,117,116]::[46,110,97,109,101]::z1v::rest) k op)∨(fits [[39,105,110,112,117,116]] t=false∧(False))))))))))))))):=h.rule q1h (by decide+kernel)
theorem x2i:tabG z2w=some ([([[64]],[nDIR,y08,y9r]),([[123]],[y6k])],false):=by kernel_rfl
theorem x7i {toks:List TokD} {n k:Nat} {rest:List Txt} {op:Int} (h:Runs toks n (z2w::rest) k op): ∃m t,n=m+1∧toks[k]?=some t∧((fits [[64]] t=true∧Runs toks m (nDIR::y08::y9r::rest) k op)∨(fits [[64]] t=false∧((fits [[123]] t=true∧Runs toks m (y6k::rest) k op)∨(fits [[123]] t=false∧(False))))):=h.rule x2i (by decide+kernel)
theorem x7j:tabG y9r=some ([([[123]],[y6k]),([],[])],true):=by kernel_rfl
theorem q1i {toks:List TokD} {n k:Nat} {rest:List Txt} {op:Int} (h:Runs toks n (y9r::rest) k op): ∃m t,n=m+1∧toks[k]?=some t∧((fits [[123]] t=true∧Runs toks m (y6k::rest) k op)∨(fits [[123]] t=false∧((fits [] t=true∧Runs toks m (rest) k op)∨(fits [] t=false∧(Runs toks m rest k op))))):=h.rule x7j (by decide+kernel)
theorem q1j:tabG y6k=some ([([[123]],[[123],x0j,z4m,[125]])],false):=by kernel_rfl
theorem x4v {toks:List TokD} {n k:Nat} {rest:List Txt} {op:Int} (h:Runs toks n (y6k::rest) k op): ∃m t,n=m+1∧toks[k]?=some t∧((fits [[123]] t=true∧Runs toks m ([123]::x0j::z4m::[125]::rest) k op)∨(fits [[123]] t=false∧(False))):=h.rule q1j (by decide+kernel)
theorem q1k:tabG z4m=some ([([[46,114,111,111,116]],[x0j,z4m]),([],[])],true):=by kernel_rfl
theorem q5n {toks:List TokD} {n k:Nat} {rest:List Txt} {op:Int} (h:Runs toks n (z4m::rest) k op): ∃m t,n=m+1∧toks[k]?=some t∧((fits [[46,114,111,111,116]] t=true∧Runs toks m (x0j::z4m::rest) k op)∨(fits [[46,114,111,111,116]] t=false∧((fits [] t=true∧Runs toks m (rest) k op)∨(fits [] t=false∧(Runs toks m rest k op))))):=h.rule q1k (by decide+kernel)
theorem q5o:tabG x0j=some ([([[46,114,111,111,116]],[[46,114,111,111,116],[58],[46,110,97,109,101]])],false):=by kernel_rfl
theorem q1l {toks:List TokD} {n k:Nat} {rest:List Txt} {op:Int} (h:Runs toks n (x0j::rest) k op): ∃m t,n=m+1∧toks[k]?=some t∧((fits [[46,114,111,111,116]] t=true∧Runs toks m ([46,114,111,111,116]::[58]::[46,110,97,109,101]::rest) k op)∨(fits [[46,114,111,111,116]] t=false∧(False))):=h.rule q5o (by decide+kernel)
theorem x2j:tabG y44=some ([([[39,105,109,112,108,101,109,101,110,116,115]],[y7b,y08,y3t]),([[64]],[nDIR,y08,y3t]),([[123]],[y7c])],false):=by kernel_rfl
theorem x7k {toks:List TokD} {n k:Nat} {rest:List Txt} {op:Int} (h:Runs toks n (y44::rest) k op): ∃m t,n=m+1∧toks[k]?=some t∧((fits [[39,105,109,112,108,101,109,101,110,116,115]] t=true∧Runs toks m (y7b::y08::y3t::rest) k op)∨(fits [[39,105,109,112,108,101,109,101,110,116,115]] t=false∧((fits [[64]] t=true∧Runs toks m (nDIR::y08::y3t::rest) k op)∨(fits [[64]] t=false∧((fits [[123]] t=true∧Runs toks m (y7c::rest) k op)∨(fits [[123]] t=false∧(False))))))):=h.rule x2j (by decide+kernel)
theorem x7l:tabG y5z=some ([([[39,105,109,112,108,101,109,101,110,116,115]],[y7b]),([],[])],true):=by kernel_rfl
theorem q1m {toks:List TokD} {n k:Nat} {rest:List Txt} {op:Int} (h:Runs toks n (y5z::rest) k op): ∃m t,n=m+1∧toks[k]?=some t∧((fits [[39,105,109,112,108,101,109,101,110,116,115]] t=true∧Runs toks m (y7b::rest) k op)∨(fits [[39,105,109,112,108,101,109,101,110,116,115]] t=false∧((fits [] t=true∧Runs toks m (rest) k op)∨(fits [] t=false∧(Runs toks m rest k op))))):=h.rule x7l (by decide+kernel)
theorem x2k:tabG y7b=some ([([[39,105,109,112,108,101,109,101,110,116,115]],[[39,105,109,112,108,101,109,101,110,116,115],nAMP,[46,110,97,109,101],y9s])],false):=by kernel_rfl
theorem x7m {toks:List TokD} {n k:Nat} {rest:List Txt} {op:Int} (h:Runs toks n (y7b::rest) k op): ∃m t,n=m+1∧toks[k]?=some t∧((fits [[39,105,109,112,108,101,109,101,110,116,115]] t=true∧Runs toks m ([39,105,109,112,108,101,109,101,110,116,115]::nAMP::[46,110,97,109,101]::y9s::rest) k op)∨(fits [[39,105,109,112,108,101,109,101,110,116,115]] t=false∧(False))):=h.rule x2k (by decide+kernel)
theorem q87:tabG nAMP=some ([([[38]],[[38]]),([],[])],true):=by kernel_rfl
theorem in_AMP {toks:List TokD} {n k:Nat} {rest:List Txt} {op:Int} (h:Runs toks n (nAMP::rest) k op): ∃m t,n=m+1∧toks[k]?=some t∧((fits [[38]] t=true∧Runs toks m ([38]::rest) k op)∨(fits [[38]] t=false∧((fits [] t=true∧Runs toks m (rest) k op)∨(fits [] t=false∧(Runs toks m rest k op))))):=h.rule q87 (by decide+kernel)
theorem x7n:tabG y9s=some ([([[38]],[[38],[46,110,97,109,101],y9s]),([],[])],true):=by kernel_rfl
theorem q1n {toks:List TokD} {n k:Nat} {rest:List Txt} {op:Int} (h:Runs toks n (y9s::rest) k op): ∃m t,n=m+1∧toks[k]?=some t∧((fits [[38]] t=true∧Runs toks m ([38]::[46,110,97,109,101]::y9s::rest) k op)∨(fits [[38]] t=false∧((fits [] t=true∧Runs toks m (rest) k op)∨(fits [] t=false∧(Runs toks m rest k op))))):=h.rule x7n (by decide+kernel)
theorem x7o:tabG y3t=some ([([[123]],[y7c]),([],[])],true):=by kernel_rfl
theorem q1o {toks:List TokD} {n k:Nat} {rest:List Txt} {op:Int} (h:Runs toks n (y3t::rest) k op): ∃m t,n=m+1∧toks[k]?=some t∧((fits [[123]] t=true∧Runs toks m (y7c::rest) k op)∨(fits [[123]] t=false∧((fits [] t=true∧Runs toks m (rest) k op)∨(fits [] t=false∧(Runs toks m rest k op))))):=h.rule x7o (by decide+kernel)
theorem x2l:tabG y7c=some ([([[123]],[[123],z2d,y9t,[125]])],false):=by kernel_rfl
theorem x7p {toks:List TokD} {n k:Nat} {rest:List Txt} {op:Int} (h:Runs toks n (y7c::rest) k op): ∃m t,n=m+1∧toks[k]?=some t∧((fits [[123]] t=true∧Runs toks m ([123]::z2d::y9t::[125]::rest) k op)∨(fits [[123]] t=false∧(False))):=h.rule x2l (by decide+kernel)
theorem x7q:tabG y9t=some ([([[46,115,116,114],[46,110,97,109,101]],[z2d,y9t]),([],[])],true):=by kernel_rfl
theorem q1p {toks:List TokD} {n k:Nat} {rest:List Txt} {op:Int} (h:Runs toks n (y9t::rest) k op): ∃m t,n=m+1∧toks[k]?=some t∧((fits [[46,115,116,114],[46,110,97,109,101]] t=true∧Runs toks m (z2d::y9t::rest) k op)∨(fits [[46,115,116,114],[46,110,97,109,101]] t=false∧((fits [] t=true∧Runs toks m (rest) k op)∨(fits [] t=false∧(Runs toks m rest k op))))):=h.rule x7q (by decide+kernel)
theorem q1q:tabG z2d=some ([([[46,115,116,114]],[[46,115,116,114],y9u]),([[46,110,97,109,101]],[y9u])],false):=by kernel_rfl
theorem x4w {toks:List TokD} {n k:Nat} {rest:List Txt} {op:Int} (h:Runs toks n (z2d::rest) k op): ∃m t,n=m+1∧toks[k]?=some t∧((fits [[46,115,116,114]] t=true∧Runs toks m ([46,115,116,114]::y9u::rest) k op)∨(fits [[46,115,116,114]] t=false∧((fits [[46,110,97,109,101]] t=true∧Runs toks m (y9u::rest) k op)∨(fits [[46,110,97,109,101]] t=false∧(False))))):=h.rule q1q (by decide+kernel)
theorem x7r:tabG y9u=some ([([[46,110,97,109,101]],[[46,110,97,109,101],y8a,[58],z7t,y08])],false):=by kernel_rfl
theorem q1r {toks:List TokD} {n k:Nat} {rest:List Txt} {op:Int} (h:Runs toks n (y9u::rest) k op): ∃m t,n=m+1∧toks[k]?=some t∧((fits [[46,110,97,109,101]] t=true∧Runs toks m ([46,110,97,109,101]::y8a::[58]::z7t::y08::rest) k op)∨(fits [[46,110,97,109,101]] t=false∧(False))):=h.rule x7r (by decide+kernel)
theorem x7s:tabG y8a=some ([([[40]],[[40],y9d,y50,[41]]),([],[])],true):=by kernel_rfl
theorem q1s {toks:List TokD} {n k:Nat} {rest:List Txt} {op:Int} (h:Runs toks n (y8a::rest) k op): ∃m t,n=m+1∧toks[k]?=some t∧((fits [[40]] t=true∧Runs toks m ([40]::y9d::y50::[41]::rest) k op)∨(fits [[40]] t=false∧((fits [] t=true∧Runs toks m (rest) k op)∨(fits [] t=false∧(Runs toks m rest k op))))):=h.rule x7s (by decide+kernel)
theorem x7t:tabG y50=some ([([[46,115,116,114],[46,110,97,109,101]],[y9d,y50]),([],[])],true):=by kernel_rfl
theorem q1t {toks:List TokD} {n k:Nat} {rest:List Txt} {op:Int} (h:Runs toks n (y50::rest) k op): ∃m t,n=m+1∧toks[k]?=some t∧((fits [[46,115,116,114],[46,110,97,109,101]] t=true∧Runs toks m (y9d::y50::rest) k op)∨(fits [[46,115,116,114],[46,110,97,109,101]] t=false∧((fits [] t=true∧Runs toks m (rest) k op)∨(fits [] t=false∧(Runs toks m rest k op))))):=h.rule x7t (by decide+kernel)
theorem q1u:tabG y9d=some ([([[46,115,116,114]],[[46,115,116,114],y9v]),([[46,110,97,109,101]],[y9v])],false):=by kernel_rfl
theorem x4x {toks:List TokD} {n k:Nat} {rest:List Txt} {op:Int} (h:Runs toks n (y9d::rest) k op): ∃m t,n=m+1∧toks[k]?=some t∧((fits [[46,115,116,114]] t=true∧Runs toks m ([46,115,116,114]::y9v::rest) k op)∨(fits [[46,115,116,114]] t=false∧((fits [[46,110,97,109,101]] t=true∧Runs toks m (y9v::rest) k op)∨(fits [[46,110,97,109,101]] t=false∧(False))))):=h.rule q1u (by decide+kernel)
theorem x7u:tabG y9v=some ([([[46,110,97,109,101]],[[46,110,97,109,101],[58],z7t,z2x,y08])],false):=by kernel_rfl
theorem q1v {toks:List TokD} {n k:Nat} {rest:List Txt} {op:Int} (h:Runs toks n (y9v::rest) k op): ∃m t,n=m+1∧toks[k]?=some t∧((fits [[46,110,97,109,101]] t=true∧Runs toks m ([46,110,97,109,101]::[58]::z7t::z2x::y08::rest) k op)∨(fits [[46,110,97,109,101]] t=false∧(False))):=h.rule x7u (by decide+kernel)
theorem x2m:tabG z2x=some ([([[61]],[[61],nLIT]),([],[])],true):=by kernel_rfl
theorem x7v {toks:List TokD} {n k:Nat} {rest:List Txt} {op:Int} (h:Runs toks n (z2x::rest) k op): ∃m t,n=m+1∧toks[k]?=some t∧((fits [[61]] t=true∧Runs toks m ([61]::nLIT::rest) k op)∨(fits [[61]] t=false∧((fits [] t=true∧Runs toks m (rest) k op)∨(fits [] t=false∧(Runs toks m rest k op))))):=h.rule x2m (by decide+kernel)
theorem x2n:tabG y45=some ([([[61]],[y5o]),([],[])],true):=by kernel_rfl
theorem x7w {toks:List TokD} {n k:Nat} {rest:List Txt} {op:Int} (h:Runs toks n (y45::rest) k op): ∃m t,n=m+1∧toks[k]?=some t∧((fits [[61]] t=true∧Runs toks m (y5o::rest) k op)∨(fits [[61]] t=false∧((fits [] t=true∧Runs toks m (rest) k op)∨(fits [] t=false∧(Runs toks m rest k op))))):=h.rule x2n (by decide+kernel)
theorem x0n:tabG y5o=some ([([[61]],[[61],nBAR,[46,110,97,109,101],y7d])],false):=by kernel_rfl
theorem x2o {toks:List TokD} {n k:Nat} {rest:List Txt} {op:Int} (h:Runs toks n (y5o::rest) k op): ∃m t,n=m+1∧toks[k]?=some t∧((fits [[61]] t=true∧Runs toks m ([61]::nBAR::[46,110,97,109,101]::y7d::rest) k op)∨(fits [[61]] t=false∧(False))):=h.rule x0n (by decide+kernel)
theorem x2p:tabG y7d=some ([([[124]],[[124],[46,110,97,109,101],y7d]),([],[])],true):=by kernel_rfl
theorem x7x {toks:List TokD} {n k:Nat} {rest:List Txt} {op:Int} (h:Runs toks n (y7d::rest) k op): ∃m t,n=m+1∧toks[k]?=some t∧((fits [[124]] t=true∧Runs toks m ([124]::[46,110,97,109,101]::y7d::rest) k op)∨(fits [[124]] t=false∧((fits [] t=true∧Runs toks m (rest) k op)∨(fits [] t=false∧(Runs toks m rest k op))))):=h.rule x2p (by decide+kernel)
theorem q88:tabG nBAR=some ([([[124]],[[124]]),([],[])],true):=by kernel_rfl
theorem q7g {toks:List TokD} {n k:Nat} {rest:List Txt} {op:Int} (h:Runs toks n (nBAR::rest) k op): ∃m t,n=m+1∧toks[k]?=some t∧((fits [[124]] t=true∧Runs toks m ([124]::rest) k op)∨(fits [[124]] t=false∧((fits [] t=true∧Runs toks m (rest) k op)∨(fits [] t=false∧(Runs toks m rest k op))))):=h.rule q88 (by decide+kernel)
theorem x7y:tabG z1u=some ([([[64]],[nDIR,y08,y45]),([[61]],[y5o])],false):=by kernel_rfl
theorem q1w {toks:List TokD} {n k:Nat} {rest:List Txt} {op:Int} (h:Runs toks n (z1u::rest) k op): ∃m t,n=m+1∧toks[k]?=some t∧((fits [[64]] t=true∧Runs toks m (nDIR::y08::y45::rest) k op)∨(fits [[64]] t=false∧((fits [[61]] t=true∧Runs toks m (y5o::rest) k op)∨(fits [[61]] t=false∧(False))))):=h.rule x7y (by decide+kernel)
theorem q1x:tabG z0w=some ([([[123]],[y9w]),([],[])],true):=by kernel_rfl
theorem q5p {toks:List TokD} {n k:Nat} {rest:List Txt} {op:Int} (h:Runs toks n (z0w::rest) k op): ∃m t,n=m+1∧toks[k]?=some t∧((fits [[123]] t=true∧Runs toks m (y9w::rest) k op)∨(fits [[123]] t=false∧((fits [] t=true∧Runs toks m (rest) k op)∨(fits [] t=false∧(Runs toks m rest k op))))):=h.rule q1x (by decide+kernel)
theorem x7z:tabG y9w=some ([([[123]],[[123],x0k,z4n,[125]])],false):=by kernel_rfl
theorem q1y {toks:List TokD} {n k:Nat} {rest:List Txt} {op:Int} (h:Runs toks n (y9w::rest) k op): ∃m t,n=m+1∧toks[k]?=some t∧((fits [[123]] t=true∧Runs toks m ([123]::x0k::z4n::[125]::rest) k op)∨(fits [[123]] t=false∧(False))):=h.rule x7z (by decide+kernel)
theorem q1z:tabG z4n=some ([([[46,115,116,114],[46,99,97,115,101]],[x0k,z4n]),([],[])],true):=by kernel_rfl
theorem q5q {toks:List TokD} {n k:Nat} {rest:List Txt} {op:Int} (h:Runs toks n (z4n::rest) k op): ∃m t,n=m+1∧toks[k]?=some t∧((fits [[46,115,116,114],[46,99,97,115,101]] t=true∧Runs toks m (x0k::z4n::rest) k op)∨(fits [[46,115,116,114],[46,99,97,115,101]] t=false∧((fits [] t=true∧Runs toks m (rest) k op)∨(fits [] t=false∧(Runs toks m rest k op))))):=h.rule q1z (by decide+kernel)
theorem q5r:tabG x0k=some ([([[46,115,116,114]],[[46,115,116,114],z4o]),([[46,99,97,115,101]],[z4o])],false):=by kernel_rfl
theorem q11 {toks:List TokD} {n k:Nat} {rest:List Txt} {op:Int} (h:Runs toks n (x0k::rest) k op): ∃m t,n=m+1∧toks[k]?=some t∧((fits [[46,115,116,114]] t=true∧Runs toks m ([46,115,116,114]::z4o::rest) k op)∨(fits [[46,115,116,114]] t=false∧((fits [[46,99,97,115,101]] t=true∧Runs toks m (z4o::rest) k op)∨(fits [[46,99,97,115,101]] t=false∧(False))))):=h.rule q5r (by decide+kernel)
theorem q13:tabG z4o=some ([([[46,99,97,115,101]],[[46,99,97,115,101],y08])],false):=by kernel_rfl
theorem q5s {toks:List TokD} {n k:Nat} {rest:List Txt} {op:Int} (h:Runs toks n (z4o::rest) k op): ∃m t,n=m+1∧toks[k]?=some t∧((fits [[46,99,97,115,101]] t=true∧Runs toks m ([46,99,97,115,101]::y08::rest) k op)∨(fits [[46,99,97,115,101]] t=false∧(False))):=h.rule q13 (by decide+kernel)
theorem q15:tabG z6g=some ([([[64]],[nDIR,y08,z0w]),([[123]],[y9w])],false):=by kernel_rfl
theorem q5t {toks:List TokD} {n k:Nat} {rest:List Txt} {op:Int} (h:Runs toks n (z6g::rest) k op): ∃m t,n=m+1∧toks[k]?=some t∧((fits [[64]] t=true∧Runs toks m (nDIR::y08::z0w::rest) k op)∨(fits [[64]] t=false∧((fits [[123]] t=true∧Runs toks m (y9w::rest) k op)∨(fits [[123]] t=false∧(False))))):=h.rule q15 (by decide+kernel)
theorem x70:tabG y7e=some ([([[123]],[y7f]),([],[])],true):=by kernel_rfl
theorem q16 {toks:List TokD} {n k:Nat} {rest:List Txt} {op:Int} (h:Runs toks n (y7e::rest) k op): ∃m t,n=m+1∧toks[k]?=some t∧((fits [[123]] t=true∧Runs toks m (y7f::rest) k op)∨(fits [[123]] t=false∧((fits [] t=true∧Runs toks m (rest) k op)∨(fits [] t=false∧(Runs toks m rest k op))))):=h.rule x70 (by decide+kernel)
theorem x2q:tabG y7f=some ([([[123]],[[123],y9d,y50,[125]])],false):=by kernel_rfl
theorem x71 {toks:List TokD} {n k:Nat} {rest:List Txt} {op:Int} (h:Runs toks n (y7f::rest) k op): ∃m t,n=m+1∧toks[k]?=some t∧((fits [[123]] t=true∧Runs toks m ([123]::y9d::y50::[125]::rest) k op)∨(fits [[123]] t=false∧(False))):=h.rule x2q (by decide+kernel)
theorem x72:tabG z1v=some ([([[64]],[nDIR,y08,y7e]),([[123]],[y7f])],false):=by kernel_rfl
theorem q17 {toks:List TokD} {n k:Nat} {rest:List Txt} {op:Int} (h:Runs toks n (z1v::rest) k op): ∃m t,n=m+1∧toks[k]?=some t∧((fits [[64]] t=true∧Runs toks m (nDIR::y08::y7e::rest) k op)∨(fits [[64]] t=false∧((fits [[123]] t=true∧Runs toks m (y7f::rest) k op)∨(fits [[123]] t=false∧(False))))):=h.rule x72 (by decide+kernel)
theorem x73:tabG z4p=some ([([[39,114,101,112,101,97,116,97,98,108,101]],[[39,114,101,112,101,97,116,97,98,108,101]]),([],[])],true):=by kernel_rfl
theorem q18 {toks:List TokD} {n k:Nat} {rest:List Txt} {op:Int} (h:Runs toks n (z4p::rest) k op): ∃m t,n=m+1∧toks[k]?=some t∧((fits [[39,114,101,112,101,97,116,97,98,108,101]] t=true∧Runs toks m ([39,114,101,112,101,97,116,97,98,108,101]::rest) k op)∨(fits [[39,114,101,112,101,97,116,97,98,108,101]] t=false∧((fits [] t=true∧Runs toks m (rest) k op)∨(fits [] t=false∧(Runs toks m rest k op))))):=h.rule x73 (by decide+kernel)
theorem x74:tabG y51=some ([([[124]],[[124],[46,112,108,97,99,101],y51]),([],[])],true):=by kernel_rfl
theorem q19 {toks:List TokD} {n k:Nat} {rest:List Txt} {op:Int} (h:Runs toks n (y51::rest) k op): ∃m t,n=m+1∧toks[k]?=some t∧((fits [[124]] t=true∧Runs toks m ([124]::[46,112,108,97,99,101]::y51::rest) k op)∨(fits [[124]] t=false∧((fits [] t=true∧Runs toks m (rest) k op)∨(fits [] t=false∧(Runs toks m rest k op))))):=h.rule x74 (by decide+kernel)
theorem q5u:tabG y08=some ([([[64]],[nDIR,y08]),([],[])],true):=by kernel_rfl
theorem q89 {toks:List TokD} {n k:Nat} {rest:List Txt} {op:Int} (h:Runs toks n (y08::rest) k op): ∃m t,n=m+1∧toks[k]?=some t∧((fits [[64]] t=true∧Runs toks m (nDIR::y08::rest) k op)∨(fits [[64]] t=false∧((fits [] t=true∧Runs toks m (rest) k op)∨(fits [] t=false∧(Runs toks m rest k op))))):=h.rule q5u (by decide+kernel)
theorem q9a:tabG nDIR=some ([([[64]],[[64],[46,110,97,109,101],q1f])],false):=by kernel_rfl
theorem in_DIR {toks:List TokD} {n k:Nat} {rest:List Txt} {op:Int} (h:Runs toks n (nDIR::rest) k op): ∃m t,n=m+1∧toks[k]?=some t∧((fits [[64]] t=true∧Runs toks m ([64]::[46,110,97,109,101]::q1f::rest) k op)∨(fits [[64]] t=false∧(False))):=h.rule q9a (by decide+kernel)
theorem q5v:tabG q1f=some ([([[40]],[[40],nARG,x0l,[41]]),([],[])],true):=by kernel_rfl
theorem q9b {toks:List TokD} {n k:Nat} {rest:List Txt} {op:Int} (h:Runs toks n (q1f::rest) k op): ∃m t,n=m+1∧toks[k]?=some t∧((fits [[40]] t=true∧Runs toks m ([40]::nARG::x0l::[41]::rest) k op)∨(fits [[40]] t=false∧((fits [] t=true∧Runs toks m (rest) k op)∨(fits [] t=false∧(Runs toks m rest k op))))):=h.rule q5v (by decide+kernel)
theorem q5w:tabG x0l=some ([([[46,110,97,109,101]],[nARG,x0l]),([],[])],true):=by kernel_rfl
theorem q9c {toks:List TokD} {n k:Nat} {rest:List Txt} {op:Int} (h:Runs toks n (x0l::rest) k op): ∃m t,n=m+1∧toks[k]?=some t∧((fits [[46,110,97,109,101]] t=true∧Runs toks m (nARG::x0l::rest) k op)∨(fits [[46,110,97,109,101]] t=false∧((fits [] t=true∧Runs toks m (rest) k op)∨(fits [] t=false∧(Runs toks m rest k op))))):=h.rule q5w (by decide+kernel)
theorem q9d:tabG nARG=some ([([[46,110,97,109,101]],[[46,110,97,109,101],[58],nLIT])],false):=by kernel_rfl
theorem in_ARG {toks:List TokD} {n k:Nat} {rest:List Txt} {op:Int} (h:Runs toks n (nARG::rest) k op): ∃m t,n=m+1∧toks[k]?=some t∧((fits [[46,110,97,109,101]] t=true∧Runs toks m ([46,110,97,109,101]::[58]::nLIT::rest) k op)∨(fits [[46,110,97,109,101]] t=false∧(False))):=h.rule q9d (by decide+kernel)
theorem q9e:tabG nLIT=some ([([[46,110,97,109,101]],[[46,110,97,109,101]]),([[46,115,116,114]],[[46,115,116,114]]),([[46,110,117,109]],[[46,110,117,109]]),([[91]],[[91],x2f,[93]]),([[123]],[[123],x2g,[125]])],false):=by kernel_rfl
theorem in_LIT {toks:List TokD} {n k:Nat} {rest:List Txt} {op:Int} (h:Runs toks n (nLIT::rest) k op): ∃m t,n=m+1∧toks[k]?=some t∧((fits [[46,110,97,109,101]] t=true∧Runs toks m ([46,110,97,109,101]::rest) k op)∨(fits [[46,110,97,109,101]] t=false∧((fits [[46,115,116,114]] t=true∧Runs toks m ([46,115,116,114]::rest) k op)∨(fits [[46,115,116,114]] t=false∧((fits [[46,110,117,109]] t=true∧Runs toks m ([46,110,117,109]::rest) k op)∨(fits [[46,110,117,109]] t=false∧((fits [[91]] t=true∧Runs toks m ([91]::x2f::[93]::rest) k op)∨(fits [[91]] t=false∧((fits [[123]] t=true∧Runs toks m ([123]::x2g::[125]::rest) k op)∨(fits [[123]] t=false∧(False))))))))))):=h.rule q9e (by decide+kernel)
theorem q5x:tabG x2f=some ([([[46,110,97,109,101],[46,115,116,114],[46,110,117,109],[91],[123]],[nLIT,x2f]),([],[])],true):=by kernel_rfl
theorem q9f {toks:List TokD} {n k:Nat} {rest:List Txt} {op:Int} (h:Runs toks n (x2f::rest) k op): ∃m t,n=m+1∧toks[k]?=some t∧((fits [[46,110,97,109,101],[46,115,116,114],[46,110,117,109],[91],[123]] t=true∧Runs toks m (nLIT::x2f::rest) k op)∨(fits [[46,110,97,109,101],[46,115,116,114],[46,110,117,109],[91],[123]] t=false∧((fits [] t=true∧Runs toks m (rest) k op)∨(fits [] t=false∧(Runs toks m rest k op))))):=h.rule q5x (by decide+kernel)
theorem q5y:tabG x2g=some ([([[46,110,97,109,101]],[[46,110,97,109,101],[58],nLIT,x2g]),([],[])],true):=by kernel_rfl
theorem q9g {toks:List TokD} {n k:Nat} {rest:List Txt} {op:Int} (h:Runs toks n (x2g::rest) k op): ∃m t,n=m+1∧toks[k]?=some t∧((fits [[46,110,97,109,101]] t=true∧Runs toks m ([46,110,97,109,101]::[58]::nLIT::x2g::rest) k op)∨(fits [[46,110,97,109,101]] t=false∧((fits [] t=true∧Runs toks m (rest) k op)∨(fits [] t=false∧(Runs toks m rest k op))))):=h.rule q5y (by decide+kernel)
theorem q5z:tabG z7t=some ([([[46,110,97,109,101],[91]],[x0m,x7h])],false):=by kernel_rfl
theorem q9h {toks:List TokD} {n k:Nat} {rest:List Txt} {op:Int} (h:Runs toks n (z7t::rest) k op): ∃m t,n=m+1∧toks[k]?=some t∧((fits [[46,110,97,109,101],[91]] t=true∧Runs toks m (x0m::x7h::rest) k op)∨(fits [[46,110,97,109,101],[91]] t=false∧(False))):=h.rule q5z (by decide+kernel)
theorem q2a:tabG x0m=some ([([[46,110,97,109,101]],[[46,110,97,109,101]]),([[91]],[[91],z7t,[93]])],false):=by kernel_rfl
theorem q50 {toks:List TokD} {n k:Nat} {rest:List Txt} {op:Int} (h:Runs toks n (x0m::rest) k op): ∃m t,n=m+1∧toks[k]?=some t∧((fits [[46,110,97,109,101]] t=true∧Runs toks m ([46,110,97,109,101]::rest) k op)∨(fits [[46,110,97,109,101]] t=false∧((fits [[91]] t=true∧Runs toks m ([91]::z7t::[93]::rest) k op)∨(fits [[91]] t=false∧(False))))):=h.rule q2a (by decide+kernel)
theorem q51:tabG x7h=some ([([[33]],[[33]]),([],[])],true):=by kernel_rfl
theorem q9i {toks:List TokD} {n k:Nat} {rest:List Txt} {op:Int} (h:Runs toks n (x7h::rest) k op): ∃m t,n=m+1∧toks[k]?=some t∧((fits [[33]] t=true∧Runs toks m ([33]::rest) k op)∨(fits [[33]] t=false∧((fits [] t=true∧Runs toks m (rest) k op)∨(fits [] t=false∧(Runs toks m rest k op))))):=h.rule q51 (by decide+kernel)
end Go.Proofs.YtbpgkkoeehopjaaGreat.gram
namespace Go.Proofs.YtbpgkkoeehopjaaGreat.acr
open tree gram rd dat lex
set_option maxRecDepth 100000
structure TokW (t:TokD):Prop where
 mark: ∀p,p∈([33,38,40,41,58,61,64,91,93,123,124,125]:Txt)→t.text=[p]→t.kind=2∨t.kind=6∨t.kind=7
 word: ∀w,w∈([[101,120,116,101,110,100],[105,109,112,108,101,109,101,110,116,115],[114,101,112,101,97,116,97,98,108,101],[111,110]]:List Txt)→t.text=w→t.kind=3∨t.kind=6∨t.kind=7
structure TokA (toks:List TokD):Prop extends TokE toks where
 wf: ∀(k:Nat) t,toks[k]?=some t→TokW t
theorem fit1 (s:Txt) (t:TokD):fits [s] t=y0n s t:=by simp [fits]
theorem x2r {p:UInt8} (hp:p∈([33,38,40,41,58,61,64,91,93,123,124,125]:Txt)) (t:TokD):y0n [p] t=((t.kind==2)&&decide (t.text=[p])):=by
 simp only [Qbd,List.mem_nil_iff,or_false] at hp
 rcases hp with rfl|rfl|rfl|rfl|rfl|rfl|rfl|rfl|rfl|rfl|rfl|rfl<;>rfl
theorem y0z {t:TokD} (hW:TokW t) {p:UInt8} (hp:p∈([33,38,40,41,58,61,64,91,93,123,124,125]:Txt)):isF t [p]=y0n [p] t:=by
 rw [x2r hp];unfold isF;by_cases h:t.text=[p]
 ·have hk:=hW.mark p hp h;rw [Qa5 h]
  rcases hk with hk|hk|hk<;>rw [hk]<;>rfl
 ·rw [Qa4 h];simp
theorem q9j {w:Txt} (hw:w∈([[101,120,116,101,110,100],[105,109,112,108,101,109,101,110,116,115],[114,101,112,101,97,116,97,98,108,101],[111,110]]:List Txt)) (t:TokD):y0n (39::w) t=((t.kind==3)&&decide (t.text=w)):=by
 simp only [Qbd,List.mem_nil_iff,or_false] at hw
 rcases hw with rfl|rfl|rfl|rfl<;>rfl
theorem y9x {t:TokD} (hW:TokW t) {w:Txt} (hw:w∈([[101,120,116,101,110,100],[105,109,112,108,101,109,101,110,116,115],[114,101,112,101,97,116,97,98,108,101],[111,110]]:List Txt)):isF t w=y0n (39::w) t:=by
 rw [q9j hw];unfold isF;by_cases h:t.text=w
 ·have hk:=hW.word w hw h;rw [Qa5 h]
  rcases hk with hk|hk|hk<;>rw [hk]<;>rfl
 ·rw [Qa4 h];simp
theorem q52 {t:TokD} {s:Txt} {p:UInt8} (hp:p∈([33,38,40,41,58,61,64,91,93,123,124,125]:Txt)) (h:y0n [p] t=true) (hs:y0n s t=true):s=[p]:=by
 rw [x2r hp] at h;simp only [Qao,Qa7,decide_eq_true_eq] at h;obtain ⟨hk,ht⟩:=h;unfold y0n at hs;rw [hk] at hs;split at hs
 ·cases hs
 split at hs
 ·cases hs
 split at hs
 ·cases hs
 split at hs
 ·cases hs
 split at hs
 ·cases hs
 split at hs
 ·cases hs
 split at hs
 ·cases hs
 cases s with
 |nil=>cases hs
 |cons c r=>
  simp only at hs;split at hs
  ·cases hs
  ·simp only [Qao,decide_eq_true_eq] at hs;rw [←hs.2,ht]
theorem y8b {t:TokD} (hW:TokW t) {p:UInt8} (hp:p∈([33,38,40,41,58,61,64,91,93,123,124,125]:Txt)) {F:List Txt} (hF:fits F t=true) (hn:F.contains [p]=false):isF t [p]=false:=by
 rw [y0z hW hp]
 cases h:y0n [p] t with
 |false=>rfl
 |true=>
  obtain ⟨s,hs,hf⟩:=Qbh.1 hF;rw [q52 hp h hf] at hs;rw [List.contains_iff_mem.2 hs] at hn;cases hn
theorem y2l {t:TokD} {F:List Txt} {s:Txt} (h:fits F t=false) (hs:F.contains s=true):y0n s t=false:=by
 cases hf:y0n s t with
 |false=>rfl
 |true=>
  have:fits F t=true:=Qbh.2 ⟨s,List.contains_iff_mem.1 hs,hf⟩;rw [h] at this;cases this
section
variable {toks : List TokD}
theorem _root_.Go.Proofs.YtbpgkkoeehopjaaGreat.gram.Runs.tok {n:Nat} {s:Txt} {st:List Txt} {k:Nat} {op:Int} (h:Runs toks n (s::st) k op): ∃t,toks[k]?=some t:=by
 unfold Runs at h
 cases n with
 |zero=>cases h
 |succ m=>
  rw [runF] at h
  cases ht:toks[k]? with
  |none=>rw [ht] at h;cases h
  |some t=>exact ⟨t,rfl⟩
theorem _root_.Go.Proofs.YtbpgkkoeehopjaaGreat.gram.Runs.term (hE:TokA toks) {n:Nat} {s:Txt} {rest:List Txt} {k:Nat} {op:Int} (h:Runs toks n (s::rest) k op) (hs:(decide (s≠[])&&decide (s.length≤1000)&& !y2a s&&decide (s≠endT))=true) {t:TokD} (ht:toks[k]?=some t):
  ∃m,n=m+1∧y0n s t=true∧(y06 s=1→op<200)∧y0g toks.length k=k+1∧k+1<toks.length∧Runs toks m rest (k+1) (op+y06 s):=by
 simp only [Qao,decide_eq_true_eq,Bool.not_eq_true'] at hs;unfold Runs at h
 cases n with
 |zero=>cases h
 |succ m=>
  rw [runF,ht] at h;simp only at h;rw [if_neg (by rintro (h0|h0);exact hs.1.1.1 h0;have:=hs.1.1.2;omega),hs.1.2,if_neg (by decide)] at h
  cases hf:y0n s t with
  |false=>rw [hf,if_pos rfl] at h;simp at h
  |true=>
   rw [hf,if_neg (by decide)] at h;have hk:=z4l hf;have hlt:k<toks.length:=(Qac.1 ht).1
   have hl:k+1<toks.length:=by
    have h1:=hE.ends k t ht;have h2:=hk.2 hs.2
    have h3: ¬k+1=toks.length:=fun e=>by have:=h1.2 e;rcases this with h|h;exact h2 h;exact hk.1 h
    omega
   split at h
   ·simp at h
   ·rename_i hb
    try rw [if_pos hl] at h
    exact ⟨m,rfl,rfl,fun e=>by by_cases h2:op<200;exact h2;exact absurd ⟨e,by omega⟩ hb,by unfold y0g;rw [if_pos hl],hl,h⟩
theorem _root_.Go.Proofs.YtbpgkkoeehopjaaGreat.gram.Runs.t0 (hE:TokA toks) {n:Nat} {s:Txt} {rest:List Txt} {k:Nat} {op:Int} (h:Runs toks n (s::rest) k op) {t:TokD} (ht:toks[k]?=some t) (hs:(decide (s≠[])&&decide (s.length≤1000)&& !y2a s&&decide (s≠endT))=true:=by decide+kernel) (hb:y06 s=0:=by decide+kernel):
  ∃m,n=m+1∧y0n s t=true∧y0g toks.length k=k+1∧k+1<toks.length∧Runs toks m rest (k+1) op:=by
 obtain ⟨m,h1,h2,_,h4,h5,h6⟩:=h.term hE hs ht;rw [hb,Int.add_zero] at h6;exact ⟨m,h1,h2,h4,h5,h6⟩
theorem _root_.Go.Proofs.YtbpgkkoeehopjaaGreat.gram.Runs.topen (hE:TokA toks) {n:Nat} {s:Txt} {rest:List Txt} {k:Nat} {op:Int} (h:Runs toks n (s::rest) k op) {t:TokD} (ht:toks[k]?=some t) (hs:(decide (s≠[])&&decide (s.length≤1000)&& !y2a s&&decide (s≠endT))=true:=by decide+kernel) (hb:y06 s=1:=by decide+kernel):
  ∃m,n=m+1∧y0n s t=true∧y0g toks.length k=k+1∧k+1<toks.length∧op<200∧Runs toks m rest (k+1) (op+1):=by
 obtain ⟨m,h1,h2,h3,h4,h5,h6⟩:=h.term hE hs ht;rw [hb] at h6;exact ⟨m,h1,h2,h4,h5,h3 hb,h6⟩
theorem _root_.Go.Proofs.YtbpgkkoeehopjaaGreat.gram.Runs.tclose (hE:TokA toks) {n:Nat} {s:Txt} {rest:List Txt} {k:Nat} {op:Int} (h:Runs toks n (s::rest) k op) {t:TokD} (ht:toks[k]?=some t) (hs:(decide (s≠[])&&decide (s.length≤1000)&& !y2a s&&decide (s≠endT))=true:=by decide+kernel) (hb:y06 s= -1:=by decide+kernel):
  ∃m,n=m+1∧y0n s t=true∧y0g toks.length k=k+1∧k+1<toks.length∧Runs toks m rest (k+1) (op - 1):=by
 obtain ⟨m,h1,h2,h3,h4,h5,h6⟩:=h.term hE hs ht;rw [hb,←Int.sub_eq_add_neg] at h6;exact ⟨m,h1,h2,h4,h5,h6⟩
def Got {α:Type} (toks:List TokD) (n:Nat) (rest:List Txt) (op:Int) (k:Nat) (N:α→Nat) (x:Option (α×Nat)):Prop:=∃a k' m,x=some (a,k')∧Runs toks m rest k' op∧m<n∧N a+k≤k'
abbrev z7u:Txt:=[46,110,97,109,101]
abbrev tSTR:Txt:=[46,115,116,114]
abbrev tNUM:Txt:=[46,110,117,109]
theorem z4q {t:TokD} (h:y0n z7u t=true):t.kind=3:=by have:(t.kind==3)=true:=h;simpa using this
theorem x4y {t:TokD} (h:y0n tSTR t=true):t.kind=6∨t.kind=7:=by have:((t.kind==6)||(t.kind==7))=true:=h;simpa using this
theorem q53 {t:TokD} (h:y0n tNUM t=true):t.kind=4∨t.kind=5:=by have:((t.kind==4)||(t.kind==5))=true:=h;simpa using this
theorem x0o {t:TokD} {p:UInt8} (hp:p∈([33,38,40,41,58,61,64,91,93,123,124,125]:Txt)) (h:y0n [p] t=true):t.kind=2∧t.text=[p]:=by
 rw [x2r hp] at h;simpa using h
theorem q2b (hE:TokA toks) (L:Nat) (hL:toks.length≤L): ∀n,
  (∀(rest:List Txt) (k:Nat) (op:Int) (f:Nat),Runs toks n (nLIT::rest) k op→op≤200→200<op+f→Got toks n rest op k litN (litF toks L f k))∧
  (∀(rest:List Txt) (k:Nat) (op:Int) (f fu:Nat),Runs toks n (x2f::[93]::rest) k op→op≤200→200<op+f→toks.length<fu+k→Got toks n rest (op - 1) k (fun l=>litsN l+1) (y4n toks (litF toks L f) fu k))∧
  (∀(rest:List Txt) (k:Nat) (op:Int) (f fu:Nat),Runs toks n (x2g::[125]::rest) k op→op≤200→200<op+f→toks.length<fu+k→Got toks n rest (op - 1) k (fun l=>pairsN l+1) (y1o toks [125] (litF toks L f) fu k)):=by
 intro n
 induction n using Nat.strongRecOn with
 |_ n ih=>
  refine ⟨fun rest k op f h h1 h2=>?_,fun rest k op f fu h h1 h2 h3=>?_,fun rest k op f fu h h1 h2 h3=>?_⟩
  ·obtain ⟨m,t,rfl,ht,hA⟩:=in_LIT h;obtain ⟨f,rfl⟩: ∃g,f=g+1:=⟨f - 1,by omega⟩;rw [litF,ht,Option.bind_some];rcases hA with ⟨_,h⟩|⟨_,⟨_,h⟩|⟨_,⟨_,h⟩|⟨_,⟨_,h⟩|⟨_,⟨_,h⟩|⟨_,h⟩⟩⟩⟩⟩
   ·obtain ⟨m',rfl,hf,hn,hl,h⟩:=h.t0 hE ht;rw [if_pos (z4q hf),hn];exact ⟨_,_,m',rfl,h,by omega,by simp [litN,litsN,pairsN];omega⟩
   ·obtain ⟨m',rfl,hf,hn,hl,h⟩:=h.t0 hE ht;have hk:=x4y hf;rw [if_neg (by omega),if_neg (by omega),if_neg (by omega),if_pos hk,hn];exact ⟨_,_,m',rfl,h,by omega,by simp [litN,litsN,pairsN];omega⟩
   ·obtain ⟨m',rfl,hf,hn,hl,h⟩:=h.t0 hE ht;have hk:=q53 hf;rw [if_neg (by omega),hn];by_cases h4:t.kind=4
    ·rw [if_pos h4];exact ⟨_,_,m',rfl,h,by omega,by simp [litN,litsN,pairsN];omega⟩
    ·rw [if_neg h4,if_pos (by omega)];exact ⟨_,_,m',rfl,h,by omega,by simp [litN,litsN,pairsN];omega⟩
   ·obtain ⟨m',rfl,hf,hn,hl,hop,h⟩:=h.topen hE ht;have hk:=x0o (by decide) hf;rw [if_neg (by omega),if_neg (by omega),if_neg (by omega),if_neg (by omega),if_pos hk.2,hn];obtain ⟨a,k',m2,e,hr,hm,hN⟩:=(ih m' (by omega)).2.1 rest (k+1) (op+1) f L h (by omega) (by omega) (by omega);rw [e];refine ⟨_,_,m2,rfl,?_,by omega,by simp only [litN,pairsN] at hN ⊢;omega⟩;rw [Int.add_sub_cancel] at hr;exact hr
   ·obtain ⟨m',rfl,hf,hn,hl,hop,h⟩:=h.topen hE ht;have hk:=x0o (by decide) hf;rw [if_neg (by omega),if_neg (by omega),if_neg (by omega),if_neg (by omega),if_neg (by rw [hk.2];decide),hn];obtain ⟨a,k',m2,e,hr,hm,hN⟩:=(ih m' (by omega)).2.2 rest (k+1) (op+1) f L h (by omega) (by omega) (by omega);rw [e];refine ⟨_,_,m2,rfl,?_,by omega,by simp only [litN,litsN] at hN ⊢;omega⟩;rw [Int.add_sub_cancel] at hr;exact hr
   ·exact h.elim
  ·obtain ⟨m,t,rfl,ht,hA⟩:=q9f h;have hlt:k<toks.length:=(Qac.1 ht).1;obtain ⟨fu,rfl⟩: ∃g,fu=g+1:=⟨fu - 1,by omega⟩;have hW:=hE.wf k t ht;rw [y4n,ht,Option.bind_some]
   have hend:Runs toks m ([93]::rest) k op→Got toks (m+1) rest (op - 1) k (fun l=>litsN l+1) (if isF t [93]=true then some ([],k+1) else (litF toks L f k).bind fun q=>(y4n toks (litF toks L f) fu q.2).bind fun r=>some (q.1::r.1,r.2)):=fun h=>by
    obtain ⟨m',rfl,hf,hn,hl,h⟩:=h.tclose hE ht;rw [if_pos (by rw [y0z hW (by decide)];exact hf)];exact ⟨_,_,m',rfl,h,by omega,by simp [litsN];omega⟩
   rcases hA with ⟨hF,h⟩|⟨_,⟨_,h⟩|⟨_,h⟩⟩
   ·rw [if_neg (by rw [y8b hW (by decide) hF (by decide+kernel)];decide)];obtain ⟨a,k',m2,e,hr,hm,hN⟩:=(ih m (by omega)).1 _ k op f h h1 h2;rw [e,Option.bind_some];have hp:=y8j a;obtain ⟨b,k2,m3,e2,hr2,hm2,hN2⟩:=(ih m2 (by omega)).2.1 rest k' op f fu hr h1 h2 (by omega);rw [e2,Option.bind_some];exact ⟨_,_,m3,rfl,hr2,by omega,by simp only [litsN] at hN2 ⊢;omega⟩
   ·exact hend h
   ·exact hend h
  ·obtain ⟨m,t,rfl,ht,hA⟩:=q9g h;have hlt:k<toks.length:=(Qac.1 ht).1;obtain ⟨fu,rfl⟩: ∃g,fu=g+1:=⟨fu - 1,by omega⟩;have hW:=hE.wf k t ht;rw [y1o,ht,Option.bind_some];rcases hA with ⟨hF,h⟩|⟨_,h⟩
   ·rw [if_neg (by rw [y8b hW (by decide) hF (by decide+kernel)];decide)];obtain ⟨m1,rfl,hf,hn,hl,h⟩:=h.t0 hE ht;obtain ⟨t1,ht1⟩:=h.tok;have hW1:=hE.wf _ t1 ht1;obtain ⟨m2,rfl,hf1,hn1,hl1,h⟩:=h.t0 hE ht1;rw [hn,ht1,Option.bind_some,if_pos (by rw [y0z hW1 (by decide)];exact hf1)];obtain ⟨a,k',m3,e,hr,hm,hN⟩:=(ih m2 (by omega)).1 _ (k+1+1) op f h h1 h2;rw [e,Option.bind_some];have hp:=y8j a;obtain ⟨b,k2,m4,e2,hr2,hm2,hN2⟩:=(ih m3 (by omega)).2.2 rest k' op f fu hr h1 h2 (by omega);rw [e2,Option.bind_some];exact ⟨_,_,m4,rfl,hr2,by omega,by simp only [pairsN,pairN] at hN2 ⊢;omega⟩
   ·have h:Runs toks m ([125]::rest) k op:=by rcases h with ⟨_,h⟩|⟨_,h⟩<;>exact h
    obtain ⟨m',rfl,hf,hn,hl,h⟩:=h.tclose hE ht;rw [if_pos (by rw [y0z hW (by decide)];exact hf)];exact ⟨_,_,m',rfl,h,by omega,by simp [pairsN];omega⟩
end
end Go.Proofs.YtbpgkkoeehopjaaGreat.acr
namespace Go.Proofs.YtbpgkkoeehopjaaGreat.gram
open tree rd acr
set_option maxRecDepth 100000
def kws:List Txt:=[[115,99,104,101,109,97],[115,99,97,108,97,114],[116,121,112,101],[105,110,116,101,114,102,97,99,101],[117,110,105,111,110],[101,110,117,109],[105,110,112,117,116],[100,105,114,101,99,116,105,118,101],[101,120,116,101,110,100]]
def x0p (t:TokD):Prop:=t.kind=0∨(t.kind=2∧t.text=[36])∨(t.kind=3∧t.text∈kws)∨t.kind=6∨t.kind=7
def hot (s:Txt):Bool:=decide (s∈([[46,110,97,109,101],[46,99,97,115,101],[46,115,116,114],[46,101,110,100],[36]]:List Txt))||decide (s∈kws.map (39:: ·))
theorem kw_no (w:Txt) (h:w∈kws):y21 w y4j=false∧y21 w y3g=false:=by
 have: ∀w∈kws,y21 w y4j=false∧y21 w y3g=false:=by decide+kernel
 exact this w h
theorem q2c {t:TokD} (ht:x0p t) {s:Txt} (hs:hot s=false):y0n s t=false:=by
 unfold hot at hs;simp only [Bool.or_eq_false_iff,decide_eq_false_iff_not,Qbd,List.mem_nil_iff,or_false,not_or] at hs;obtain ⟨⟨h1,h2,h3,h4,h5⟩,h6⟩:=hs;unfold y0n;rw [if_neg h1,if_neg h2];by_cases r1:s=[46,114,111,111,116]
 ·rw [if_pos r1];rcases ht with hk|⟨hk,hx⟩|⟨hk,hx⟩|hk|hk
  ·rw [hk];rfl
  ·rw [hk];rfl
  ·rw [(kw_no _ hx).1,Bool.and_false]
  ·rw [hk];rfl
  ·rw [hk];rfl
 rw [if_neg r1];by_cases r2:s=[46,112,108,97,99,101]
 ·rw [if_pos r2];rcases ht with hk|⟨hk,hx⟩|⟨hk,hx⟩|hk|hk
  ·rw [hk];rfl
  ·rw [hk];rfl
  ·rw [(kw_no _ hx).2,Bool.and_false]
  ·rw [hk];rfl
  ·rw [hk];rfl
 rw [if_neg r2,if_neg h3];by_cases r3:s=[46,110,117,109]
 ·rw [if_pos r3]
  rcases ht with hk|⟨hk,hx⟩|⟨hk,hx⟩|hk|hk<;>rw [hk]<;>rfl
 rw [if_neg r3,if_neg h4]
 cases s with
 |nil=>rfl
 |cons c r=>
  dsimp only;by_cases hc:c=39
  ·rw [if_pos hc];rcases ht with hk|⟨hk,hx⟩|⟨hk,hx⟩|hk|hk
   ·rw [hk];rfl
   ·rw [hk];rfl
   ·rw [Qa4 (fun e:t.text=r=>h6 (Qbe.2 ⟨r,by rw [←e];exact hx,by rw [hc]⟩)),Bool.and_false]
   ·rw [hk];rfl
   ·rw [hk];rfl
  ·rw [if_neg hc];rcases ht with hk|⟨hk,hx⟩|⟨hk,hx⟩|hk|hk
   ·rw [hk];rfl
   ·rw [hx,Qa4 (fun e=>h5 e.symm),Bool.and_false]
   ·rw [hk];rfl
   ·rw [hk];rfl
   ·rw [hk];rfl
def x0q (s:Txt):Bool:=y2a s&&match tabG s with
 |some (T,z)=>z&&T.any fun p=>p.1.any hot
 |none=>true
def wt:List Txt→Int
 |[]=>0
 |s::r=>y06 s+wt r
def adj (z:Bool):List Txt→Bool
 |[]=>true
 |[x]=> !x0q x||z
 |x::y::r=>(!x0q x|| !y2a y)&&adj z (y::r)
def x2s (s:Txt) (p:List Txt×List Txt):Bool:=p.2.all (fun x=>decide (x≠y26)&&decide (x≠endT)&&decide (x≠nDOC)&&decide (x≠[36]))&&decide (wt p.2=0)&&adj (x0q s) p.2
def x2t (s:Txt):Bool:=match tabG s with
 |some (T,_)=>T.all (x2s s)
 |none=>false
theorem mac_ok: ∀r∈rulesG,(decide (r.name=[68,79,67])||decide (r.name=y26)||x2t r.name)=true:=by decide+kernel
theorem z0x {t t':TokD} (h1:t'.kind=t.kind) (h2:t'.text=t.text) (s:Txt):y0n s t'=y0n s t:=by unfold y0n;rw [h1,h2]
theorem q54 {t t':TokD} (h1:t'.kind=t.kind) (h2:t'.text=t.text) (F:List Txt):fits F t'=fits F t:=by
 unfold fits
 congr 1
 funext s
 exact z0x h1 h2 s
theorem x4z {t t':TokD} (h1:t'.kind=t.kind) (h2:t'.text=t.text): ∀T:List (List Txt×List Txt),pick t' T=pick t T
 |[]=>rfl
 |(F,c)::r=>by rw [pick,pick,q54 h1 h2,x4z h1 h2 r]
def q9k (t:TokD) (T:List (List Txt×List Txt)) (z:Bool) (c:List Txt):Prop:=pick t T=some c∨(pick t T=none∧z=true∧c=[])
theorem y6l {T':List TokD} {N k:Nat} {s:Txt} {rest c:List Txt} {op:Int} {T:List (List Txt×List Txt)} {z:Bool} {t:TokD} (hT:tabG s=some (T,z)) (hs:z0u s=true) (hr:y2a s=true) (ht:T'[k]?=some t) (hc:q9k t T z c) (hl:c.length+rest.length≤1000000000) (h:Runs T' N (c++rest) k op):Runs T' (N+1) (s::rest) k op:=by
 unfold Runs at h ⊢;rw [runF,ht];dsimp only;rw [if_neg (z6f hs),hr,if_pos rfl,y8x hT];rcases hc with hc|⟨hc,hz,rfl⟩
 ·rw [hc];dsimp only;rw [if_neg (by omega)];exact h
 ·rw [hc,hz];dsimp only;rw [if_neg (by omega)];exact h
theorem x0r {T':List TokD} {N k:Nat} {s:Txt} {rest:List Txt} {op:Int} {t:TokD} (hs:z0u s=true) (hr:y2a s=false) (ht:T'[k]?=some t) (hf:y0n s t=true) (hb:y06 s=1→op<200) (hl:k+1<T'.length) (h:Runs T' N rest (k+1) (op+y06 s)):Runs T' (N+1) (s::rest) k op:=by
 unfold Runs at h ⊢;rw [runF,ht];dsimp only;rw [if_neg (z6f hs),hr,if_neg (by decide),hf,if_neg (by decide),if_neg (by rintro ⟨h1,h2⟩;have:=hb h1;omega),if_pos hl];exact h
theorem q55 {s:Txt} (h:z0u s=true) (hr:y2a s=true) (h1:s≠nDOC) (h2:s≠y26):x2t s=true:=by
 unfold z0u at h;rw [hr] at h;simp only [Bool.not_true,Bool.false_or,Qao,Qbh,decide_eq_true_eq] at h;obtain ⟨_,r,hm,rfl⟩:=h;have:=mac_ok r hm;simp only [Bool.or_eq_true,decide_eq_true_eq] at this;rcases this with (h|h)|h
 ·exact absurd h h1
 ·exact absurd h h2
 ·exact h
def InD (s:Txt):Prop:=z0u s=true∧s≠nDOC∧s≠y26∧s≠endT∧s≠[36]
theorem wt_app (a b:List Txt):wt (a++b)=wt a+wt b:=by
 induction a with
 |nil=>simp [wt]
 |cons x r ih=>simp only [List.cons_append,wt,ih];omega
theorem x40 {z:Bool} {x:Txt} {r:List Txt} (h:adj z (x::r)=true):adj z r=true:=by
 cases r with
 |nil=>rfl
 |cons y r=>rw [adj,Qao] at h;exact h.2
theorem q2d {s:Txt}: ∀{c r:List Txt},adj (x0q s) c=true→adj false (s::r)=true→adj false (c++r)=true
 |[],r,_,h=>x40 h
 |[x],r,h1,h2=>by
  rw [adj,Bool.or_eq_true] at h1;rw [List.singleton_append]
  cases r with
  |nil=>
   rw [adj] at h2 ⊢;rcases h1 with h1|h1
   ·rw [h1];rfl
   ·rw [h1] at h2;cases h2
  |cons y r=>
   rw [adj,Qao] at h2 ⊢;refine ⟨?_,h2.2⟩;rcases h1 with h1|h1
   ·rw [h1];rfl
   ·have:=h2.1;rw [h1] at this;simp only [Bool.not_true,Bool.false_or] at this;rw [this,Bool.or_true]
 |x::y::c,r,h1,h2=>by
  rw [adj,Qao] at h1;rw [List.cons_append,List.cons_append,adj,Qao];exact ⟨h1.1,q2d (c:=y::c) h1.2 h2⟩
theorem q2e {toks:List TokD} {n k:Nat} {s:Txt} {rest:List Txt} {op:Int} {T:List (List Txt×List Txt)} {z:Bool} (h:Runs toks n (s::rest) k op) (hT:tabG s=some (T,z)) (hs:z0u s=true) (hr:y2a s=true):
  ∃m t c,n=m+1∧toks[k]?=some t∧q9k t T z c∧c.length+rest.length≤1000000000∧Runs toks m (c++rest) k op:=by
 unfold Runs at h
 cases n with
 |zero=>cases h
 |succ m=>
  rw [runF] at h
  cases ht:toks[k]? with
  |none=>rw [ht] at h;cases h
  |some t=>
   rw [ht] at h;dsimp only at h;rw [if_neg (z6f hs),hr,if_pos rfl,y8x hT] at h
   cases hc:pick t T with
   |some c=>
    rw [hc] at h;dsimp only at h;by_cases hl:1000000000<c.length+rest.length
    ·rw [if_pos hl] at h;cases h
    ·rw [if_neg hl] at h;exact ⟨m,t,c,rfl,rfl,.inl hc,by omega,h⟩
   |none=>
    rw [hc] at h
    cases z with
    |false=>simp at h
    |true=>
     dsimp only at h;by_cases hl:1000000000<([]:List Txt).length+rest.length
     ·rw [if_pos hl] at h;cases h
     ·rw [if_neg hl] at h;exact ⟨m,t,[],rfl,rfl,.inr ⟨hc,rfl,rfl⟩,by omega,h⟩
theorem z7v {t:TokD}: ∀{T:List (List Txt×List Txt)} {c:List Txt},pick t T=some c→ ∃F,(F,c)∈T∧fits F t=true
 |[],c,h=>by cases h
 |(F,d)::r,c,h=>by
  rw [pick] at h;by_cases hf:fits F t=true
  ·rw [if_pos hf] at h;injection h with h;subst h;exact ⟨F,Qaz ..,hf⟩
  ·rw [if_neg hf] at h;obtain ⟨G,h1,h2⟩:=z7v h;exact ⟨G,Qa2 _ h1,h2⟩
theorem x2u {t:TokD}: ∀{T:List (List Txt×List Txt)},pick t T=none↔ ∀p∈T,fits p.1 t=false
 |[]=>⟨fun _ p hp=>(by cases hp),fun _=>rfl⟩
 |(F,d)::r=>by
  rw [pick];by_cases hf:fits F t=true
  ·rw [if_pos hf];exact ⟨fun h=>(by cases h),fun h=>by rw [h (F,d) (Qaz ..)] at hf;cases hf⟩
  ·rw [if_neg hf,x2u];constructor
   ·intro h p hp;rcases Qbd.1 hp with rfl|hp
    ·simpa using hf
    ·exact h p hp
   ·exact fun h p hp=>h p (Qa2 _ hp)
theorem x0s {s:Txt} (h:y2a s=true):y06 s=0:=by
 unfold y06;rw [if_neg (by rintro (e|e|e)<;>(subst e;exact absurd h (by decide))),if_neg (by rintro (e|e|e)<;>(subst e;exact absurd h (by decide)))]
theorem x2v {s:Txt} {T:List (List Txt×List Txt)} {z:Bool} (hr:y2a s=true) (hT:tabG s=some (T,z)) {t:TokD} (h:fits (y4y s) t=true):pick t T≠none:=by
 unfold y4y at h;rw [hr,if_pos rfl,hT] at h;intro hn;have h1:=x2u.1 hn;obtain ⟨x,hx,hf⟩:=Qbh.1 h;obtain ⟨p,hp,hxp⟩:=List.mem_flatMap.1 hx;have:fits p.1 t=true:=Qbh.2 ⟨x,hxp,hf⟩;rw [h1 p hp] at this;cases this
theorem x2w {s:Txt} (hr:y2a s=false) {t:TokD} (hf:y0n s t=true):fits (y4y s) t=true:=by
 unfold y4y;rw [hr,if_neg (by decide)];simp [fits,hf]
theorem dollar {t:TokD} {s:Txt} (h:y0n [36] t=true) (hs:y0n s t=true):s=[36]:=by
 have e:y0n [36] t=((t.kind==2)&&decide (t.text=[36])):=rfl;rw [e] at h;simp only [Qao,Qa7,decide_eq_true_eq] at h;obtain ⟨hk,ht⟩:=h;unfold y0n at hs;rw [hk] at hs;split at hs
 ·cases hs
 split at hs
 ·cases hs
 split at hs
 ·cases hs
 split at hs
 ·cases hs
 split at hs
 ·cases hs
 split at hs
 ·cases hs
 split at hs
 ·cases hs
 cases s with
 |nil=>cases hs
 |cons c r=>
  simp only at hs;split at hs
  ·cases hs
  ·simp only [Qao,decide_eq_true_eq] at hs;rw [←hs.2,ht]
theorem sim {T1:List TokD} (hE:TokA T1): ∀(n:Nat) (st:List Txt) (k:Nat) (op:Int),(∀x∈st,InD x)→adj false st=true→Runs T1 n (st++[y26,endT]) k op→
  ∃κ m,k≤κ∧(∀x r t,st=x::r→T1[k]?=some t→fits (y4y x) t=true→k<κ)∧(∀i t,k≤i→i<κ→T1[i]?=some t→y0n [36] t=false)∧Runs T1 m [y26,endT] κ (op+wt st)∧
   ∀(T:List TokD) (o:Nat),(∀i t,k≤i→i<κ→T1[i]?=some t→ ∃t',T[o+i]?=some t'∧t'.kind=t.kind∧t'.text=t.text)→(∃t',T[o+κ]?=some t'∧x0p t')→
    ∀M rest',rest'.length≤2→Runs T M rest' (o+κ) (op+wt st)→ ∃N,Runs T N (st++rest') (o+k) op:=by
 intro n
 induction n with
 |zero=>
  intro st k op hI ha h
  cases st with
  |nil=>exact absurd h (by unfold Runs;intro h;cases h)
  |cons x r=>exact absurd h (by unfold Runs;intro h;cases h)
 |succ n ih=>
  intro st k op hI ha h
  cases st with
  |nil=>
   have e0:op+wt []=op:=Int.add_zero op;rw [e0];exact ⟨k,n+1,Qab _,fun x r t e _ _=>(List.cons_ne_nil x r e.symm).elim,fun i t h1 h2=>by omega,h,fun T o _ _ M rest' _ hr=>⟨M,hr⟩⟩
  |cons x r=>
   have hx:=hI x (Qaz ..);have hIr: ∀y∈r,InD y:=fun y hy=>hI y (Qa2 _ hy);rw [List.cons_append] at h
   cases hr:y2a x with
   |false=>
    obtain ⟨t,ht⟩:=h.tok
    have hs:(decide (x≠[])&&decide (x.length≤1000)&& !y2a x&&decide (x≠endT))=true:=by
     have h0:=z6f hx.1;have h1:x≠[]:=fun e=>h0 (.inl e)
     have h2:x.length≤1000:=by
      by_cases e:1000<x.length
      ·exact absurd (.inr e) h0
      ·omega
     simp [h1,h2,hr,hx.2.2.2.1]
    obtain ⟨m,e1,hf,hb,-,hl,h2⟩:=h.term hE hs ht
    obtain rfl:n=m:=by omega
    obtain ⟨κ,m',g1,g2,gd,g3,g4⟩:=ih r (k+1) (op+y06 x) hIr (x40 ha) h2;refine ⟨κ,m',by omega,fun _ _ _ _ _ _=>by omega,fun i t' h1 h2 ht'=>?_,by rw [wt,←Int.add_assoc];exact g3,fun T o hag hca M rest' hlen hrun=>?_⟩
    ·by_cases e:i=k
     ·subst e
      obtain rfl:t=t':=by rw [ht] at ht';injection ht'
      cases hd:y0n [36] t with
      |false=>rfl
      |true=>exact absurd (dollar hd hf) hx.2.2.2.2
     ·exact gd i t' (by omega) h2 ht'
    rw [wt,←Int.add_assoc] at hrun;obtain ⟨N,hN⟩:=g4 T o (fun i t hi=>hag i t (by omega)) hca M rest' hlen hrun;obtain ⟨t',ht',k1,k2⟩:=hag k t (Qab _) (by omega) ht;obtain ⟨u,hu,-⟩:=hca;have hul:=(Qac.1 hu).1;refine ⟨N+1,?_⟩;rw [List.cons_append];exact x0r hx.1 hr ht' (by rw [z0x k1 k2];exact hf) hb (by omega) hN
   |true=>
    obtain ⟨⟨T0,z,hT,hrows⟩,-⟩:=z7s hx.1 hr;have hgood:=q55 hx.1 hr hx.2.1 hx.2.2.1;unfold x2t at hgood;rw [hT] at hgood;have hgood:=Qbi.1 hgood;obtain ⟨m,t,c,e1,ht,hc,hlen0,h2⟩:=q2e h hT hx.1 hr
    obtain rfl:n=m:=by omega
    have hrow:c≠[]→ ∃F y q,(F,c)∈T0∧c=y::q∧fits (y4y y) t=true:=fun hne=>by
     rcases hc with hc|⟨_,_,hc⟩
     ·obtain ⟨F,hm,hf⟩:=z7v hc;have hro:=hrows _ hm
      cases c with
      |nil=>exact absurd rfl hne
      |cons y q=>
       unfold x7g at hro;simp only [Qao,decide_eq_true_eq] at hro;refine ⟨F,y,q,hm,rfl,?_⟩;rw [←hro.1.1.2];exact hf
     ·exact absurd hc hne
    have hIc: ∀y∈c,InD y:=fun y hy=>by
     by_cases hne:c=[]
     ·subst hne;cases hy
     ·obtain ⟨F,y0,q,hm,rfl,-⟩:=hrow hne;have hro:=hrows _ hm;have hgo:=hgood _ hm;unfold x7g at hro;simp only [Qao,decide_eq_true_eq] at hro;have h5:=Qbi.1 hro.1.1.1.2 y hy;unfold x2s at hgo;simp only [Qao,decide_eq_true_eq] at hgo;have h6:=Qbi.1 hgo.1.1 y hy;simp only [Qao,decide_eq_true_eq] at h6;exact ⟨h5,h6.1.2,h6.1.1.1,h6.1.1.2,h6.2⟩
    have hwt:wt c=0∧adj (x0q x) c=true:=by
     by_cases hne:c=[]
     ·subst hne;exact ⟨rfl,rfl⟩
     ·obtain ⟨F,y0,q,hm,-,-⟩:=hrow hne;have hgo:=hgood _ hm;unfold x2s at hgo;simp only [Qao,decide_eq_true_eq] at hgo;exact ⟨hgo.1.2,hgo.2⟩
    rw [←Qat] at h2;obtain ⟨κ,m',g1,g2,gd,g3,g4⟩:=ih (c++r) k op (fun y hy=>(Qbf.1 hy).elim (hIc y) (hIr y)) (q2d hwt.2 ha) h2
    have ew:wt (c++r)=wt (x::r):=by rw [wt_app,hwt.1,wt,x0s hr]
    rw [ew] at g3
    have hgo:c≠[]→k<κ:=fun hne=>by
     obtain ⟨F,y,q,-,rfl,hf⟩:=hrow hne;exact g2 y (q++r) t rfl ht hf
    have hnil:c=[]→pick t T0=none∧z=true:=fun e=>by
     rcases hc with hc|⟨h1,h2,-⟩
     ·obtain ⟨F,hm,hf⟩:=z7v hc;have hro:=hrows _ hm;subst e;unfold x7g at hro
      have:F=[]:=by simpa using hro
      subst this;cases hf
     ·exact ⟨h1,h2⟩
    refine ⟨κ,m',g1,fun x' r' t' e ht' hf=>?_,gd,g3,fun T o hag hca M rest' hlen hrun=>?_⟩
    ·injection e with e1 e2;subst e1 e2
     obtain rfl:t=t':=by rw [ht] at ht';injection ht'
     refine hgo fun hne=>?_;exact x2v hr hT hf (hnil hne).1
    ·rw [←ew] at hrun;obtain ⟨N,hN⟩:=g4 T o hag hca M rest' hlen hrun;refine ⟨N+1,?_⟩;rw [Qat] at hN;rw [List.cons_append]
     have hll:c.length+(r++rest').length≤1000000000:=by
      rw [Qae] at hlen0 ⊢;have:([y26,endT]:List Txt).length=2:=rfl;omega
     by_cases hk:k<κ
     ·obtain ⟨t',ht',k1,k2⟩:=hag k t (Qab _) hk ht;exact y6l hT hx.1 hr ht' (by unfold q9k at hc ⊢;rw [x4z k1 k2];exact hc) hll hN
     ·obtain rfl:k=κ:=by omega
      obtain ⟨t',ht',hcalm⟩:=hca
      have hcn:c=[]:=by
       by_cases hne:c=[]
       ·exact hne
       ·exact absurd (hgo hne) hk
      obtain ⟨hp,hz⟩:=hnil hcn
      have hnl:x0q x=false:=by
       cases hlo:x0q x with
       |false=>rfl
       |true=>
        exfalso
        cases r with
        |nil=>rw [adj,hlo] at ha;cases ha
        |cons y r=>
         rw [adj,hlo] at ha;simp only [Bool.not_true,Bool.false_or,Qao,Bool.not_eq_true'] at ha;subst hcn;have hy:=hIr y (Qaz ..);have h0:=z6f hy.1;have q1:y≠[]:=fun e=>h0 (.inl e)
         have q2:y.length≤1000:=by
          by_cases e:1000<y.length
          ·exact absurd (.inr e) h0
          ·omega
         obtain ⟨_,_,hf,_⟩:=Runs.term hE (s:=y) (rest:=r++[y26,endT]) h2 (by simp [q1,q2,ha.1,hy.2.2.2.1]) ht;exact hk (g2 y r t rfl ht (x2w ha.1 hf))
      have hpn:pick t' T0=none:=x2u.2 fun p hp2=>by
       unfold x0q at hnl;rw [hr,hT,hz] at hnl;simp only [Bool.true_and,List.any_eq_false,Bool.not_eq_true] at hnl;have h7:=hnl p hp2
       cases hf:fits p.1 t' with
       |false=>rfl
       |true=>
        obtain ⟨s,hs,hfs⟩:=Qbh.1 hf;rw [q2c hcalm (h7 s hs)] at hfs;cases hfs
      exact y6l hT hx.1 hr ht' (.inr ⟨hpn,hz,hcn⟩) hll hN
end Go.Proofs.YtbpgkkoeehopjaaGreat.gram
