/- Part 9 of 17 of a proof: see the last part. -/
import Derived.Test.YtbpgkkoeehopjaaGreatP4
import Derived.Test.YtbpgkkoeehopjaaGreatP7
import Derived.Test.YtbpgkkoeehopjaaGreatP8
import Derived.Laws.StructEq
set_option linter.unusedVariables false
set_option linter.unusedSimpArgs false
namespace Go.Proofs.YtbpgkkoeehopjaaGreat.hp
open Go.RowKit words enc tree gram lex rd dec dat held
set_option maxRecDepth 100000
set_option maxHeartbeats 40000000
attribute [local go_sem ↓] Go.wp_at_zero Go.wp_at_succ
mutual
def z69 (p:Bool):LitD→LitD→Bool
 | .mk k t b is fs l c,.mk k2 t2 b2 is2 fs2 l2 c2=>k==k2&&t==t2&&b==b2&&(!p||l==l2&&c==c2)&&eqLits p is is2&&eqPairs p fs fs2
def eqLits (p:Bool):List LitD→List LitD→Bool
 |[],[]=>true
 |d::r,e::s=>z69 p d e&&eqLits p r s
 |_,_=>false
def eqPair (p:Bool):PairD→PairD→Bool
 | .mk n v l c,.mk n2 v2 l2 c2=>n==n2&&z69 p v v2&&(!p||l==l2&&c==c2)
def eqPairs (p:Bool):List PairD→List PairD→Bool
 |[],[]=>true
 |d::r,e::s=>eqPair p d e&&eqPairs p r s
 |_,_=>false
end
mutual
theorem z07 (p:Bool): ∀d,z69 p d d=true
 | .mk k t b is fs l c=>by simp [z69,eqLits_refl p is,eqPairs_refl p fs]
theorem eqLits_refl (p:Bool): ∀l,eqLits p l l=true
 |[]=>by simp [eqLits,eqPairs]
 |d::r=>by simp [eqLits,z07 p d,eqLits_refl p r]
theorem eqPair_refl (p:Bool): ∀d,eqPair p d d=true
 | .mk n v l c=>by simp [eqPair,z07 p v]
theorem eqPairs_refl (p:Bool): ∀l,eqPairs p l l=true
 |[]=>by simp [eqLits,eqPairs]
 |d::r=>by simp [eqPairs,eqPair_refl p d,eqPairs_refl p r]
end
theorem z8p {p:Bool}: ∀{l m:List LitD},eqLits p l m=true→l.length=m.length∧ ∀{k:Nat} {x y:LitD},l[k]?=some x→m[k]?=some y→z69 p x y=true
 |[],[],_=>⟨rfl,fun h=>by simp at h⟩
 |d::r,e::s,h=>by
  simp only [eqLits,Qao] at h;obtain ⟨h1,h2⟩:=z8p h.2;refine ⟨by simp [h1],fun {k x y} hx hy=>?_⟩
  cases k with
  |zero=>simp only [List.getElem?_cons_zero,Option.some.injEq] at hx hy;subst hx hy;exact h.1
  |succ k=>exact h2 (k:=k) (by simpa using hx) (by simpa using hy)
 |[],_::_,h=>by simp [eqLits] at h
 |_::_,[],h=>by simp [eqLits] at h
theorem z08 {p:Bool}: ∀{l m:List PairD},eqPairs p l m=true→l.length=m.length∧ ∀{k:Nat} {x y:PairD},l[k]?=some x→m[k]?=some y→eqPair p x y=true
 |[],[],_=>⟨rfl,fun h=>by simp at h⟩
 |d::r,e::s,h=>by
  simp only [eqPairs,Qao] at h;obtain ⟨h1,h2⟩:=z08 h.2;refine ⟨by simp [h1],fun {k x y} hx hy=>?_⟩
  cases k with
  |zero=>simp only [List.getElem?_cons_zero,Option.some.injEq] at hx hy;subst hx hy;exact h.1
  |succ k=>exact h2 (k:=k) (by simpa using hx) (by simpa using hy)
 |[],_::_,h=>by simp [eqPairs] at h
 |_::_,[],h=>by simp [eqPairs] at h
section
variable {P : Program} {w0 w K K' : World} {M N : List Ent} {ops : Array Oper} {Q : Exit → Act → World → Prop} {F : List Nat} {fuel : Nat} {listed : Array Bool} {a a' : Act} {oi : Oper} {o : Oper} {v : Value}
theorem datA {ty:TypeId} {x:Operand} {n j:Nat} {p:Addr} {cs us:List Value} (ho:o.op= .load ty x:=by rfl) (hs:Rw P ty n:=by infer_instance) (hx:a.eval x= .pointer (some ⟨p.block,p.off+(j+1),none⟩):=by rfl)
  (hc:At K p cs:=by assumption) (hn:(cs.drop (j+1)).take n=us:=by (simp only [List.drop_succ_cons,List.take_succ_cons,List.drop_zero,List.take_zero,List.take_nil];try rfl)) (hl:us.length=n:=by rfl):z06 P o a K M (.agg us.toArray):=fun w0 w H=>by
 obtain ⟨d,hu,hd⟩:=hs.u;have hsz:=hs.s;rw [←hl] at hsz
 have hat:At w ⟨p.block,p.off+(j+1),none⟩ us:=⟨fun u hu=>(At.sat hc H.sat).2 j u (by
  rw [←hn,Qbb,Qbc] at hu;split at hu
  ·simpa using hu
  ·cases hu),fun i u hu=>by
  have:=(At.sat hc H.sat).2 (j+(i+1)) u (by
   rw [←hn,Qbb,Qbc] at hu;split at hu
   ·rwa [show j+1+(i+1)=j+(i+1)+1 by omega] at hu
   ·cases hu)
  rwa [show p.off+(j+(i+1)+1)=p.off+(j+1)+(i+1) by omega] at this⟩
 unfold execOp;simp only [ho,hx,Instr.loadAt,Instr.sureAddr,Sem.run_bind,Sem.run_pure,Result.andThen_ok,y4g w _ ty us d hat hu hd hsz]
theorem rU (i:Nat) (H:Hp w0 w K' N) (h:AnyL P .any ops Q (Ov w0 K M) F fuel (listed.setIfInBounds i true) a' w) (hi:ops[i]?=some oi:=by (simp only [List.getElem?_toArray,List.getElem?_cons_zero,List.getElem?_cons_succ];try rfl))
  (ha:a.put oi.dst undef=a':=by (simp only [Act.put,List.getElem_toArray,List.getElem_cons_zero,List.getElem_cons_succ,List.setIfInBounds_toArray,List.set_cons_zero,List.set_cons_succ];try rfl))
  (hw:Region.wanted oi (yielded ops a.tmps)=false:=by rfl) (hs:Region.noSelect ops=true:=by kernel_rfl) (hf:Region.free .any ops listed i=true:=by kernel_rfl) (hr:(Region.ready .any ops listed).contains i=true:=by kernel_rfl) (hF:waits .any ops F i=true:=by kernel_rfl) (hc:closed .any ops listed=true:=by kernel_rfl)
  (hle:Sat K' K:=by first|exact Sat.refl _|assumption) (hsf:Inc M N:=by first|((repeat (first|exact n0|exact nN|apply nD))<;>fail)|((repeat (first|exact n0|exact nN|refine nS (by ((repeat (first|exact u0|apply uS))<;>fail)) ?_|apply nD))<;>fail)|fail) (hQ: ∀c a w,Q (.panic c) (a.put oi.dst undef) w→Q (.panic c) a w:=by exact fun _ _ _ h=>h):AnyL P .any ops Q (Ov w0 K M) F (fuel+1) listed a w:=
 held.take hi hs hf hr hF hc hQ (.inr ⟨hw,rfl⟩) ⟨K',N,hle,H,hsf⟩ (ha▸h)
end
instance:Sc Tryz.prog 117:=⟨⟨_,Tryz.underlying117,rfl⟩⟩
section
variable {w0 w K : World} {M : List Ent}
theorem y8i (p:Bool): ∀(m:Nat) (d e:LitD) (cs es:Array Value) (w0 w K:World) (M:List Ent),litN d≤m→m≤9000000→z69 p d e=true→RL K (litL d) cs.toList→RL K (litL e) es.toList→Hp w0 w K M→
  Calls Tryz.prog 153 #[.agg cs,.agg es,.bool p] w fun e w'=>e= .returned (.bool true)∧Hp w0 w' K M:=by
 intro m
 induction m with
 |zero=>intro d e cs es w0 w K M h;have:=y6q d;omega
 |succ m ih=>
 intro d e cs es w0 w K M hn hm heq hd he H;obtain ⟨kind,text,block,items,fields,line,col⟩:=d;obtain ⟨kind2,text2,block2,items2,fields2,line2,col2⟩:=e;obtain ⟨Ai,ci,Af,cf,hcs,hi,hf⟩:=y0i hd;obtain rfl:cs= #[_,_,_,_,_,_,_]:=Qal.1 hcs;obtain ⟨Bi,bi,Bf,bf,hes,gi,gf⟩:=y0i he;obtain rfl:es= #[_,_,_,_,_,_,_]:=Qal.1 hes;simp only [z69,Qao,Qa7] at heq;obtain ⟨⟨⟨⟨⟨h1,h2⟩,h3⟩,h4⟩,h5⟩,h6⟩:=heq;subst h1 h2 h3;obtain ⟨e5,E5⟩:=z8p h5;obtain ⟨e6,E6⟩:=z08 h6
 have hni:items.length≤9000000:=by have:=z2n items;simp only [litN] at hn;omega
 have hnf:fields.length≤9000000:=by have:=y5d fields;simp only [litN] at hn;omega
 have HI:=hide (show ∀x∈items,litN x≤m from fun x hx=>by obtain ⟨k,hk⟩:=Qaq hx;have:=z63 hk;simp only [litN] at hn;omega);have HF:=hide (show ∀x∈fields,pairN x≤m from fun x hx=>by obtain ⟨k,hk⟩:=Qaq hx;have:=y6r hk;simp only [litN] at hn;omega);have HE5:=hide (show ∀(k:Nat) (x y:LitD),items[k]?=some x→items2[k]?=some y→z69 p x y=true from fun k x y=>E5);have HE6:=hide (show ∀(k:Nat) (x y:PairD),fields[k]?=some x→fields2[k]?=some y→eqPair p x y=true from fun k x y=>E6);have HIH:=hide ih;rw [y6n] at hi gi;rw [y20] at hf gf;clear ih hcs hes hd he hn h5 h6 E5 E6;rw [←e5] at gi;rw [←e6] at gf;obtain ⟨ni,hni2⟩: ∃x,items.length=x:=⟨_,rfl⟩;obtain ⟨nf,hnf2⟩: ∃x,fields.length=x:=⟨_,rfl⟩;rw [hni2] at hi gi hni e5;rw [hnf2] at hf gf hnf e6;rw [←e5,←e6,hni2,hnf2];have HNI:=hide hni2;have HNF:=hide hnf2;have HNJ:=hide e5.symm;have HNG:=hide e6.symm;clear hni2 hnf2 e5 e6
 cases p with
 |false=>
  go_enter Tryz.func153,Tryz.ntmps153
  go_upto_region 1 with (first|(refine oA 3 H ?_;clear H;intro w gv H)|(refine oA 4 H ?_;clear H;intro w gu H))
  have a0:=H.c 0 0;have a1:=H.c 0 1;have a2:=H.c 0 2;have a3:=H.c 0 3;have a4:=H.c 0 4;have a5:=H.c 0 5;have a6:=H.c 0 6;have b5:=H.c 1 5;have b6:=H.c 1 6;have b0:=H.c 1 0;have b1:=H.c 1 1;have b2:=H.c 1 2;have b3:=H.c 1 3;have b4:=H.c 1 4
  go_wp2_with fail
  go_loopw [7] (fun i wr=>∃k:Nat,k≤ni∧i= .int .i64 k∧Hp w0 wr K (.box gu [.int .i64 kind,.string (str text),.bool block,.slice Bi ni bi,.slice Bf nf bf,.int .i64 line2,.int .i64 col2] 121:: .box gv [.int .i64 kind,.string (str text),.bool block,.slice Ai ni ci,.slice Af nf cf,.int .i64 line,.int .i64 col] 121::M)) (fun i _=>ni - (intOf i).toNat)
  case atStart=>exact ⟨0,Qak _,rfl,H⟩
  case round=>
   clear H;obtain ⟨k,hk,rfl,H⟩:=hrel;by_cases hlt:k<ni
   ·obtain ⟨x,ad,us,hx,rfl,hxl,hat⟩:=el_k y5o hi (by rw [HNI.out];exact hlt) (by decide);obtain ⟨y,bd,vs,hy,rfl,hyl,hbt⟩:=el_k y5o gi (by rw [HNJ.out];exact hlt) (by decide);obtain ⟨hkI,hwr⟩:=wr_k hlt hni;have hxn:=HI.out x (Qaf hx);have hxy:=hide (HE5.out k x y hx hy);obtain ⟨dk,dt,db,di,df,dln,dcl⟩:=x;obtain ⟨Xi,xi,Xf,xf,rfl,-,-⟩:=y0i hxl;obtain ⟨dk',dt',db',di',df',dln',dcl'⟩:=y;obtain ⟨Yi,yi,Yf,yf,rfl,-,-⟩:=y0i hyl;have hc:=fun {w M} (h:Hp w0 w K M)=>HIH.out _ _ #[_,_,_,_,_,_,_] #[_,_,_,_,_,_,_] w0 w K M hxn (by omega) hxy.out hxl hyl h;clear hx hy
    go_wp2_with (refine oL H ?_)
    refine rB [] H ?_;clear H;intro w H;refine rT 0 H ?_;refine rT 1 H ?_;refine rT 2 H ?_;refine rT 3 H ?_;refine rT 4 H ?_;refine rT 5 H ?_;refine rT 6 H ?_;refine rT 7 H ?_;refine rT 8 H ?_;refine rT 9 H ?_;refine rT 10 H ?_;refine rC 11 (hc H) ?_;clear H;rintro e w ⟨rfl,H⟩;refine rX H ?_;refine rT 12 H ?_;refine rE ?_
    go_wp2_with (first|(refine oL H ?_)|(refine oP H ?_;clear H;intro w _ H))
    go_roundw
    case rel=>exact ⟨k+1,by omega,by go_num,H⟩
    case measure=>simp [intOf];omega
   ·obtain rfl:ni=k:=by omega
    clear hlt
    go_wp2_with (refine oL H ?_)
    go_loopw [9] (fun i wr=>∃k:Nat,k≤nf∧i= .int .i64 k∧Hp w0 wr K (.box gu [.int .i64 kind,.string (str text),.bool block,.slice Bi ni bi,.slice Bf nf bf,.int .i64 line2,.int .i64 col2] 121:: .box gv [.int .i64 kind,.string (str text),.bool block,.slice Ai ni ci,.slice Af nf cf,.int .i64 line,.int .i64 col] 121::M)) (fun i _=>nf - (intOf i).toNat)
    case atStart=>exact ⟨0,Qak _,rfl,H⟩
    case round=>
     clear H;obtain ⟨k,hk,rfl,H⟩:=hrel;by_cases hlt:k<nf
     ·obtain ⟨x,ad,us,hx,rfl,hxl,hat⟩:=el_k y2z hf (by rw [HNF.out];exact hlt) (by decide);obtain ⟨y,bd,vs,hy,rfl,hyl,hbt⟩:=el_k y2z gf (by rw [HNG.out];exact hlt) (by decide);obtain ⟨hkI,hwr⟩:=wr_k hlt hnf;have hxn:=HF.out x (Qaf hx);have hxy:=HE6.out k x y hx hy;obtain ⟨pn,⟨dk,dt,db,di,df,dln,dcl⟩,pl,pc⟩:=x;obtain ⟨qn,⟨dk',dt',db',di',df',dln',dcl'⟩,ql,qc⟩:=y;simp only [eqPair,Qao,Qa7] at hxy;obtain ⟨⟨rfl,hxy⟩,hpos⟩:=hxy;clear hpos;have hxy:=hide hxy;obtain ⟨ls,rfl,hvl⟩:=y1y hxl;obtain ⟨Xi,xi,Xf,xf,rfl,-,-⟩:=y0i hvl;obtain ⟨ls,rfl,hul⟩:=y1y hyl;obtain ⟨Yi,yi,Yf,yf,rfl,-,-⟩:=y0i hul;simp only [pairN] at hxn;have hc:=fun {w M} (h:Hp w0 w K M)=>HIH.out _ _ #[_,_,_,_,_,_,_] #[_,_,_,_,_,_,_] w0 w K M (by omega) (by omega) hxy.out hvl hul h;simp only [List.cons_append,List.nil_append] at hat hbt;clear hx hy
      go_wp2_with (refine oL H ?_)
      refine rB [] H ?_;clear H;intro w H;refine rT 0 H ?_;refine rT 1 H ?_;refine rT 2 H ?_;refine rT 3 H ?_;refine rT 4 H ?_;refine rT 5 H ?_ (hd:=datA);refine rT 6 H ?_;refine rT 7 H ?_;refine rT 8 H ?_;refine rT 9 H ?_;refine rT 10 H ?_;refine rT 11 H ?_ (hd:=datA);refine rT 12 H ?_;refine rC 13 (hc H) ?_;clear H;rintro e w ⟨rfl,H⟩;refine rX H ?_;refine rT 14 H ?_;refine rE ?_
      go_wp2_with fail
      refine rB [] H ?_;clear H;intro w H;refine rT 0 H ?_;refine rT 1 H ?_;refine rT 2 H ?_;refine rT 3 H ?_;refine rT 4 H ?_;refine rT 5 H ?_;refine rT 6 H ?_;refine rT 7 H ?_;refine rT 8 H ?_;refine rT 9 H ?_;refine rT 10 H ?_;refine rT 11 H ?_;refine rT 12 H ?_;refine rT 13 H ?_;refine rT 14 H ?_;refine rT 15 H ?_;refine rT 16 H ?_;refine rT 17 H ?_;refine rT 18 H ?_;refine rT 19 H ?_;refine rU 20 H ?_;refine rU 21 H ?_;refine rU 22 H ?_;refine rU 23 H ?_;refine rU 24 H ?_;refine rU 25 H ?_;refine rU 26 H ?_;refine rU 27 H ?_;refine rU 28 H ?_;refine rU 29 H ?_;refine rU 30 H ?_;refine rU 31 H ?_;refine rU 32 H ?_;refine rT 33 H ?_;refine rT 34 H ?_;refine rE ?_
      go_wp2_with fail
      go_roundw
      case rel=>exact ⟨k+1,by omega,by go_num,H⟩
      case measure=>simp [intOf];omega
     ·obtain rfl:nf=k:=by omega
      go_wp2_with (refine oL H ?_)
      go_ret;exact ⟨rfl,H.fin⟩
 |true=>
  simp only [Bool.not_true,Bool.false_or,Qao,Qa7] at h4;obtain ⟨rfl,rfl⟩:=h4;go_enter Tryz.func153,Tryz.ntmps153
  go_upto_region 1 with (first|(refine oA 3 H ?_;clear H;intro w gv H)|(refine oA 4 H ?_;clear H;intro w gu H))
  have a0:=H.c 0 0;have a1:=H.c 0 1;have a2:=H.c 0 2;have a3:=H.c 0 3;have a4:=H.c 0 4;have a5:=H.c 0 5;have a6:=H.c 0 6;have b5:=H.c 1 5;have b6:=H.c 1 6;have b0:=H.c 1 0;have b1:=H.c 1 1;have b2:=H.c 1 2;have b3:=H.c 1 3;have b4:=H.c 1 4
  go_wp2_with fail
  go_loopw [7] (fun i wr=>∃k:Nat,k≤ni∧i= .int .i64 k∧Hp w0 wr K (.box gu [.int .i64 kind,.string (str text),.bool block,.slice Bi ni bi,.slice Bf nf bf,.int .i64 line,.int .i64 col] 121:: .box gv [.int .i64 kind,.string (str text),.bool block,.slice Ai ni ci,.slice Af nf cf,.int .i64 line,.int .i64 col] 121::M)) (fun i _=>ni - (intOf i).toNat)
  case atStart=>exact ⟨0,Qak _,rfl,H⟩
  case round=>
   clear H;obtain ⟨k,hk,rfl,H⟩:=hrel;by_cases hlt:k<ni
   ·obtain ⟨x,ad,us,hx,rfl,hxl,hat⟩:=el_k y5o hi (by rw [HNI.out];exact hlt) (by decide);obtain ⟨y,bd,vs,hy,rfl,hyl,hbt⟩:=el_k y5o gi (by rw [HNJ.out];exact hlt) (by decide);obtain ⟨hkI,hwr⟩:=wr_k hlt hni;have hxn:=HI.out x (Qaf hx);have hxy:=hide (HE5.out k x y hx hy);obtain ⟨dk,dt,db,di,df,dln,dcl⟩:=x;obtain ⟨Xi,xi,Xf,xf,rfl,-,-⟩:=y0i hxl;obtain ⟨dk',dt',db',di',df',dln',dcl'⟩:=y;obtain ⟨Yi,yi,Yf,yf,rfl,-,-⟩:=y0i hyl;have hc:=fun {w M} (h:Hp w0 w K M)=>HIH.out _ _ #[_,_,_,_,_,_,_] #[_,_,_,_,_,_,_] w0 w K M hxn (by omega) hxy.out hxl hyl h;clear hx hy
    go_wp2_with (refine oL H ?_)
    refine rB [] H ?_;clear H;intro w H;refine rT 0 H ?_;refine rT 1 H ?_;refine rT 2 H ?_;refine rT 3 H ?_;refine rT 4 H ?_;refine rT 5 H ?_;refine rT 6 H ?_;refine rT 7 H ?_;refine rT 8 H ?_;refine rT 9 H ?_;refine rT 10 H ?_;refine rC 11 (hc H) ?_;clear H;rintro e w ⟨rfl,H⟩;refine rX H ?_;refine rT 12 H ?_;refine rE ?_
    go_wp2_with (first|(refine oL H ?_)|(refine oP H ?_;clear H;intro w _ H))
    go_roundw
    case rel=>exact ⟨k+1,by omega,by go_num,H⟩
    case measure=>simp [intOf];omega
   ·obtain rfl:ni=k:=by omega
    clear hlt
    go_wp2_with (refine oL H ?_)
    go_loopw [9] (fun i wr=>∃k:Nat,k≤nf∧i= .int .i64 k∧Hp w0 wr K (.box gu [.int .i64 kind,.string (str text),.bool block,.slice Bi ni bi,.slice Bf nf bf,.int .i64 line,.int .i64 col] 121:: .box gv [.int .i64 kind,.string (str text),.bool block,.slice Ai ni ci,.slice Af nf cf,.int .i64 line,.int .i64 col] 121::M)) (fun i _=>nf - (intOf i).toNat)
    case atStart=>exact ⟨0,Qak _,rfl,H⟩
    case round=>
     clear H;obtain ⟨k,hk,rfl,H⟩:=hrel;by_cases hlt:k<nf
     ·obtain ⟨x,ad,us,hx,rfl,hxl,hat⟩:=el_k y2z hf (by rw [HNF.out];exact hlt) (by decide);obtain ⟨y,bd,vs,hy,rfl,hyl,hbt⟩:=el_k y2z gf (by rw [HNG.out];exact hlt) (by decide);obtain ⟨hkI,hwr⟩:=wr_k hlt hnf;have hxn:=HF.out x (Qaf hx);have hxy:=HE6.out k x y hx hy;obtain ⟨pn,⟨dk,dt,db,di,df,dln,dcl⟩,pl,pc⟩:=x;obtain ⟨qn,⟨dk',dt',db',di',df',dln',dcl'⟩,ql,qc⟩:=y;simp only [eqPair,Qao,Qa7] at hxy;obtain ⟨⟨rfl,hxy⟩,hpos⟩:=hxy;simp only [Bool.not_true,Bool.false_or,Qao,Qa7] at hpos;obtain ⟨rfl,rfl⟩:=hpos;have hxy:=hide hxy;obtain ⟨ls,rfl,hvl⟩:=y1y hxl;obtain ⟨Xi,xi,Xf,xf,rfl,-,-⟩:=y0i hvl;obtain ⟨ls,rfl,hul⟩:=y1y hyl;obtain ⟨Yi,yi,Yf,yf,rfl,-,-⟩:=y0i hul;simp only [pairN] at hxn;have hc:=fun {w M} (h:Hp w0 w K M)=>HIH.out _ _ #[_,_,_,_,_,_,_] #[_,_,_,_,_,_,_] w0 w K M (by omega) (by omega) hxy.out hvl hul h;simp only [List.cons_append,List.nil_append] at hat hbt;clear hx hy
      go_wp2_with (refine oL H ?_)
      refine rB [] H ?_;clear H;intro w H;refine rT 0 H ?_;refine rT 1 H ?_;refine rT 2 H ?_;refine rT 3 H ?_;refine rT 4 H ?_;refine rT 5 H ?_ (hd:=datA);refine rT 6 H ?_;refine rT 7 H ?_;refine rT 8 H ?_;refine rT 9 H ?_;refine rT 10 H ?_;refine rT 11 H ?_ (hd:=datA);refine rT 12 H ?_;refine rC 13 (hc H) ?_;clear H;rintro e w ⟨rfl,H⟩;refine rX H ?_;refine rT 14 H ?_;refine rE ?_
      go_wp2_with fail
      refine rB [] H ?_;clear H;intro w H;refine rT 0 H ?_;refine rT 1 H ?_;refine rT 2 H ?_;refine rT 3 H ?_;refine rT 4 H ?_;refine rT 5 H ?_;refine rT 6 H ?_;refine rT 7 H ?_;refine rT 8 H ?_;refine rT 9 H ?_;refine rT 10 H ?_;refine rT 11 H ?_;refine rT 12 H ?_;refine rT 13 H ?_;refine rT 14 H ?_;refine rT 15 H ?_;refine rT 16 H ?_;refine rT 17 H ?_;refine rT 18 H ?_;refine rT 19 H ?_;refine rT 20 H ?_;refine rT 21 H ?_;refine rT 22 H ?_;refine rT 23 H ?_;refine rT 24 H ?_;refine rT 25 H ?_ (hd:=datA);refine rT 26 H ?_;refine rT 27 H ?_;refine rT 28 H ?_;refine rT 29 H ?_;refine rT 30 H ?_;refine rT 31 H ?_ (hd:=datA);refine rT 32 H ?_;refine rT 33 H ?_;refine rT 34 H ?_;refine rE ?_
      go_wp2_with fail
      go_roundw
      case rel=>exact ⟨k+1,by omega,by go_num,H⟩
      case measure=>simp [intOf];omega
     ·obtain rfl:nf=k:=by omega
      go_wp2_with (refine oL H ?_)
      go_ret;exact ⟨rfl,H.fin⟩
end
def y4b {α:Type} (f:α→α→Bool):List α→List α→Bool
 |[],[]=>true
 |d::r,e::s=>f d e&&y4b f r s
 |_,_=>false
theorem y1z {α:Type} {f:α→α→Bool} (hf: ∀d,f d d=true): ∀l,y4b f l l=true
 |[]=>rfl
 |d::r=>by simp [y4b,hf d,y1z hf r]
theorem y5t {α:Type} {f:α→α→Bool}: ∀{l m:List α},y4b f l m=true→l.length=m.length∧ ∀{k:Nat} {x y:α},l[k]?=some x→m[k]?=some y→f x y=true
 |[],[],_=>⟨rfl,fun h=>by simp at h⟩
 |d::r,e::s,h=>by
  simp only [y4b,Qao] at h;obtain ⟨h1,h2⟩:=y5t h.2;refine ⟨by simp [h1],fun {k x y} hx hy=>?_⟩
  cases k with
  |zero=>simp only [List.getElem?_cons_zero,Option.some.injEq] at hx hy;subst hx hy;exact h.1
  |succ k=>exact h2 (k:=k) (by simpa using hx) (by simpa using hy)
 |[],_::_,h=>by simp [y4b] at h
 |_::_,[],h=>by simp [y4b] at h
def z7a (p:Bool) (d e:DirD):Bool:=d.name==e.name&&(!p||d.line==e.line&&d.col==e.col)&&eqPairs p d.args e.args
theorem y8j (p:Bool) (d:DirD):z7a p d d=true:=by simp [z7a,eqPairs_refl]
section
variable {w0 w K : World} {M : List Ent}
theorem z3w (p:Bool) {l m:List PairD} {A B:Option Addr} {c b:Nat} (hn:pairsN l≤9000000) (heq:eqPairs p l m=true) (hd:RD K (.list l.length (pairsL l)) (.slice A l.length c)) (he:RD K (.list m.length (pairsL m)) (.slice B m.length b)) (H:Hp w0 w K M):
  Calls Tryz.prog 154 #[.slice A l.length c,.slice B m.length b,.bool p] w fun e w'=>e= .returned (.bool true)∧Hp w0 w' K M:=by
 obtain ⟨e6,E6⟩:=z08 heq
 have hnf:l.length≤9000000:=by have:=y5d l;omega
 have HF:=hide (show ∀x∈l,pairN x≤9000000 from fun x hx=>by obtain ⟨k,hk⟩:=Qaq hx;have:=y6r hk;omega);have HE6:=hide (show ∀(k:Nat) (x y:PairD),l[k]?=some x→m[k]?=some y→eqPair p x y=true from fun k x y=>E6);rw [y20] at hd he;rw [←e6] at he ⊢;obtain ⟨nf,hnf2⟩: ∃x,l.length=x:=⟨_,rfl⟩;rw [hnf2] at hd he hnf e6 ⊢;have HNF:=hide hnf2;have HNG:=hide e6.symm;clear hnf2 e6 E6 heq hn;go_enter Tryz.func154,Tryz.ntmps154
 go_wp2_with fail
 go_loopw [7] (fun i wr=>∃k:Nat,k≤nf∧i= .int .i64 k∧Hp w0 wr K M) (fun i _=>nf - (intOf i).toNat)
 case atStart=>exact ⟨0,Qak _,rfl,H⟩
 case round=>
  clear H;obtain ⟨k,hk,rfl,H⟩:=hrel;by_cases hlt:k<nf
  ·obtain ⟨x,ad,us,hx,rfl,hxl,hat⟩:=el_k y2z hd (by rw [HNF.out];exact hlt) (by decide);obtain ⟨y,bd,vs,hy,rfl,hyl,hbt⟩:=el_k y2z he (by rw [HNG.out];exact hlt) (by decide);obtain ⟨hkI,hwr⟩:=wr_k hlt hnf;have hxn:=HF.out x (Qaf hx);have hxy:=HE6.out k x y hx hy;obtain ⟨pn,⟨dk,dt,db,di,df,dln,dcl⟩,pl,pc⟩:=x;obtain ⟨qn,⟨dk',dt',db',di',df',dln',dcl'⟩,ql,qc⟩:=y;simp only [eqPair,Qao,Qa7] at hxy
   cases p with
   |false=>
    obtain ⟨⟨rfl,hxy⟩,hpos⟩:=hxy;clear hpos;have hxy:=hide hxy;obtain ⟨ls,rfl,hvl⟩:=y1y hxl;obtain ⟨Xi,xi,Xf,xf,rfl,-,-⟩:=y0i hvl;obtain ⟨ls,rfl,hul⟩:=y1y hyl;obtain ⟨Yi,yi,Yf,yf,rfl,-,-⟩:=y0i hul;simp only [pairN] at hxn;have hc:=fun {w M} (h:Hp w0 w K M)=>y8i _ 9000000 _ _ #[_,_,_,_,_,_,_] #[_,_,_,_,_,_,_] w0 w K M (by omega) (Qab _) hxy.out hvl hul h;simp only [List.cons_append,List.nil_append] at hat hbt;clear hx hy
    go_wp2_with fail
    refine rB [] H ?_;clear H;intro w H;refine rT 0 H ?_;refine rT 1 H ?_;refine rT 2 H ?_;refine rT 3 H ?_;refine rT 4 H ?_ (hd:=datA);refine rT 5 H ?_;refine rT 6 H ?_;refine rT 7 H ?_;refine rT 8 H ?_;refine rT 9 H ?_ (hd:=datA);refine rT 10 H ?_;refine rC 11 (hc H) ?_;clear H;rintro e w ⟨rfl,H⟩;refine rX H ?_;refine rT 12 H ?_;refine rE ?_
    go_wp2_with fail
    refine rB [] H ?_;clear H;intro w H;refine rT 0 H ?_;refine rT 1 H ?_;refine rT 2 H ?_;refine rT 3 H ?_;refine rT 4 H ?_;refine rT 5 H ?_;refine rT 6 H ?_;refine rT 7 H ?_;refine rT 8 H ?_;refine rT 9 H ?_;refine rT 10 H ?_;refine rT 11 H ?_;refine rT 12 H ?_;refine rT 13 H ?_;refine rT 14 H ?_;refine rT 15 H ?_;refine rT 16 H ?_;refine rT 17 H ?_;refine rU 18 H ?_;refine rU 19 H ?_;refine rU 20 H ?_;refine rU 21 H ?_;refine rU 22 H ?_;refine rU 23 H ?_;refine rU 24 H ?_;refine rU 25 H ?_;refine rU 26 H ?_;refine rU 27 H ?_;refine rU 28 H ?_;refine rT 29 H ?_;refine rT 30 H ?_;refine rE ?_
    go_wp2_with fail
    go_roundw
    case rel=>exact ⟨k+1,by omega,by go_num,H⟩
    case measure=>simp [intOf];omega
   |true=>
    obtain ⟨⟨rfl,hxy⟩,hpos⟩:=hxy;simp only [Bool.not_true,Bool.false_or,Qao,Qa7] at hpos;obtain ⟨rfl,rfl⟩:=hpos;have hxy:=hide hxy;obtain ⟨ls,rfl,hvl⟩:=y1y hxl;obtain ⟨Xi,xi,Xf,xf,rfl,-,-⟩:=y0i hvl;obtain ⟨ls,rfl,hul⟩:=y1y hyl;obtain ⟨Yi,yi,Yf,yf,rfl,-,-⟩:=y0i hul;simp only [pairN] at hxn;have hc:=fun {w M} (h:Hp w0 w K M)=>y8i _ 9000000 _ _ #[_,_,_,_,_,_,_] #[_,_,_,_,_,_,_] w0 w K M (by omega) (Qab _) hxy.out hvl hul h;simp only [List.cons_append,List.nil_append] at hat hbt;clear hx hy
    go_wp2_with fail
    refine rB [] H ?_;clear H;intro w H;refine rT 0 H ?_;refine rT 1 H ?_;refine rT 2 H ?_;refine rT 3 H ?_;refine rT 4 H ?_ (hd:=datA);refine rT 5 H ?_;refine rT 6 H ?_;refine rT 7 H ?_;refine rT 8 H ?_;refine rT 9 H ?_ (hd:=datA);refine rT 10 H ?_;refine rC 11 (hc H) ?_;clear H;rintro e w ⟨rfl,H⟩;refine rX H ?_;refine rT 12 H ?_;refine rE ?_
    go_wp2_with fail
    refine rB [] H ?_;clear H;intro w H;refine rT 0 H ?_;refine rT 1 H ?_;refine rT 2 H ?_;refine rT 3 H ?_;refine rT 4 H ?_;refine rT 5 H ?_;refine rT 6 H ?_;refine rT 7 H ?_;refine rT 8 H ?_;refine rT 9 H ?_;refine rT 10 H ?_;refine rT 11 H ?_;refine rT 12 H ?_;refine rT 13 H ?_;refine rT 14 H ?_;refine rT 15 H ?_;refine rT 16 H ?_;refine rT 17 H ?_;refine rT 18 H ?_;refine rT 19 H ?_;refine rT 20 H ?_;refine rT 21 H ?_;refine rT 22 H ?_ (hd:=datA);refine rT 23 H ?_;refine rT 24 H ?_;refine rT 25 H ?_;refine rT 26 H ?_;refine rT 27 H ?_ (hd:=datA);refine rT 28 H ?_;refine rT 29 H ?_;refine rT 30 H ?_;refine rE ?_
    go_wp2_with fail
    go_roundw
    case rel=>exact ⟨k+1,by omega,by go_num,H⟩
    case measure=>simp [intOf];omega
  ·obtain rfl:nf=k:=by omega
   go_wp2_with fail
   go_ret;exact ⟨rfl,H⟩
theorem y3g (p:Bool) {l m:List DirD} {A B:Option Addr} {c b:Nat} (hn:sumN dirN l≤9000000) (heq:y4b (z7a p) l m=true) (hd:RD K (.list l.length (y2a l)) (.slice A l.length c)) (he:RD K (.list m.length (y2a m)) (.slice B m.length b)) (H:Hp w0 w K M):
  Calls Tryz.prog 116 #[.slice A l.length c,.slice B m.length b,.bool p] w fun e w'=>e= .returned (.bool true)∧Hp w0 w' K M:=by
 obtain ⟨e6,E6⟩:=y5t heq;have hnf:=Qah (y0o y4f l) hn;have HF:=hide (show ∀x∈l,dirN x≤9000000 from fun x hx=>by obtain ⟨k,hk⟩:=Qaq hx;have:=y5e (f:=dirN) hk;omega);have HE6:=hide (show ∀(k:Nat) (x y:DirD),l[k]?=some x→m[k]?=some y→z7a p x y=true from fun k x y=>E6);rw [←e6] at he ⊢;obtain ⟨nf,hnf2⟩: ∃x,l.length=x:=⟨_,rfl⟩;rw [hnf2] at hd he hnf e6 ⊢;have HNF:=hide hnf2;have HNG:=hide e6.symm;clear hnf2 e6 E6 heq hn;go_enter Tryz.func116,Tryz.ntmps116
 go_wp2_with fail
 go_loopw [7] (fun i wr=>∃k:Nat,k≤nf∧i= .int .i64 k∧Hp w0 wr K M) (fun i _=>nf - (intOf i).toNat)
 case atStart=>exact ⟨0,Qak _,rfl,H⟩
 case round=>
  clear H;obtain ⟨k,hk,rfl,H⟩:=hrel;by_cases hlt:k<nf
  ·obtain ⟨x,ad,us,hx,rfl,hxl,hat⟩:=el_k (m:=4) (f:=dirL) (fun _=>rfl) hd (by rw [HNF.out];exact hlt) (by decide);obtain ⟨y,bd,vs,hy,rfl,hyl,hbt⟩:=el_k (m:=4) (f:=dirL) (fun _=>rfl) he (by rw [HNG.out];exact hlt) (by decide);obtain ⟨hkI,hwr⟩:=wr_k hlt hnf;have hxn:=HF.out x (Qaf hx);have hxy:=HE6.out k x y hx hy;obtain ⟨pn,pas,pl,pc⟩:=x;obtain ⟨qn,qas,ql,qc⟩:=y;simp only [z7a,Qao,Qa7] at hxy
   cases p with
   |false=>
    obtain ⟨⟨rfl,hpos⟩,hxy⟩:=hxy;clear hpos;have hxy:=hide hxy;obtain ⟨Aa,ca,rfl,ha⟩:=y59 hxl;obtain ⟨Ab,cb,rfl,hb⟩:=y59 hyl;simp only [dirN] at hxn;dsimp only at ha hb hat hbt;have hc:=fun {w M} (h:Hp w0 w K M)=>z3w _ (by omega) hxy.out ha hb h;clear hx hy
    go_wp2_with fail
    refine rB [] H ?_;clear H;intro w H;refine rT 0 H ?_;refine rT 1 H ?_;refine rT 2 H ?_;refine rT 3 H ?_;refine rT 4 H ?_;refine rT 5 H ?_;refine rT 6 H ?_;refine rT 7 H ?_;refine rT 8 H ?_;refine rT 9 H ?_;refine rT 10 H ?_;refine rC 11 (hc H) ?_;clear H;rintro e w ⟨rfl,H⟩;refine rX H ?_;refine rT 12 H ?_;refine rE ?_
    go_wp2_with fail
    refine rB [] H ?_;clear H;intro w H;refine rT 0 H ?_;refine rT 1 H ?_;refine rT 2 H ?_;refine rT 3 H ?_;refine rT 4 H ?_;refine rT 5 H ?_;refine rT 6 H ?_;refine rT 7 H ?_;refine rT 8 H ?_;refine rT 9 H ?_;refine rT 10 H ?_;refine rT 11 H ?_;refine rT 12 H ?_;refine rT 13 H ?_;refine rT 14 H ?_;refine rT 15 H ?_;refine rT 16 H ?_;refine rT 17 H ?_;refine rU 18 H ?_;refine rU 19 H ?_;refine rU 20 H ?_;refine rU 21 H ?_;refine rU 22 H ?_;refine rU 23 H ?_;refine rU 24 H ?_;refine rU 25 H ?_;refine rU 26 H ?_;refine rU 27 H ?_;refine rU 28 H ?_;refine rT 29 H ?_;refine rT 30 H ?_;refine rE ?_
    go_wp2_with fail
    go_roundw
    case rel=>exact ⟨k+1,by omega,by go_num,H⟩
    case measure=>simp [intOf];omega
   |true=>
    obtain ⟨⟨rfl,hpos⟩,hxy⟩:=hxy;simp only [Bool.not_true,Bool.false_or,Qao,Qa7] at hpos;obtain ⟨rfl,rfl⟩:=hpos;have hxy:=hide hxy;obtain ⟨Aa,ca,rfl,ha⟩:=y59 hxl;obtain ⟨Ab,cb,rfl,hb⟩:=y59 hyl;simp only [dirN] at hxn;dsimp only at ha hb hat hbt;have hc:=fun {w M} (h:Hp w0 w K M)=>z3w _ (by omega) hxy.out ha hb h;clear hx hy
    go_wp2_with fail
    refine rB [] H ?_;clear H;intro w H;refine rT 0 H ?_;refine rT 1 H ?_;refine rT 2 H ?_;refine rT 3 H ?_;refine rT 4 H ?_;refine rT 5 H ?_;refine rT 6 H ?_;refine rT 7 H ?_;refine rT 8 H ?_;refine rT 9 H ?_;refine rT 10 H ?_;refine rC 11 (hc H) ?_;clear H;rintro e w ⟨rfl,H⟩;refine rX H ?_;refine rT 12 H ?_;refine rE ?_
    go_wp2_with fail
    refine rB [] H ?_;clear H;intro w H;refine rT 0 H ?_;refine rT 1 H ?_;refine rT 2 H ?_;refine rT 3 H ?_;refine rT 4 H ?_;refine rT 5 H ?_;refine rT 6 H ?_;refine rT 7 H ?_;refine rT 8 H ?_;refine rT 9 H ?_;refine rT 10 H ?_;refine rT 11 H ?_;refine rT 12 H ?_;refine rT 13 H ?_;refine rT 14 H ?_;refine rT 15 H ?_;refine rT 16 H ?_;refine rT 17 H ?_;refine rT 18 H ?_;refine rT 19 H ?_;refine rT 20 H ?_;refine rT 21 H ?_;refine rT 22 H ?_ (hd:=datA);refine rT 23 H ?_;refine rT 24 H ?_;refine rT 25 H ?_;refine rT 26 H ?_;refine rT 27 H ?_ (hd:=datA);refine rT 28 H ?_;refine rT 29 H ?_;refine rT 30 H ?_;refine rE ?_
    go_wp2_with fail
    go_roundw
    case rel=>exact ⟨k+1,by omega,by go_num,H⟩
    case measure=>simp [intOf];omega
  ·obtain rfl:nf=k:=by omega
   go_wp2_with fail
   go_ret;exact ⟨rfl,H⟩
end
section
variable {P : Program} {w0 w K K' : World} {M N : List Ent} {ops : Array Oper} {Q : Exit → Act → World → Prop} {F : List Nat} {fuel : Nat} {listed : Array Bool} {a a' : Act} {oi : Oper} {o : Oper} {v : Value}
theorem datB {ty:TypeId} {x:Operand} {n:Nat} {p:Addr} {cs us:List Value} (ho:o.op= .load ty x:=by rfl) (hs:Rw P ty n:=by infer_instance) (hx:a.eval x= .pointer (some p):=by first|exact (rfl:_=Value.pointer _)|(simp [Act.eval,Act.put];done)|fail)
  (hc:At K p cs:=by assumption) (hn:cs.take n=us:=by (simp only [List.take_succ_cons,List.take_zero,List.take_nil];try rfl)) (hl:us.length=n:=by rfl):z06 P o a K M (.agg us.toArray):=fun w0 w H=>by
 obtain ⟨d,hu,hd⟩:=hs.u;have hsz:=hs.s;rw [←hl] at hsz
 have hat:At w p us:=⟨fun u hu=>(At.sat hc H.sat).1 u (by
  rw [←hn,Qbb] at hu;split at hu
  ·exact hu
  ·cases hu),fun i u hu=>(At.sat hc H.sat).2 i u (by
  rw [←hn,Qbb] at hu;split at hu
  ·exact hu
  ·cases hu)⟩
 unfold execOp;simp only [ho,hx,Instr.loadAt,Instr.sureAddr,Sem.run_bind,Sem.run_pure,Result.andThen_ok,y4g w _ ty us d hat hu hd hsz]
theorem rD (i:Nat) {f:FuncId} {xs:Array Value} {R:Ending→World→Prop} (hC:Calls P f xs w R) (h: ∀e w',R e w'→ ∃v a',e= .returned v∧a.put oi.dst v=a'∧Ov w0 K M w'∧AnyL P .any ops Q (Ov w0 K M) F fuel (listed.setIfInBounds i true) a' w') (hr:Region.ready .any ops listed=[i]:=by kernel_rfl)
  (hi:ops[i]?=some oi:=by (simp only [List.getElem?_toArray,List.getElem?_cons_zero,List.getElem?_cons_succ];try rfl)) (hrun:(execOp a.eval oi).run P w= .ok (.enter f xs) w:=by (go_simp;try with_reducible rfl)) (hw:Region.wanted oi (yielded ops a.tmps)=true:=by rfl):AnyL P .any ops Q (Ov w0 K M) F (fuel+1) listed a w:=
 held.step hr hi fun Kq hKq=>by
  rw [if_pos hw];unfold Oper.wp;rw [hrun,Oper.upon_enter];refine hC.mono fun e w' hR=>?_;obtain ⟨v,a',rfl,ha,hS,hW⟩:=h e w' hR;exact hKq.out _ _ (fun _=>hS) (fun _=>by rw [ha];exact hW)
end
def y6s (p:Bool) (d e:NamedD):Bool:=d.name==e.name&&(!p||d.line==e.line&&d.col==e.col)
theorem z8q (p:Bool) (d:NamedD):y6s p d d=true:=by simp [y6s]
section
variable {w0 w K : World} {M : List Ent}
theorem y7x (p:Bool) {l m:List NamedD} {A B:Option Addr} {c b:Nat} (hn:l.length≤9000000) (heq:y4b (y6s p) l m=true) (hd:RD K (.list l.length (l.flatMap y7p)) (.slice A l.length c)) (he:RD K (.list m.length (m.flatMap y7p)) (.slice B m.length b)) (H:Hp w0 w K M):
  Calls Tryz.prog 111 #[.slice A l.length c,.slice B m.length b,.bool p] w fun e w'=>e= .returned (.bool true)∧Hp w0 w' K M:=by
 obtain ⟨e6,E6⟩:=y5t heq;have hnf:=hn;have HE6:=hide (show ∀(k:Nat) (x y:NamedD),l[k]?=some x→m[k]?=some y→(y6s p) x y=true from fun k x y=>E6);rw [←e6] at he ⊢;obtain ⟨nf,hnf2⟩: ∃x,l.length=x:=⟨_,rfl⟩;rw [hnf2] at hd he hnf e6 ⊢;have HNF:=hide hnf2;have HNG:=hide e6.symm;clear hnf2 e6 E6 heq hn;go_enter Tryz.func111,Tryz.ntmps111
 go_wp2_with fail
 go_loopw [7] (fun i wr=>∃k:Nat,k≤nf∧i= .int .i64 k∧Hp w0 wr K M) (fun i _=>nf - (intOf i).toNat)
 case atStart=>exact ⟨0,Qak _,rfl,H⟩
 case round=>
  clear H;obtain ⟨k,hk,rfl,H⟩:=hrel;by_cases hlt:k<nf
  ·obtain ⟨x,ad,us,hx,rfl,hxl,hat⟩:=el_k (m:=3) (f:=y7p) (fun _=>rfl) hd (by rw [HNF.out];exact hlt) (by decide);obtain ⟨y,bd,vs,hy,rfl,hyl,hbt⟩:=el_k (m:=3) (f:=y7p) (fun _=>rfl) he (by rw [HNG.out];exact hlt) (by decide);obtain ⟨hkI,hwr⟩:=wr_k hlt hnf;have hxy:=HE6.out k x y hx hy
   cases p with
   |false=>
    obtain ⟨xn,xl,xc⟩:=x;obtain ⟨yn,yl,yc⟩:=y;simp only [y6s,Qao,Qa7] at hxy;obtain ⟨rfl,hpos⟩:=hxy;clear hpos;obtain ⟨r0,rfl,h0⟩:=hxl.lit_inv;obtain ⟨r1,rfl,h1⟩:=h0.lit_inv;obtain ⟨r2,rfl,h2⟩:=h1.lit_inv;obtain rfl:=h2.nil_inv;obtain ⟨s0,rfl,k0⟩:=hyl.lit_inv;obtain ⟨s1,rfl,k1⟩:=k0.lit_inv;obtain ⟨s2,rfl,k2⟩:=k1.lit_inv;obtain rfl:=k2.nil_inv;clear hx hy
    go_wp2_with fail
    refine rB [] H ?_;clear H;intro w H;refine rT 0 H ?_;refine rT 1 H ?_;refine rT 2 H ?_;refine rT 3 H ?_;refine rT 4 H ?_;refine rT 5 H ?_;refine rT 6 H ?_;refine rT 7 H ?_;refine rT 8 H ?_;refine rT 9 H ?_;refine rT 10 H ?_;refine rT 11 H ?_;refine rT 12 H ?_;refine rT 13 H ?_;refine rU 14 H ?_;refine rU 15 H ?_;refine rU 16 H ?_;refine rU 17 H ?_;refine rU 18 H ?_;refine rU 19 H ?_;refine rU 20 H ?_;refine rU 21 H ?_;refine rU 22 H ?_;refine rU 23 H ?_;refine rU 24 H ?_;refine rT 25 H ?_;refine rT 26 H ?_;refine rE ?_
    go_wp2_with fail
    go_roundw
    case rel=>exact ⟨k+1,by omega,by go_num,H⟩
    case measure=>simp [intOf];omega
   |true=>
    obtain ⟨xn,xl,xc⟩:=x;obtain ⟨yn,yl,yc⟩:=y;simp only [y6s,Qao,Qa7] at hxy;obtain ⟨rfl,hpos⟩:=hxy;simp only [Bool.not_true,Bool.false_or,Qao,Qa7] at hpos;obtain ⟨rfl,rfl⟩:=hpos;obtain ⟨r0,rfl,h0⟩:=hxl.lit_inv;obtain ⟨r1,rfl,h1⟩:=h0.lit_inv;obtain ⟨r2,rfl,h2⟩:=h1.lit_inv;obtain rfl:=h2.nil_inv;obtain ⟨s0,rfl,k0⟩:=hyl.lit_inv;obtain ⟨s1,rfl,k1⟩:=k0.lit_inv;obtain ⟨s2,rfl,k2⟩:=k1.lit_inv;obtain rfl:=k2.nil_inv;clear hx hy
    go_wp2_with fail
    refine rB [] H ?_;clear H;intro w H;refine rT 0 H ?_;refine rT 1 H ?_;refine rT 2 H ?_;refine rT 3 H ?_;refine rT 4 H ?_;refine rT 5 H ?_;refine rT 6 H ?_;refine rT 7 H ?_;refine rT 8 H ?_;refine rT 9 H ?_;refine rT 10 H ?_;refine rT 11 H ?_;refine rT 12 H ?_;refine rT 13 H ?_;refine rT 14 H ?_;refine rT 15 H ?_;refine rT 16 H ?_;refine rT 17 H ?_;refine rT 18 H ?_ (hd:=datA);refine rT 19 H ?_;refine rT 20 H ?_;refine rT 21 H ?_;refine rT 22 H ?_;refine rT 23 H ?_ (hd:=datA);refine rT 24 H ?_;refine rT 25 H ?_;refine rT 26 H ?_;refine rE ?_
    go_wp2_with fail
    go_roundw
    case rel=>exact ⟨k+1,by omega,by go_num,H⟩
    case measure=>simp [intOf];omega
  ·obtain rfl:nf=k:=by omega
   go_wp2_with fail
   go_ret;exact ⟨rfl,H⟩
end
instance:Sc Tryz.prog 30:=⟨⟨_,Tryz.underlying30,rfl⟩⟩
def z3x (p:Bool) (d e:RootD):Bool:=d.op==e.op&&d.type==e.type&&(!p||d.line==e.line&&d.col==e.col)
theorem x09 (p:Bool) (d:RootD):z3x p d d=true:=by simp [z3x]
section
variable {w0 w K : World} {M : List Ent}
theorem z8r (p:Bool) {l m:List RootD} {A B:Option Addr} {c b:Nat} (hn:l.length≤9000000) (heq:y4b (z3x p) l m=true) (hd:RD K (.list l.length (l.flatMap z0b)) (.slice A l.length c)) (he:RD K (.list m.length (m.flatMap z0b)) (.slice B m.length b)) (H:Hp w0 w K M):
  Calls Tryz.prog 115 #[.slice A l.length c,.slice B m.length b,.bool p] w fun e w'=>e= .returned (.bool true)∧Hp w0 w' K M:=by
 obtain ⟨e6,E6⟩:=y5t heq;have hnf:=hn;have HE6:=hide (show ∀(k:Nat) (x y:RootD),l[k]?=some x→m[k]?=some y→(z3x p) x y=true from fun k x y=>E6);rw [←e6] at he ⊢;obtain ⟨nf,hnf2⟩: ∃x,l.length=x:=⟨_,rfl⟩;rw [hnf2] at hd he hnf e6 ⊢;have HNF:=hide hnf2;have HNG:=hide e6.symm;clear hnf2 e6 E6 heq hn;go_enter Tryz.func115,Tryz.ntmps115
 go_wp2_with fail
 go_loopw [7] (fun i wr=>∃k:Nat,k≤nf∧i= .int .i64 k∧Hp w0 wr K M) (fun i _=>nf - (intOf i).toNat)
 case atStart=>exact ⟨0,Qak _,rfl,H⟩
 case round=>
  clear H;obtain ⟨k,hk,rfl,H⟩:=hrel;by_cases hlt:k<nf
  ·obtain ⟨x,ad,us,hx,rfl,hxl,hat⟩:=el_k (m:=4) (f:=z0b) (fun _=>rfl) hd (by rw [HNF.out];exact hlt) (by decide);obtain ⟨y,bd,vs,hy,rfl,hyl,hbt⟩:=el_k (m:=4) (f:=z0b) (fun _=>rfl) he (by rw [HNG.out];exact hlt) (by decide);obtain ⟨hkI,hwr⟩:=wr_k hlt hnf;have hxy:=HE6.out k x y hx hy
   cases p with
   |false=>
    obtain ⟨xo,xt,xl,xc⟩:=x;obtain ⟨yo,yt,yl,yc⟩:=y;simp only [z3x,Qao,Qa7] at hxy;obtain ⟨⟨rfl,rfl⟩,hpos⟩:=hxy;clear hpos;obtain ⟨r0,rfl,h0⟩:=hxl.lit_inv;obtain ⟨r1,rfl,h1⟩:=h0.lit_inv;obtain ⟨r2,rfl,h2⟩:=h1.lit_inv;obtain ⟨r3,rfl,h3⟩:=h2.lit_inv;obtain rfl:=h3.nil_inv;obtain ⟨s0,rfl,k0⟩:=hyl.lit_inv;obtain ⟨s1,rfl,k1⟩:=k0.lit_inv;obtain ⟨s2,rfl,k2⟩:=k1.lit_inv;obtain ⟨s3,rfl,k3⟩:=k2.lit_inv;obtain rfl:=k3.nil_inv;clear hx hy
    go_wp2_with fail
    refine rB [] H ?_;clear H;intro w H;refine rT 0 H ?_;refine rT 1 H ?_;refine rT 2 H ?_;refine rT 3 H ?_;refine rT 4 H ?_;refine rT 5 H ?_;refine rT 6 H ?_;refine rT 7 H ?_;refine rT 8 H ?_;refine rT 9 H ?_;refine rT 10 H ?_;refine rT 11 H ?_;refine rT 12 H ?_;refine rT 13 H ?_;refine rT 14 H ?_;refine rT 15 H ?_;refine rT 16 H ?_;refine rT 17 H ?_;refine rT 18 H ?_;refine rT 19 H ?_;refine rT 20 H ?_;refine rT 21 H ?_;refine rT 22 H ?_;refine rT 23 H ?_;refine rT 24 H ?_;refine rT 25 H ?_;refine rT 26 H ?_;refine rU 27 H ?_;refine rU 28 H ?_;refine rU 29 H ?_;refine rU 30 H ?_;refine rU 31 H ?_;refine rU 32 H ?_;refine rU 33 H ?_;refine rU 34 H ?_;refine rU 35 H ?_;refine rU 36 H ?_;refine rU 37 H ?_;refine rT 38 H ?_;refine rT 39 H ?_;refine rE ?_
    go_wp2_with fail
    go_roundw
    case rel=>exact ⟨k+1,by omega,by go_num,H⟩
    case measure=>simp [intOf];omega
   |true=>
    obtain ⟨xo,xt,xl,xc⟩:=x;obtain ⟨yo,yt,yl,yc⟩:=y;simp only [z3x,Qao,Qa7] at hxy;obtain ⟨⟨rfl,rfl⟩,hpos⟩:=hxy;simp only [Bool.not_true,Bool.false_or,Qao,Qa7] at hpos;obtain ⟨rfl,rfl⟩:=hpos;obtain ⟨r0,rfl,h0⟩:=hxl.lit_inv;obtain ⟨r1,rfl,h1⟩:=h0.lit_inv;obtain ⟨r2,rfl,h2⟩:=h1.lit_inv;obtain ⟨r3,rfl,h3⟩:=h2.lit_inv;obtain rfl:=h3.nil_inv;obtain ⟨s0,rfl,k0⟩:=hyl.lit_inv;obtain ⟨s1,rfl,k1⟩:=k0.lit_inv;obtain ⟨s2,rfl,k2⟩:=k1.lit_inv;obtain ⟨s3,rfl,k3⟩:=k2.lit_inv;obtain rfl:=k3.nil_inv;clear hx hy
    go_wp2_with fail
    refine rB [] H ?_;clear H;intro w H;refine rT 0 H ?_;refine rT 1 H ?_;refine rT 2 H ?_;refine rT 3 H ?_;refine rT 4 H ?_;refine rT 5 H ?_;refine rT 6 H ?_;refine rT 7 H ?_;refine rT 8 H ?_;refine rT 9 H ?_;refine rT 10 H ?_;refine rT 11 H ?_;refine rT 12 H ?_;refine rT 13 H ?_;refine rT 14 H ?_;refine rT 15 H ?_;refine rT 16 H ?_;refine rT 17 H ?_;refine rT 18 H ?_;refine rT 19 H ?_;refine rT 20 H ?_;refine rT 21 H ?_;refine rT 22 H ?_;refine rT 23 H ?_;refine rT 24 H ?_;refine rT 25 H ?_;refine rT 26 H ?_;refine rT 27 H ?_;refine rT 28 H ?_;refine rT 29 H ?_;refine rT 30 H ?_;refine rT 31 H ?_ (hd:=datA);refine rT 32 H ?_;refine rT 33 H ?_;refine rT 34 H ?_;refine rT 35 H ?_;refine rT 36 H ?_ (hd:=datA);refine rT 37 H ?_;refine rT 38 H ?_;refine rT 39 H ?_;refine rE ?_
    go_wp2_with fail
    go_roundw
    case rel=>exact ⟨k+1,by omega,by go_num,H⟩
    case measure=>simp [intOf];omega
  ·obtain rfl:nf=k:=by omega
   go_wp2_with fail
   go_ret;exact ⟨rfl,H⟩
end
def y6b (d e:NoteD):Bool:=d.has==e.has&&d.block==e.block&&d.text==e.text
theorem y6t (d:NoteD):y6b d d=true:=by simp [y6b]
def y9m (p:Bool) (d e:ValueD):Bool:=y6b d.note e.note&&d.name==e.name&&(!p||d.line==e.line&&d.col==e.col)&&y4b (z7a p) d.dirs e.dirs
theorem z8s (p:Bool) (d:ValueD):y9m p d d=true:=by simp [y9m,y6t,y1z (y8j p)]
section
variable {w0 w K : World} {M : List Ent}
theorem z7b (p:Bool) {l m:List ValueD} {A B:Option Addr} {c b:Nat} (hn:sumN y2n l≤9000000) (heq:y4b (y9m p) l m=true) (hd:RD K (.list l.length (l.flatMap y5p)) (.slice A l.length c)) (he:RD K (.list m.length (m.flatMap y5p)) (.slice B m.length b)) (H:Hp w0 w K M):
  Calls Tryz.prog 114 #[.slice A l.length c,.slice B m.length b,.bool p] w fun e w'=>e= .returned (.bool true)∧Hp w0 w' K M:=by
 obtain ⟨e6,E6⟩:=y5t heq;have hnf:=Qah (y0o y4a l) hn;have HF:=hide (show ∀x∈l,y2n x≤9000000 from fun x hx=>by obtain ⟨k,hk⟩:=Qaq hx;have:=y5e (f:=y2n) hk;omega);have HE6:=hide (show ∀(k:Nat) (x y:ValueD),l[k]?=some x→m[k]?=some y→(y9m p) x y=true from fun k x y=>E6);rw [←e6] at he ⊢;obtain ⟨nf,hnf2⟩: ∃x,l.length=x:=⟨_,rfl⟩;rw [hnf2] at hd he hnf e6 ⊢;have HNF:=hide hnf2;have HNG:=hide e6.symm;clear hnf2 e6 E6 heq hn;go_enter Tryz.func114,Tryz.ntmps114
 go_wp2_with fail
 go_loopw [7] (fun i wr=>∃k:Nat,k≤nf∧i= .int .i64 k∧Hp w0 wr K M) (fun i _=>nf - (intOf i).toNat)
 case atStart=>exact ⟨0,Qak _,rfl,H⟩
 case round=>
  clear H;obtain ⟨k,hk,rfl,H⟩:=hrel;by_cases hlt:k<nf
  ·obtain ⟨x,ad,us,hx,rfl,hxl,hat⟩:=el_k (m:=7) (f:=y5p) (fun _=>rfl) hd (by rw [HNF.out];exact hlt) (by decide);obtain ⟨y,bd,vs,hy,rfl,hyl,hbt⟩:=el_k (m:=7) (f:=y5p) (fun _=>rfl) he (by rw [HNG.out];exact hlt) (by decide);obtain ⟨hkI,hwr⟩:=wr_k hlt hnf;have hxn:=HF.out x (Qaf hx);have hxy:=HE6.out k x y hx hy
   cases p with
   |false=>
    obtain ⟨⟨xh,xb,xt⟩,xn,xd,xl,xc⟩:=x;obtain ⟨⟨yh,yb,yt⟩,yn,yd,yl,yc⟩:=y;simp only [y9m,y6b,Qao,Qa7] at hxy;obtain ⟨⟨⟨⟨⟨rfl,rfl⟩,rfl⟩,rfl⟩,hpos⟩,hxy⟩:=hxy;simp only [y2n] at hxn;clear hpos;obtain ⟨hr0,rfl,h0⟩:=hxl.lit_inv;obtain ⟨hr1,rfl,h1⟩:=h0.lit_inv;obtain ⟨hr2,rfl,h2⟩:=h1.lit_inv;obtain ⟨hr3,rfl,h3⟩:=h2.lit_inv;obtain ⟨hA4,hc4,hr4,rfl,hd4,h4⟩:=h3.list_inv;obtain ⟨hr5,rfl,h5⟩:=h4.lit_inv;obtain ⟨hr6,rfl,h6⟩:=h5.lit_inv;obtain rfl:=h6.nil_inv;obtain ⟨kr0,rfl,k0⟩:=hyl.lit_inv;obtain ⟨kr1,rfl,k1⟩:=k0.lit_inv;obtain ⟨kr2,rfl,k2⟩:=k1.lit_inv;obtain ⟨kr3,rfl,k3⟩:=k2.lit_inv;obtain ⟨kA4,kc4,kr4,rfl,kd4,k4⟩:=k3.list_inv;obtain ⟨kr5,rfl,k5⟩:=k4.lit_inv;obtain ⟨kr6,rfl,k6⟩:=k5.lit_inv;obtain rfl:=k6.nil_inv;have hxy:=hide hxy;have hc:=fun {w M} (h:Hp w0 w K M)=>y3g _ (by omega) hxy.out hd4 kd4 h;clear hx hy
    go_wp2_with fail
    refine rB [] H ?_;clear H;intro w H;refine rT 0 H ?_;refine rT 1 H ?_;refine rT 2 H ?_;refine rT 3 H ?_;refine rT 4 H ?_ (hd:=datB);refine rT 5 H ?_;refine rT 6 H ?_;refine rT 7 H ?_;refine rT 8 H ?_;refine rT 9 H ?_ (hd:=datB);refine rT 10 H ?_;refine rT 11 H ?_;refine rT 12 H ?_;refine rT 13 H ?_;refine rT 14 H ?_;refine rT 15 H ?_;refine rT 16 H ?_;refine rT 17 H ?_;refine rT 18 H ?_;refine rT 19 H ?_;refine rT 20 H ?_;refine rT 21 H ?_;refine rT 22 H ?_;refine rT 23 H ?_;refine rT 24 H ?_;refine rT 25 H ?_;refine rT 26 H ?_;refine rU 27 H ?_;refine rU 28 H ?_;refine rU 29 H ?_;refine rU 30 H ?_;refine rU 31 H ?_;refine rU 32 H ?_;refine rU 33 H ?_;refine rU 34 H ?_;refine rU 35 H ?_;refine rU 36 H ?_;refine rU 37 H ?_;refine rT 38 H ?_;refine rT 39 H ?_;refine rE ?_
    go_wp2_with fail
    refine rB [] H ?_;clear H;intro w H;refine rT 0 H ?_;refine rT 1 H ?_;refine rT 2 H ?_;refine rT 3 H ?_;refine rT 4 H ?_;refine rT 5 H ?_;refine rT 6 H ?_;refine rT 7 H ?_;refine rT 8 H ?_;refine rT 9 H ?_;refine rT 10 H ?_;refine rC 11 (hc H) ?_;clear H;rintro e w ⟨rfl,H⟩;refine rX H ?_;refine rT 12 H ?_;refine rE ?_
    go_wp2_with fail
    go_roundw
    case rel=>exact ⟨k+1,by omega,by go_num,H⟩
    case measure=>simp [intOf];omega
   |true=>
    obtain ⟨⟨xh,xb,xt⟩,xn,xd,xl,xc⟩:=x;obtain ⟨⟨yh,yb,yt⟩,yn,yd,yl,yc⟩:=y;simp only [y9m,y6b,Qao,Qa7] at hxy;obtain ⟨⟨⟨⟨⟨rfl,rfl⟩,rfl⟩,rfl⟩,hpos⟩,hxy⟩:=hxy;simp only [y2n] at hxn;simp only [Bool.not_true,Bool.false_or,Qao,Qa7] at hpos;obtain ⟨rfl,rfl⟩:=hpos;obtain ⟨hr0,rfl,h0⟩:=hxl.lit_inv;obtain ⟨hr1,rfl,h1⟩:=h0.lit_inv;obtain ⟨hr2,rfl,h2⟩:=h1.lit_inv;obtain ⟨hr3,rfl,h3⟩:=h2.lit_inv;obtain ⟨hA4,hc4,hr4,rfl,hd4,h4⟩:=h3.list_inv;obtain ⟨hr5,rfl,h5⟩:=h4.lit_inv;obtain ⟨hr6,rfl,h6⟩:=h5.lit_inv;obtain rfl:=h6.nil_inv;obtain ⟨kr0,rfl,k0⟩:=hyl.lit_inv;obtain ⟨kr1,rfl,k1⟩:=k0.lit_inv;obtain ⟨kr2,rfl,k2⟩:=k1.lit_inv;obtain ⟨kr3,rfl,k3⟩:=k2.lit_inv;obtain ⟨kA4,kc4,kr4,rfl,kd4,k4⟩:=k3.list_inv;obtain ⟨kr5,rfl,k5⟩:=k4.lit_inv;obtain ⟨kr6,rfl,k6⟩:=k5.lit_inv;obtain rfl:=k6.nil_inv;have hxy:=hide hxy;have hc:=fun {w M} (h:Hp w0 w K M)=>y3g _ (by omega) hxy.out hd4 kd4 h;clear hx hy
    go_wp2_with fail
    refine rB [] H ?_;clear H;intro w H;refine rT 0 H ?_;refine rT 1 H ?_;refine rT 2 H ?_;refine rT 3 H ?_;refine rT 4 H ?_ (hd:=datB);refine rT 5 H ?_;refine rT 6 H ?_;refine rT 7 H ?_;refine rT 8 H ?_;refine rT 9 H ?_ (hd:=datB);refine rT 10 H ?_;refine rT 11 H ?_;refine rT 12 H ?_;refine rT 13 H ?_;refine rT 14 H ?_;refine rT 15 H ?_;refine rT 16 H ?_;refine rT 17 H ?_;refine rT 18 H ?_;refine rT 19 H ?_;refine rT 20 H ?_;refine rT 21 H ?_;refine rT 22 H ?_;refine rT 23 H ?_;refine rT 24 H ?_;refine rT 25 H ?_;refine rT 26 H ?_;refine rT 27 H ?_;refine rT 28 H ?_;refine rT 29 H ?_;refine rT 30 H ?_;refine rT 31 H ?_ (hd:=datA);refine rT 32 H ?_;refine rT 33 H ?_;refine rT 34 H ?_;refine rT 35 H ?_;refine rT 36 H ?_ (hd:=datA);refine rT 37 H ?_;refine rT 38 H ?_;refine rT 39 H ?_;refine rE ?_
    go_wp2_with fail
    refine rB [] H ?_;clear H;intro w H;refine rT 0 H ?_;refine rT 1 H ?_;refine rT 2 H ?_;refine rT 3 H ?_;refine rT 4 H ?_;refine rT 5 H ?_;refine rT 6 H ?_;refine rT 7 H ?_;refine rT 8 H ?_;refine rT 9 H ?_;refine rT 10 H ?_;refine rC 11 (hc H) ?_;clear H;rintro e w ⟨rfl,H⟩;refine rX H ?_;refine rT 12 H ?_;refine rE ?_
    go_wp2_with fail
    go_roundw
    case rel=>exact ⟨k+1,by omega,by go_num,H⟩
    case measure=>simp [intOf];omega
  ·obtain rfl:nf=k:=by omega
   go_wp2_with fail
   go_ret;exact ⟨rfl,H⟩
end
def y7y (p:Bool) (d e:InputD):Bool:=y6b d.note e.note&&d.name==e.name&&d.ty.1==e.ty.1&&d.ty.2==e.ty.2&&d.has==e.has&&(!p||d.line==e.line&&d.col==e.col)&&z69 p d.lit e.lit&&y4b (z7a p) d.dirs e.dirs
theorem z2a (p:Bool) (d:InputD):y7y p d d=true:=by simp [y7y,y6t,z07,y1z (y8j p)]
section
variable {w0 w K : World} {M : List Ent}
theorem y6u (p:Bool) {l m:List InputD} {A B:Option Addr} {c b:Nat} (hn:sumN y1w l≤9000000) (heq:y4b (y7y p) l m=true) (hd:RD K (.list l.length (l.flatMap y31)) (.slice A l.length c)) (he:RD K (.list m.length (m.flatMap y31)) (.slice B m.length b)) (H:Hp w0 w K M):
  Calls Tryz.prog 113 #[.slice A l.length c,.slice B m.length b,.bool p] w fun e w'=>e= .returned (.bool true)∧Hp w0 w' K M:=by
 obtain ⟨e6,E6⟩:=y5t heq;have hnf:=Qah (y0o y2u l) hn;have HF:=hide (show ∀x∈l,y1w x≤9000000 from fun x hx=>by obtain ⟨k,hk⟩:=Qaq hx;have:=y5e (f:=y1w) hk;omega);have HE6:=hide (show ∀(k:Nat) (x y:InputD),l[k]?=some x→m[k]?=some y→(y7y p) x y=true from fun k x y=>E6);rw [←e6] at he ⊢;obtain ⟨nf,hnf2⟩: ∃x,l.length=x:=⟨_,rfl⟩;rw [hnf2] at hd he hnf e6 ⊢;have HNF:=hide hnf2;have HNG:=hide e6.symm;clear hnf2 e6 E6 heq hn;go_enter Tryz.func113,Tryz.ntmps113
 go_wp2_with fail
 go_loopw [7] (fun i wr=>∃k:Nat,k≤nf∧i= .int .i64 k∧Hp w0 wr K M) (fun i _=>nf - (intOf i).toNat)
 case atStart=>exact ⟨0,Qak _,rfl,H⟩
 case round=>
  clear H;obtain ⟨k,hk,rfl,H⟩:=hrel;by_cases hlt:k<nf
  ·obtain ⟨x,ad,us,hx,rfl,hxl,hat⟩:=el_k (m:=17) (f:=y31) y58 hd (by rw [HNF.out];exact hlt) (by decide);obtain ⟨y,bd,vs,hy,rfl,hyl,hbt⟩:=el_k (m:=17) (f:=y31) y58 he (by rw [HNG.out];exact hlt) (by decide);obtain ⟨hkI,hwr⟩:=wr_k hlt hnf;have hxn:=HF.out x (Qaf hx);have hxy:=HE6.out k x y hx hy
   cases p with
   |false=>
    obtain ⟨⟨nh,nb,nt⟩,dn,⟨tn,tw⟩,dh,⟨dk,dt,db,di,df,dln,dcl⟩,ds,dl,dc⟩:=x;obtain ⟨⟨yh,yb,yt⟩,en,⟨un,uw⟩,eh,⟨ek,et,eb,ei,ef,eln,ecl⟩,es,el,ec⟩:=y;simp only [y7y,y6b,Qao,Qa7] at hxy;obtain ⟨⟨⟨⟨⟨⟨⟨⟨⟨rfl,rfl⟩,rfl⟩,rfl⟩,rfl⟩,rfl⟩,rfl⟩,hpos⟩,hlit⟩,hxy⟩:=hxy;simp only [y1w] at hxn;clear hpos;obtain ⟨ls,Ad,cd,rfl,hvl,hds⟩:=y38 hxl;obtain ⟨Xi,xi,Xf,xf,rfl,-,-⟩:=y0i hvl;obtain ⟨ls,Bd,ce,rfl,hul,hes⟩:=y38 hyl;obtain ⟨Yi,yi,Yf,yf,rfl,-,-⟩:=y0i hul;have hxy:=hide hxy;have hlt2:=hide hlit;have hc:=fun {w M} (h:Hp w0 w K M)=>y8i _ 9000000 _ _ #[_,_,_,_,_,_,_] #[_,_,_,_,_,_,_] w0 w K M (by omega) (Qab _) hlt2.out hvl hul h;have hc2:=fun {w M} (h:Hp w0 w K M)=>y3g _ (by omega) hxy.out hds hes h;simp only [List.cons_append,List.nil_append] at hat hbt;clear hlit;clear hx hy
    go_wp2_with fail
    refine rB [] H ?_;clear H;intro w H;refine rT 0 H ?_;refine rT 1 H ?_;refine rT 2 H ?_;refine rT 3 H ?_;refine rT 4 H ?_ (hd:=datB);refine rT 5 H ?_;refine rT 6 H ?_;refine rT 7 H ?_;refine rT 8 H ?_;refine rT 9 H ?_ (hd:=datB);refine rT 10 H ?_;refine rT 11 H ?_;refine rT 12 H ?_;refine rT 13 H ?_;refine rT 14 H ?_;refine rT 15 H ?_;refine rT 16 H ?_;refine rT 17 H ?_;refine rT 18 H ?_;refine rT 19 H ?_;refine rT 20 H ?_;refine rT 21 H ?_;refine rT 22 H ?_;refine rT 23 H ?_;refine rT 24 H ?_;refine rT 25 H ?_;refine rT 26 H ?_;refine rT 27 H ?_;refine rT 28 H ?_;refine rT 29 H ?_ (hd:=datA);refine rT 30 H ?_;refine rT 31 H ?_;refine rT 32 H ?_;refine rT 33 H ?_;refine rT 34 H ?_ (hd:=datA);refine rT 35 H ?_;refine rT 36 H ?_;refine rT 37 H ?_;refine rT 38 H ?_;refine rT 39 H ?_;refine rT 40 H ?_;refine rT 41 H ?_;refine rT 42 H ?_;refine rT 43 H ?_;refine rT 44 H ?_;refine rT 45 H ?_;refine rT 46 H ?_;refine rT 47 H ?_;refine rT 48 H ?_;refine rT 49 H ?_;refine rT 50 H ?_;refine rT 51 H ?_;refine rT 52 H ?_;refine rU 53 H ?_;refine rU 54 H ?_;refine rU 55 H ?_;refine rU 56 H ?_;refine rU 57 H ?_;refine rU 58 H ?_;refine rU 59 H ?_;refine rU 60 H ?_;refine rU 61 H ?_;refine rU 62 H ?_;refine rU 63 H ?_;refine rT 64 H ?_;refine rT 65 H ?_;refine rE ?_
    go_wp2_with fail
    refine rB [] H ?_;clear H;intro w H;refine rT 0 H ?_;refine rT 1 H ?_;refine rT 2 H ?_;refine rT 3 H ?_;refine rT 4 H ?_ (hd:=datA);refine rT 5 H ?_;refine rT 6 H ?_;refine rT 7 H ?_;refine rT 8 H ?_;refine rT 9 H ?_ (hd:=datA);refine rT 10 H ?_;refine rC 11 (hc H) ?_;clear H;rintro e w ⟨rfl,H⟩;refine rX H ?_;refine rT 12 H ?_;refine rT 13 H ?_;refine rT 14 H ?_;refine rT 15 H ?_;refine rT 16 H ?_;refine rT 17 H ?_;refine rT 18 H ?_;refine rT 19 H ?_;refine rT 20 H ?_;refine rT 21 H ?_;refine rT 22 H ?_;refine rT 23 H ?_;refine rT 24 H ?_;refine rD 25 (hc2 H) ?_;clear H;rintro e w ⟨rfl,H⟩;refine rX H ?_;refine rT 26 H ?_;refine rT 27 H ?_;refine rE ?_
    go_wp2_with fail
    go_roundw
    case rel=>exact ⟨k+1,by omega,by go_num,H⟩
    case measure=>simp [intOf];omega
   |true=>
    obtain ⟨⟨nh,nb,nt⟩,dn,⟨tn,tw⟩,dh,⟨dk,dt,db,di,df,dln,dcl⟩,ds,dl,dc⟩:=x;obtain ⟨⟨yh,yb,yt⟩,en,⟨un,uw⟩,eh,⟨ek,et,eb,ei,ef,eln,ecl⟩,es,el,ec⟩:=y;simp only [y7y,y6b,Qao,Qa7] at hxy;obtain ⟨⟨⟨⟨⟨⟨⟨⟨⟨rfl,rfl⟩,rfl⟩,rfl⟩,rfl⟩,rfl⟩,rfl⟩,hpos⟩,hlit⟩,hxy⟩:=hxy;simp only [y1w] at hxn;simp only [Bool.not_true,Bool.false_or,Qao,Qa7] at hpos;obtain ⟨rfl,rfl⟩:=hpos;obtain ⟨ls,Ad,cd,rfl,hvl,hds⟩:=y38 hxl;obtain ⟨Xi,xi,Xf,xf,rfl,-,-⟩:=y0i hvl;obtain ⟨ls,Bd,ce,rfl,hul,hes⟩:=y38 hyl;obtain ⟨Yi,yi,Yf,yf,rfl,-,-⟩:=y0i hul;have hxy:=hide hxy;have hlt2:=hide hlit;have hc:=fun {w M} (h:Hp w0 w K M)=>y8i _ 9000000 _ _ #[_,_,_,_,_,_,_] #[_,_,_,_,_,_,_] w0 w K M (by omega) (Qab _) hlt2.out hvl hul h;have hc2:=fun {w M} (h:Hp w0 w K M)=>y3g _ (by omega) hxy.out hds hes h;simp only [List.cons_append,List.nil_append] at hat hbt;clear hlit;clear hx hy
    go_wp2_with fail
    refine rB [] H ?_;clear H;intro w H;refine rT 0 H ?_;refine rT 1 H ?_;refine rT 2 H ?_;refine rT 3 H ?_;refine rT 4 H ?_ (hd:=datB);refine rT 5 H ?_;refine rT 6 H ?_;refine rT 7 H ?_;refine rT 8 H ?_;refine rT 9 H ?_ (hd:=datB);refine rT 10 H ?_;refine rT 11 H ?_;refine rT 12 H ?_;refine rT 13 H ?_;refine rT 14 H ?_;refine rT 15 H ?_;refine rT 16 H ?_;refine rT 17 H ?_;refine rT 18 H ?_;refine rT 19 H ?_;refine rT 20 H ?_;refine rT 21 H ?_;refine rT 22 H ?_;refine rT 23 H ?_;refine rT 24 H ?_;refine rT 25 H ?_;refine rT 26 H ?_;refine rT 27 H ?_;refine rT 28 H ?_;refine rT 29 H ?_ (hd:=datA);refine rT 30 H ?_;refine rT 31 H ?_;refine rT 32 H ?_;refine rT 33 H ?_;refine rT 34 H ?_ (hd:=datA);refine rT 35 H ?_;refine rT 36 H ?_;refine rT 37 H ?_;refine rT 38 H ?_;refine rT 39 H ?_;refine rT 40 H ?_;refine rT 41 H ?_;refine rT 42 H ?_;refine rT 43 H ?_;refine rT 44 H ?_;refine rT 45 H ?_;refine rT 46 H ?_;refine rT 47 H ?_;refine rT 48 H ?_;refine rT 49 H ?_;refine rT 50 H ?_;refine rT 51 H ?_;refine rT 52 H ?_;refine rT 53 H ?_;refine rT 54 H ?_;refine rT 55 H ?_;refine rT 56 H ?_;refine rT 57 H ?_ (hd:=datA);refine rT 58 H ?_;refine rT 59 H ?_;refine rT 60 H ?_;refine rT 61 H ?_;refine rT 62 H ?_ (hd:=datA);refine rT 63 H ?_;refine rT 64 H ?_;refine rT 65 H ?_;refine rE ?_
    go_wp2_with fail
    refine rB [] H ?_;clear H;intro w H;refine rT 0 H ?_;refine rT 1 H ?_;refine rT 2 H ?_;refine rT 3 H ?_;refine rT 4 H ?_ (hd:=datA);refine rT 5 H ?_;refine rT 6 H ?_;refine rT 7 H ?_;refine rT 8 H ?_;refine rT 9 H ?_ (hd:=datA);refine rT 10 H ?_;refine rC 11 (hc H) ?_;clear H;rintro e w ⟨rfl,H⟩;refine rX H ?_;refine rT 12 H ?_;refine rT 13 H ?_;refine rT 14 H ?_;refine rT 15 H ?_;refine rT 16 H ?_;refine rT 17 H ?_;refine rT 18 H ?_;refine rT 19 H ?_;refine rT 20 H ?_;refine rT 21 H ?_;refine rT 22 H ?_;refine rT 23 H ?_;refine rT 24 H ?_;refine rD 25 (hc2 H) ?_;clear H;rintro e w ⟨rfl,H⟩;refine rX H ?_;refine rT 26 H ?_;refine rT 27 H ?_;refine rE ?_
    go_wp2_with fail
    go_roundw
    case rel=>exact ⟨k+1,by omega,by go_num,H⟩
    case measure=>simp [intOf];omega
  ·obtain rfl:nf=k:=by omega
   go_wp2_with fail
   go_ret;exact ⟨rfl,H⟩
end
def y9n (p:Bool) (d e:FieldD):Bool:=y6b d.note e.note&&d.name==e.name&&d.ty.1==e.ty.1&&d.ty.2==e.ty.2&&(!p||d.line==e.line&&d.col==e.col)&&y4b (y7y p) d.args e.args&&y4b (z7a p) d.dirs e.dirs
theorem z8t (p:Bool) (d:FieldD):y9n p d d=true:=by simp [y9n,y6t,y1z (z2a p),y1z (y8j p)]
section
variable {w0 w K : World} {M : List Ent}
theorem z7c (p:Bool) {l m:List FieldD} {A B:Option Addr} {c b:Nat} (hn:sumN y1j l≤9000000) (heq:y4b (y9n p) l m=true) (hd:RD K (.list l.length (l.flatMap y07)) (.slice A l.length c)) (he:RD K (.list m.length (m.flatMap y07)) (.slice B m.length b)) (H:Hp w0 w K M):
  Calls Tryz.prog 112 #[.slice A l.length c,.slice B m.length b,.bool p] w fun e w'=>e= .returned (.bool true)∧Hp w0 w' K M:=by
 obtain ⟨e6,E6⟩:=y5t heq;have hnf:=Qah (y0o y2b l) hn;have HF:=hide (show ∀x∈l,y1j x≤9000000 from fun x hx=>by obtain ⟨k,hk⟩:=Qaq hx;have:=y5e (f:=y1j) hk;omega);have HE6:=hide (show ∀(k:Nat) (x y:FieldD),l[k]?=some x→m[k]?=some y→(y9n p) x y=true from fun k x y=>E6);rw [←e6] at he ⊢;obtain ⟨nf,hnf2⟩: ∃x,l.length=x:=⟨_,rfl⟩;rw [hnf2] at hd he hnf e6 ⊢;have HNF:=hide hnf2;have HNG:=hide e6.symm;clear hnf2 e6 E6 heq hn;go_enter Tryz.func112,Tryz.ntmps112
 go_wp2_with fail
 go_loopw [7] (fun i wr=>∃k:Nat,k≤nf∧i= .int .i64 k∧Hp w0 wr K M) (fun i _=>nf - (intOf i).toNat)
 case atStart=>exact ⟨0,Qak _,rfl,H⟩
 case round=>
  clear H;obtain ⟨k,hk,rfl,H⟩:=hrel;by_cases hlt:k<nf
  ·obtain ⟨x,ad,us,hx,rfl,hxl,hat⟩:=el_k (m:=10) (f:=y07) (fun _=>rfl) hd (by rw [HNF.out];exact hlt) (by decide);obtain ⟨y,bd,vs,hy,rfl,hyl,hbt⟩:=el_k (m:=10) (f:=y07) (fun _=>rfl) he (by rw [HNG.out];exact hlt) (by decide);obtain ⟨hkI,hwr⟩:=wr_k hlt hnf;have hxn:=HF.out x (Qaf hx);have hxy:=HE6.out k x y hx hy
   cases p with
   |false=>
    obtain ⟨⟨nh,nb,nt⟩,dn,da,⟨tn,tw⟩,ds,dl,dc⟩:=x;obtain ⟨⟨yh,yb,yt⟩,en,ea,⟨un,uw⟩,es,el,ec⟩:=y;simp only [y9n,y6b,Qao,Qa7] at hxy;obtain ⟨⟨⟨⟨⟨⟨⟨⟨rfl,rfl⟩,rfl⟩,rfl⟩,rfl⟩,rfl⟩,hpos⟩,hin⟩,hxy⟩:=hxy;simp only [y1j] at hxn;clear hpos;obtain ⟨hr0,rfl,h0⟩:=hxl.lit_inv;obtain ⟨hr1,rfl,h1⟩:=h0.lit_inv;obtain ⟨hr2,rfl,h2⟩:=h1.lit_inv;obtain ⟨hr3,rfl,h3⟩:=h2.lit_inv;obtain ⟨hA4,hc4,hr4,rfl,hd4,h4⟩:=h3.list_inv;obtain ⟨hr5,rfl,h5⟩:=h4.lit_inv;obtain ⟨hr6,rfl,h6⟩:=h5.lit_inv;obtain ⟨hA7,hc7,hr7,rfl,hd7,h7⟩:=h6.list_inv;obtain ⟨hr8,rfl,h8⟩:=h7.lit_inv;obtain ⟨hr9,rfl,h9⟩:=h8.lit_inv;obtain rfl:=h9.nil_inv;obtain ⟨kr0,rfl,k0⟩:=hyl.lit_inv;obtain ⟨kr1,rfl,k1⟩:=k0.lit_inv;obtain ⟨kr2,rfl,k2⟩:=k1.lit_inv;obtain ⟨kr3,rfl,k3⟩:=k2.lit_inv;obtain ⟨kA4,kc4,kr4,rfl,kd4,k4⟩:=k3.list_inv;obtain ⟨kr5,rfl,k5⟩:=k4.lit_inv;obtain ⟨kr6,rfl,k6⟩:=k5.lit_inv;obtain ⟨kA7,kc7,kr7,rfl,kd7,k7⟩:=k6.list_inv;obtain ⟨kr8,rfl,k8⟩:=k7.lit_inv;obtain ⟨kr9,rfl,k9⟩:=k8.lit_inv;obtain rfl:=k9.nil_inv;have hxy:=hide hxy;have hin2:=hide hin;have hc:=fun {w M} (h:Hp w0 w K M)=>y6u _ (by omega) hin2.out hd4 kd4 h;have hc2:=fun {w M} (h:Hp w0 w K M)=>y3g _ (by omega) hxy.out hd7 kd7 h;clear hin;clear hx hy
    go_wp2_with fail
    refine rB [] H ?_;clear H;intro w H;refine rT 0 H ?_;refine rT 1 H ?_;refine rT 2 H ?_;refine rT 3 H ?_;refine rT 4 H ?_ (hd:=datB);refine rT 5 H ?_;refine rT 6 H ?_;refine rT 7 H ?_;refine rT 8 H ?_;refine rT 9 H ?_ (hd:=datB);refine rT 10 H ?_;refine rT 11 H ?_;refine rT 12 H ?_;refine rT 13 H ?_;refine rT 14 H ?_;refine rT 15 H ?_;refine rT 16 H ?_;refine rT 17 H ?_;refine rT 18 H ?_;refine rT 19 H ?_;refine rT 20 H ?_;refine rT 21 H ?_;refine rT 22 H ?_;refine rT 23 H ?_;refine rT 24 H ?_;refine rT 25 H ?_;refine rT 26 H ?_;refine rT 27 H ?_;refine rT 28 H ?_;refine rT 29 H ?_ (hd:=datA);refine rT 30 H ?_;refine rT 31 H ?_;refine rT 32 H ?_;refine rT 33 H ?_;refine rT 34 H ?_ (hd:=datA);refine rT 35 H ?_;refine rT 36 H ?_;refine rT 37 H ?_;refine rT 38 H ?_;refine rT 39 H ?_;refine rU 40 H ?_;refine rU 41 H ?_;refine rU 42 H ?_;refine rU 43 H ?_;refine rU 44 H ?_;refine rU 45 H ?_;refine rU 46 H ?_;refine rU 47 H ?_;refine rU 48 H ?_;refine rU 49 H ?_;refine rU 50 H ?_;refine rT 51 H ?_;refine rT 52 H ?_;refine rE ?_
    go_wp2_with fail
    refine rB [] H ?_;clear H;intro w H;refine rT 0 H ?_;refine rT 1 H ?_;refine rT 2 H ?_;refine rT 3 H ?_;refine rT 4 H ?_;refine rT 5 H ?_;refine rT 6 H ?_;refine rT 7 H ?_;refine rT 8 H ?_;refine rT 9 H ?_;refine rT 10 H ?_;refine rC 11 (hc H) ?_;clear H;rintro e w ⟨rfl,H⟩;refine rX H ?_;refine rT 12 H ?_;refine rT 13 H ?_;refine rT 14 H ?_;refine rT 15 H ?_;refine rT 16 H ?_;refine rT 17 H ?_;refine rT 18 H ?_;refine rT 19 H ?_;refine rT 20 H ?_;refine rT 21 H ?_;refine rT 22 H ?_;refine rT 23 H ?_;refine rT 24 H ?_;refine rD 25 (hc2 H) ?_;clear H;rintro e w ⟨rfl,H⟩;refine rX H ?_;refine rT 26 H ?_;refine rT 27 H ?_;refine rE ?_
    go_wp2_with fail
    go_roundw
    case rel=>exact ⟨k+1,by omega,by go_num,H⟩
    case measure=>simp [intOf];omega
   |true=>
    obtain ⟨⟨nh,nb,nt⟩,dn,da,⟨tn,tw⟩,ds,dl,dc⟩:=x;obtain ⟨⟨yh,yb,yt⟩,en,ea,⟨un,uw⟩,es,el,ec⟩:=y;simp only [y9n,y6b,Qao,Qa7] at hxy;obtain ⟨⟨⟨⟨⟨⟨⟨⟨rfl,rfl⟩,rfl⟩,rfl⟩,rfl⟩,rfl⟩,hpos⟩,hin⟩,hxy⟩:=hxy;simp only [y1j] at hxn;simp only [Bool.not_true,Bool.false_or,Qao,Qa7] at hpos;obtain ⟨rfl,rfl⟩:=hpos;obtain ⟨hr0,rfl,h0⟩:=hxl.lit_inv;obtain ⟨hr1,rfl,h1⟩:=h0.lit_inv;obtain ⟨hr2,rfl,h2⟩:=h1.lit_inv;obtain ⟨hr3,rfl,h3⟩:=h2.lit_inv;obtain ⟨hA4,hc4,hr4,rfl,hd4,h4⟩:=h3.list_inv;obtain ⟨hr5,rfl,h5⟩:=h4.lit_inv;obtain ⟨hr6,rfl,h6⟩:=h5.lit_inv;obtain ⟨hA7,hc7,hr7,rfl,hd7,h7⟩:=h6.list_inv;obtain ⟨hr8,rfl,h8⟩:=h7.lit_inv;obtain ⟨hr9,rfl,h9⟩:=h8.lit_inv;obtain rfl:=h9.nil_inv;obtain ⟨kr0,rfl,k0⟩:=hyl.lit_inv;obtain ⟨kr1,rfl,k1⟩:=k0.lit_inv;obtain ⟨kr2,rfl,k2⟩:=k1.lit_inv;obtain ⟨kr3,rfl,k3⟩:=k2.lit_inv;obtain ⟨kA4,kc4,kr4,rfl,kd4,k4⟩:=k3.list_inv;obtain ⟨kr5,rfl,k5⟩:=k4.lit_inv;obtain ⟨kr6,rfl,k6⟩:=k5.lit_inv;obtain ⟨kA7,kc7,kr7,rfl,kd7,k7⟩:=k6.list_inv;obtain ⟨kr8,rfl,k8⟩:=k7.lit_inv;obtain ⟨kr9,rfl,k9⟩:=k8.lit_inv;obtain rfl:=k9.nil_inv;have hxy:=hide hxy;have hin2:=hide hin;have hc:=fun {w M} (h:Hp w0 w K M)=>y6u _ (by omega) hin2.out hd4 kd4 h;have hc2:=fun {w M} (h:Hp w0 w K M)=>y3g _ (by omega) hxy.out hd7 kd7 h;clear hin;clear hx hy
    go_wp2_with fail
    refine rB [] H ?_;clear H;intro w H;refine rT 0 H ?_;refine rT 1 H ?_;refine rT 2 H ?_;refine rT 3 H ?_;refine rT 4 H ?_ (hd:=datB);refine rT 5 H ?_;refine rT 6 H ?_;refine rT 7 H ?_;refine rT 8 H ?_;refine rT 9 H ?_ (hd:=datB);refine rT 10 H ?_;refine rT 11 H ?_;refine rT 12 H ?_;refine rT 13 H ?_;refine rT 14 H ?_;refine rT 15 H ?_;refine rT 16 H ?_;refine rT 17 H ?_;refine rT 18 H ?_;refine rT 19 H ?_;refine rT 20 H ?_;refine rT 21 H ?_;refine rT 22 H ?_;refine rT 23 H ?_;refine rT 24 H ?_;refine rT 25 H ?_;refine rT 26 H ?_;refine rT 27 H ?_;refine rT 28 H ?_;refine rT 29 H ?_ (hd:=datA);refine rT 30 H ?_;refine rT 31 H ?_;refine rT 32 H ?_;refine rT 33 H ?_;refine rT 34 H ?_ (hd:=datA);refine rT 35 H ?_;refine rT 36 H ?_;refine rT 37 H ?_;refine rT 38 H ?_;refine rT 39 H ?_;refine rT 40 H ?_;refine rT 41 H ?_;refine rT 42 H ?_;refine rT 43 H ?_;refine rT 44 H ?_ (hd:=datA);refine rT 45 H ?_;refine rT 46 H ?_;refine rT 47 H ?_;refine rT 48 H ?_;refine rT 49 H ?_ (hd:=datA);refine rT 50 H ?_;refine rT 51 H ?_;refine rT 52 H ?_;refine rE ?_
    go_wp2_with fail
    refine rB [] H ?_;clear H;intro w H;refine rT 0 H ?_;refine rT 1 H ?_;refine rT 2 H ?_;refine rT 3 H ?_;refine rT 4 H ?_;refine rT 5 H ?_;refine rT 6 H ?_;refine rT 7 H ?_;refine rT 8 H ?_;refine rT 9 H ?_;refine rT 10 H ?_;refine rC 11 (hc H) ?_;clear H;rintro e w ⟨rfl,H⟩;refine rX H ?_;refine rT 12 H ?_;refine rT 13 H ?_;refine rT 14 H ?_;refine rT 15 H ?_;refine rT 16 H ?_;refine rT 17 H ?_;refine rT 18 H ?_;refine rT 19 H ?_;refine rT 20 H ?_;refine rT 21 H ?_;refine rT 22 H ?_;refine rT 23 H ?_;refine rT 24 H ?_;refine rD 25 (hc2 H) ?_;clear H;rintro e w ⟨rfl,H⟩;refine rX H ?_;refine rT 26 H ?_;refine rT 27 H ?_;refine rE ?_
    go_wp2_with fail
    go_roundw
    case rel=>exact ⟨k+1,by omega,by go_num,H⟩
    case measure=>simp [intOf];omega
  ·obtain rfl:nf=k:=by omega
   go_wp2_with fail
   go_ret;exact ⟨rfl,H⟩
end
def x1a (p:Bool) (d e:DefD):Bool:=d.kind==e.kind&&d.ext==e.ext&&y6b d.note e.note&&d.name==e.name&&d.rep==e.rep&&(!p||d.line==e.line&&d.col==e.col)&&
 (y4b (y6s p) d.ifaces e.ifaces&&y4b (y6s p) d.members e.members&&y4b (y6s p) d.places e.places&&y4b (y9n p) d.fields e.fields&&y4b (y7y p) d.inputs e.inputs&&y4b (y9m p) d.values e.values&&y4b (z3x p) d.roots e.roots&&y4b (z7a p) d.dirs e.dirs)
theorem x5c (p:Bool) (d:DefD):x1a p d d=true:=by
 simp [x1a,y6t,y1z (z8q p),y1z (z8t p),y1z (z2a p),y1z (z8s p),y1z (x09 p),y1z (y8j p)]
section
variable {w0 w K : World} {M : List Ent}
theorem x5d (p:Bool) {d e:DefD} {cs es:Array Value} (hn:defN d≤9000000) (heq:x1a p d e=true) (hd:RL K (defL d) cs.toList) (he:RL K (defL e) es.toList) (H:Hp w0 w K M):
  Calls Tryz.prog 66 #[.agg cs,.agg es,.bool p] w fun e w'=>e= .returned (.bool true)∧Hp w0 w' K M:=by
 obtain ⟨kind,ext,⟨nh,nb,nt⟩,name,ifaces,dirs,fields,inputs,members,values,roots,rep,places,line,col⟩:=d;obtain ⟨kind2,ext2,⟨nh2,nb2,nt2⟩,name2,ifaces2,dirs2,fields2,inputs2,members2,values2,roots2,rep2,places2,line2,col2⟩:=e;simp only [x1a,y6b,Qao,Qa7] at heq;obtain ⟨⟨⟨⟨⟨⟨rfl,rfl⟩,⟨rfl,rfl⟩,rfl⟩,rfl⟩,rfl⟩,hpos⟩,⟨⟨⟨⟨⟨⟨e6,e10⟩,e14⟩,e8⟩,e9⟩,e11⟩,e12⟩,e7⟩:=heq;obtain ⟨A6,c6,A7,c7,A8,c8,A9,c9,A10,c10,A11,c11,A12,c12,A14,c14,hcs,d6,d7,d8,d9,d10,d11,d12,d14⟩:=y0c hd;obtain rfl:cs= #[_,_,_,_,_,_,_,_,_,_,_,_,_,_,_,_,_]:=Qal.1 hcs;obtain ⟨B6,b6,B7,b7,B8,b8,B9,b9,B10,b10,B11,b11,B12,b12,B14,b14,hes,f6,f7,f8,f9,f10,f11,f12,f14⟩:=y0c he;obtain rfl:es= #[_,_,_,_,_,_,_,_,_,_,_,_,_,_,_,_,_]:=Qal.1 hes;simp only [defN] at hn;dsimp only at d6 d7 d8 d9 d10 d11 d12 d14 f6 f7 f8 f9 f10 f11 f12 f14 hpos ⊢;have hc6:=fun {w M} (h:Hp w0 w K M)=>y7x p (by omega) e6 d6 f6 h;have hc10:=fun {w M} (h:Hp w0 w K M)=>y7x p (by omega) e10 d10 f10 h;have hc14:=fun {w M} (h:Hp w0 w K M)=>y7x p (by omega) e14 d14 f14 h;have hc8:=fun {w M} (h:Hp w0 w K M)=>z7c p (by omega) e8 d8 f8 h;have hc9:=fun {w M} (h:Hp w0 w K M)=>y6u p (by omega) e9 d9 f9 h;have hc11:=fun {w M} (h:Hp w0 w K M)=>z7b p (by omega) e11 d11 f11 h;have hc12:=fun {w M} (h:Hp w0 w K M)=>z8r p (by omega) e12 d12 f12 h;have hc7:=fun {w M} (h:Hp w0 w K M)=>y3g p (by omega) e7 d7 f7 h;clear hcs hes hd he hn e6 e7 e8 e9 e10 e11 e12 e14 d6 d7 d8 d9 d10 d11 d12 d14 f6 f7 f8 f9 f10 f11 f12 f14
 cases p with
 |false=>
  clear hpos;go_enter Tryz.func66,Tryz.ntmps66
  go_wp2_with (first|(refine oL H ?_)|(refine oP H ?_;clear H;intro w _ H)|((with_reducible refine (hc6 H).mono ?_);clear H;rintro e w ⟨rfl,H⟩)|((with_reducible refine (hc10 H).mono ?_);clear H;rintro e w ⟨rfl,H⟩)|((with_reducible refine (hc14 H).mono ?_);clear H;rintro e w ⟨rfl,H⟩)|((with_reducible refine (hc8 H).mono ?_);clear H;rintro e w ⟨rfl,H⟩)|((with_reducible refine (hc9 H).mono ?_);clear H;rintro e w ⟨rfl,H⟩)|((with_reducible refine (hc11 H).mono ?_);clear H;rintro e w ⟨rfl,H⟩)|((with_reducible refine (hc12 H).mono ?_);clear H;rintro e w ⟨rfl,H⟩)|((with_reducible refine (hc7 H).mono ?_);clear H;rintro e w ⟨rfl,H⟩))
  go_ret;exact ⟨rfl,H.fin⟩
 |true=>
  simp only [Bool.not_true,Bool.false_or,Qao,Qa7] at hpos;obtain ⟨rfl,rfl⟩:=hpos;go_enter Tryz.func66,Tryz.ntmps66
  go_wp2_with (first|(refine oL H ?_)|(refine oP H ?_;clear H;intro w _ H)|((with_reducible refine (hc6 H).mono ?_);clear H;rintro e w ⟨rfl,H⟩)|((with_reducible refine (hc10 H).mono ?_);clear H;rintro e w ⟨rfl,H⟩)|((with_reducible refine (hc14 H).mono ?_);clear H;rintro e w ⟨rfl,H⟩)|((with_reducible refine (hc8 H).mono ?_);clear H;rintro e w ⟨rfl,H⟩)|((with_reducible refine (hc9 H).mono ?_);clear H;rintro e w ⟨rfl,H⟩)|((with_reducible refine (hc11 H).mono ?_);clear H;rintro e w ⟨rfl,H⟩)|((with_reducible refine (hc12 H).mono ?_);clear H;rintro e w ⟨rfl,H⟩)|((with_reducible refine (hc7 H).mono ?_);clear H;rintro e w ⟨rfl,H⟩))
  go_ret;exact ⟨rfl,H.fin⟩
theorem x1b (p:Bool) {l m:List DefD} {A B:Option Addr} {c b:Nat} (hn:y0e l≤9000000) (heq:y4b (x1a p) l m=true) (hd:RD K (.list l.length (y0q l)) (.slice A l.length c)) (he:RD K (.list m.length (y0q m)) (.slice B m.length b)) (H:Hp w0 w K M):
  Calls Tryz.prog 20 #[.slice A l.length c,.slice B m.length b,.bool p] w fun e w'=>e= .returned (.bool true)∧Hp w0 w' K M:=by
 obtain ⟨e6,E6⟩:=y5t heq;have hnf:=Qah (y0o (f:=defN) (fun d=>Nat.succ_pos _) l) hn;have HF:=hide (show ∀x∈l,defN x≤9000000 from fun x hx=>by obtain ⟨k,hk⟩:=Qaq hx;have:=y5e (f:=defN) hk;unfold y0e at hn;omega);have HE6:=hide (show ∀(k:Nat) (x y:DefD),l[k]?=some x→m[k]?=some y→(x1a p) x y=true from fun k x y=>E6);rw [←e6] at he ⊢;obtain ⟨nf,hnf2⟩: ∃x,l.length=x:=⟨_,rfl⟩;rw [hnf2] at hd he hnf e6 ⊢;have HNF:=hide hnf2;have HNG:=hide e6.symm;clear hnf2 e6 E6 heq hn;go_enter Tryz.func20,Tryz.ntmps20
 go_wp2_with fail
 go_loopw [7] (fun i wr=>∃k:Nat,k≤nf∧i= .int .i64 k∧Hp w0 wr K M) (fun i _=>nf - (intOf i).toNat)
 case atStart=>exact ⟨0,Qak _,rfl,H⟩
 case round=>
  clear H;obtain ⟨k,hk,rfl,H⟩:=hrel;by_cases hlt:k<nf
  ·obtain ⟨x,ad,us,hx,rfl,hxl,hat⟩:=el_k (m:=17) (f:=defL) y0u hd (by rw [HNF.out];exact hlt) (by decide);obtain ⟨y,bd,vs,hy,rfl,hyl,hbt⟩:=el_k (m:=17) (f:=defL) y0u he (by rw [HNG.out];exact hlt) (by decide);obtain ⟨hkI,hwr⟩:=wr_k hlt hnf;have hxn:=HF.out x (Qaf hx);have hxy:=HE6.out k x y hx hy;obtain ⟨A6,c6,A7,c7,A8,c8,A9,c9,A10,c10,A11,c11,A12,c12,A14,c14,hcs,-⟩:=y0c hxl;subst hcs;obtain ⟨B6,b6,B7,b7,B8,b8,B9,b9,B10,b10,B11,b11,B12,b12,B14,b14,hes,-⟩:=y0c hyl;subst hes;have hc:=fun {w M} (h:Hp w0 w K M)=>x5d (w0:=w0) (w:=w) (M:=M) p (cs:= #[_,_,_,_,_,_,_,_,_,_,_,_,_,_,_,_,_]) (es:= #[_,_,_,_,_,_,_,_,_,_,_,_,_,_,_,_,_]) hxn hxy hxl hyl h;clear hx hy
   go_wp2_with fail
   refine rB [] H ?_;clear H;intro w H;refine rT 0 H ?_;refine rT 1 H ?_;refine rT 2 H ?_;refine rT 3 H ?_;refine rT 4 H ?_;refine rT 5 H ?_;refine rT 6 H ?_;refine rT 7 H ?_;refine rT 8 H ?_;refine rC 9 (hc H) ?_;clear H;rintro e w ⟨rfl,H⟩;refine rX H ?_;refine rT 10 H ?_;refine rE ?_
   go_wp2_with fail
   go_roundw
   case rel=>exact ⟨k+1,by omega,by go_num,H⟩
   case measure=>simp [intOf];omega
  ·obtain rfl:nf=k:=by omega
   go_wp2_with fail
   go_ret;exact ⟨rfl,H⟩
theorem q4o (d:DefD) {cs:Array Value} (hd:RL K (defL d) cs.toList) (H:Hp w0 w K M):
  Calls Tryz.prog 21 #[.agg cs] w fun e w'=>∃K' g,e= .returned (.slice (some ⟨g,0,none⟩) 1 1)∧Sat K' K∧Hp w0 w' K' M∧RD K' (.list [d].length (y0q [d])) (.slice (some ⟨g,0,none⟩) 1 1):=by
 obtain ⟨A6,c6,A7,c7,A8,c8,A9,c9,A10,c10,A11,c11,A12,c12,A14,c14,hcs,-⟩:=y0c hd;obtain rfl:cs= #[_,_,_,_,_,_,_,_,_,_,_,_,_,_,_,_,_]:=Qal.1 hcs;clear hcs;go_enter Tryz.func21,Tryz.ntmps21
 go_wp2_with (first|(refine oL H ?_)|(refine oA 4 H ?_;clear H;intro w g H)|(refine oP H ?_;clear H;intro w _ H))
 replace H:Hp _ _ _ (.box g _ _::M):=H.fin;obtain ⟨K',hle,H,hq⟩:=H.freezeBox (n:=1) (ls:=y0q [d]) (show RL _ ([d].flatMap defL) _ by rw [List.flatMap_singleton];exact hd) (by simp [maxLen]);go_ret;exact ⟨K',g,rfl,hle,H,hq⟩
end
end Go.Proofs.YtbpgkkoeehopjaaGreat.hp
namespace Go.Proofs.YtbpgkkoeehopjaaGreat.gram
open tree
set_option maxRecDepth 100000
def y6v (g:List Txt→Option (List Txt)):List (List Txt)→Option (List Txt)
 |[]=>some []
 |c::r=>match g c with
  |none=>none
  |some a=>match y6v g r with
   |none=>none
   |some b=>some (a++b)
def y6c (g:List Txt→Option (List Txt)) (nu:Txt→Option Bool) (R:List RuleD):List Txt→Option (List Txt)
 |[]=>some []
 |s::r=>
  if s=[]∨1000<s.length then none
  else if y4i s=true then
   match y6v g (y09 R s) with
   |none=>none
   |some F=>match nu s with
    |none=>none
    |some true=>(match y6c g nu R r with
     |none=>none
     |some G=>some (F++G))
    |some false=>some F
  else some [s]
def x29 (R:List RuleD) (nf:Nat):Nat→List Txt→Option (List Txt)
 |0,_=>none
 |f+1,l=>y6c (x29 R nf f) (z0a R nf) R l
def fits (F:List Txt) (t:TokD):Bool:=F.any fun s=>y1m s t
theorem z7d (F G:List Txt) (t:TokD):fits (F++G) t=(fits F t||fits G t):=by simp [fits]
theorem z8u {g:List Txt→Option (List Txt)} {b:List Txt→Option Bool} {t:TokD} (h: ∀l F,g l=some F→b l=some (fits F t)): ∀{cs:List (List Txt)} {F:List Txt},y6v g cs=some F→anyO b cs=some (fits F t)
 |[],F,hF=>by rw [y6v] at hF;injection hF with hF;subst hF;rfl
 |c::r,F,hF=>by
  rw [y6v] at hF
  cases hg:g c with
  |none=>rw [hg] at hF;cases hF
  |some a=>
   rw [hg] at hF
   cases hr:y6v g r with
   |none=>rw [hr] at hF;cases hF
   |some G=>
    rw [hr] at hF;injection hF with hF;subst hF;rw [anyO,h c a hg,z7d]
    cases fits a t with
    |true=>rfl
    |false=>exact z8u h hr
theorem z5q {g:List Txt→Option (List Txt)} {b:List Txt→Option Bool} {nu:Txt→Option Bool} {R:List RuleD} {t:TokD} (h: ∀l F,g l=some F→b l=some (fits F t)): ∀{l F:List Txt},y6c g nu R l=some F→y6l b nu R t l=some (fits F t)
 |[],F,hF=>by rw [y6c] at hF;injection hF with hF;subst hF;rfl
 |s::r,F,hF=>by
  rw [y6c] at hF;rw [y6l];by_cases h0:s=[]∨1000<s.length
  ·rw [if_pos h0] at hF;cases hF
  rw [if_neg h0] at hF ⊢
  cases hr:y4i s with
  |false=>
   rw [hr,if_neg (by decide)] at hF;rw [if_neg (by decide)];injection hF with hF;subst hF;simp [fits]
  |true=>
   rw [hr,if_pos rfl] at hF;rw [if_pos rfl]
   cases ha:y6v g (y09 R s) with
   |none=>rw [ha] at hF;cases hF
   |some G=>
    rw [ha] at hF;rw [z8u h ha]
    cases hz:nu s with
    |none=>rw [hz] at hF;cases hF
    |some z=>
     rw [hz] at hF
     cases z with
     |false=>
      injection hF with hF;subst hF
      cases fits G t<;>rfl
     |true=>
      simp only at hF
      cases hf:y6c g nu R r with
      |none=>rw [hf] at hF;cases hF
      |some H=>
       rw [hf] at hF;injection hF with hF;subst hF;rw [z7d]
       cases fits G t with
       |true=>rfl
       |false=>exact z5q h hf
theorem z8v {R:List RuleD} {nf:Nat} {t:TokD}: ∀{f:Nat} {l F:List Txt},x29 R nf f l=some F→begF R nf t f l=some (fits F t)
 |0,l,F,h=>by cases h
 |f+1,l,F,h=>z5q (fun l F h=>z8v h) h
def x1c (R:List RuleD) (nf bf:Nat):List (List Txt)→Option (List (List Txt×List Txt))
 |[]=>some []
 |c::r=>match x29 R nf bf c with
  |none=>none
  |some F=>match x1c R nf bf r with
   |none=>none
   |some T=>some ((F,c)::T)
def pick (t:TokD):List (List Txt×List Txt)→Option (List Txt)
 |[]=>none
 |(F,c)::r=>if fits F t=true then some c else pick t r
theorem x3a {R:List RuleD} {nf bf:Nat} {t:TokD}: ∀{cs:List (List Txt)} {T:List (List Txt×List Txt)},x1c R nf bf cs=some T→choF (begF R nf t bf) cs=some (pick t T)
 |[],T,h=>by rw [x1c] at h;injection h with h;subst h;rfl
 |c::r,T,h=>by
  rw [x1c] at h
  cases hf:x29 R nf bf c with
  |none=>rw [hf] at h;cases h
  |some F=>
   rw [hf] at h
   cases hr:x1c R nf bf r with
   |none=>rw [hr] at h;cases h
   |some U=>
    rw [hr] at h;injection h with h;subst h;rw [choF,z8v hf,pick]
    cases fits F t with
    |true=>rfl
    |false=>exact x3a hr
def tabF (R:List RuleD) (nf bf:Nat) (s:Txt):Option (List (List Txt×List Txt)×Bool):=
 match x1c R nf bf (y09 R s) with
 |none=>none
 |some T=>match z0a R nf s with
  |none=>none
  |some z=>some (T,z)
theorem z5r {R:List RuleD} {nf bf:Nat} {t:TokD} {s:Txt} {T:List (List Txt×List Txt)} {z:Bool} (h:tabF R nf bf s=some (T,z)):z04 R nf bf t s=some (match pick t T with|some c=>(c,true)|none=>([],z)):=by
 unfold tabF at h
 cases hr:x1c R nf bf (y09 R s) with
 |none=>rw [hr] at h;cases h
 |some U=>
  rw [hr] at h
  cases hz:z0a R nf s with
  |none=>rw [hz] at h;cases h
  |some y=>
   rw [hz] at h;injection h with h;injection h with h1 h2;subst h1 h2;unfold z04;rw [x3a hr]
   cases pick t U with
   |none=>simp only [hz]
   |some c=>rfl
abbrev nfG:Nat:=40
abbrev bfG:Nat:=40
def tabG (s:Txt):Option (List (List Txt×List Txt)×Bool):=tabF rulesG nfG bfG s
def q5q (R:List RuleD):Nat→Txt→Nat
 |0,_=>0
 |f+1,s=>if y4i s=true then ((y09 R s).map fun c=>match c with|[]=>0|x::_=>q5q R f x).foldl max 0+1 else 0
def rank (s:Txt):Nat:=q5q rulesG 40 s
def z09 (s:Txt):List Txt:=if y4i s=true then (match tabG s with
 |some (T,_)=>T.flatMap (·.1)
 |none=>[]) else [s]
def z8w (s:Txt):Bool:=decide (s≠[])&&decide (s.length≤1000)&&(!y4i s||(rulesG.any fun r=>decide (r.name=s)))
abbrev endT:Txt:=[46,101,110,100]
def q5r (s:Txt) (p:List Txt×List Txt):Bool:=match p.2 with
 |[]=>p.1.isEmpty
 |x::r=>decide (r.length≤11)&&(x::r).all z8w&&decide (p.1=z09 x)&&decide (rank x<rank s)&&decide (endT∉p.1)
def q7u (s:Txt):Bool:=match tabG s with
 |some (T,_)=>T.all (q5r s)
 |none=>false
theorem q7v: ∀r∈rulesG,(q7u r.name&&decide (rank r.name≤12))=true:=by decide+kernel
theorem x3b {s:Txt} (h:z8w s=true) (hr:y4i s=true):(∃T z,tabG s=some (T,z)∧ ∀p∈T,q5r s p=true)∧rank s≤12:=by
 unfold z8w at h;rw [hr] at h;simp only [Bool.not_true,Bool.false_or,Qao,Qbh,decide_eq_true_eq] at h;obtain ⟨_,r,hm,rfl⟩:=h;have h1:=q7v r hm;simp only [Qao,decide_eq_true_eq] at h1;refine ⟨?_,h1.2⟩;have h2:=h1.1;unfold q7u at h2
 cases ht:tabG r.name with
 |none=>rw [ht] at h2;cases h2
 |some p=>
  obtain ⟨T,z⟩:=p;rw [ht] at h2;exact ⟨T,z,rfl,Qbi.1 h2⟩
theorem q7w {s:Txt} (h:z8w s=true): ¬(s=[]∨1000<s.length):=by
 unfold z8w at h;simp only [Qao,decide_eq_true_eq] at h;rintro (h0|h0)
 ·exact h.1.1 h0
 ·have:=h.1.2;omega
theorem z8x {s:Txt} (h:y4i s=false):rank s=0:=by
 unfold rank q5q;rw [h,if_neg (by decide)]
theorem z3y {s:Txt} {t:TokD} (h:y1m s t=true):t.kind≠1∧(s≠endT→t.kind≠0):=by
 unfold y1m at h;split at h
 ·have:t.kind=3:=by simpa using h
  omega
 split at h
 ·simp only [Qao] at h
  have:t.kind=3:=by simpa using h.1
  omega
 split at h
 ·simp only [Qao] at h
  have:t.kind=3:=by simpa using h.1
  omega
 split at h
 ·simp only [Qao] at h
  have:t.kind=3:=by simpa using h.1
  omega
 split at h
 ·simp only [Bool.or_eq_true] at h;rcases h with h|h
  ·have:t.kind=6:=by simpa using h
   omega
  ·have:t.kind=7:=by simpa using h
   omega
 split at h
 ·simp only [Bool.or_eq_true] at h;rcases h with h|h
  ·have:t.kind=4:=by simpa using h
   omega
  ·have:t.kind=5:=by simpa using h
   omega
 split at h
 ·rename_i he
  have:t.kind=0:=by simpa using h
  exact ⟨by omega,fun h=>absurd he h⟩
 cases s with
 |nil=>cases h
 |cons c r=>
  simp only at h;split at h
  ·simp only [Qao] at h
   have:t.kind=3:=by simpa using h.1
   omega
  ·simp only [Qao] at h
   have:t.kind=2:=by simpa using h.1
   omega
theorem y5u {F:List Txt} {t:TokD} (h:fits F t=true) (hn:endT∉F):t.kind≠0:=by
 unfold fits at h;obtain ⟨s,hs,hf⟩:=Qbh.1 h;exact (z3y hf).2 (fun e=>hn (e▸hs))
theorem z8y {t:TokD} {c:List Txt}: ∀{T:List (List Txt×List Txt)},pick t T=some c→ ∃F,(F,c)∈T∧fits F t=true
 |[],h=>by cases h
 |(F,d)::r,h=>by
  rw [pick] at h;split at h
  ·rename_i hf;injection h with h;subst h;exact ⟨F,Qaz ..,hf⟩
  ·obtain ⟨G,hm,hG⟩:=z8y h;exact ⟨G,Qa2 _ hm,hG⟩
theorem z8z {t:TokD}: ∀{T:List (List Txt×List Txt)},pick t T=none→fits (T.flatMap (·.1)) t=false
 |[],h=>rfl
 |(F,d)::r,h=>by
  rw [pick] at h;split at h
  ·cases h
  ·rename_i hf;rw [List.flatMap_cons,z7d,z8z h];simpa using hf
theorem q2r {t:TokD} {F G:List Txt} (h:fits F t=true) (hs: ∀x∈F,x∈G):fits G t=true:=by
 unfold fits at h ⊢;obtain ⟨s,hm,hf⟩:=Qbh.1 h;exact Qbh.2 ⟨s,hs s hm,hf⟩
structure TokE (toks:List TokD):Prop where
 ends: ∀k t,toks[k]?=some t→((t.kind=0∨t.kind=1)↔k+1=toks.length)
def sure (t:TokD) (s:Txt):Bool:=fits (z09 s) t&&(t.kind !=0)
def phi (toks:List TokD) (st:List Txt) (k:Nat):Nat:=match st,toks[k]? with
 |s::r,some t=>if sure t s=true then (s::r).length+200*(toks.length - k - 1)+12*rank s else (s::r).length+200*(toks.length - k)
 |_,_=>200*(toks.length - k)
theorem x3c {toks:List TokD} {st:List Txt} {k:Nat} (hok: ∀s∈st,z8w s=true) (hk:k<toks.length):phi toks st k≤st.length+200*(toks.length - k):=by
 unfold phi;split
 ·rename_i s r t ht;split
  ·have hr:rank s≤12:=by
    cases hr:y4i s with
    |true=>exact (x3b (hok s (Qaz ..)) hr).2
    |false=>rw [z8x hr];omega
   omega
  ·omega
 ·omega
theorem z0j (toks:List TokD) (depth:Int) (hE:TokE toks): ∀(f:Nat) (st:List Txt) (k:Nat) (op:Int),k<toks.length→(∀s∈st,z8w s=true)→phi toks st k<f→f≤900000000→ ∃r,runF rulesG nfG bfG toks depth f st k op=some r
 |0,st,k,op,hk,hok,hp,hf=>by omega
 |f+1,[],k,op,hk,hok,hp,hf=>⟨_,rfl⟩
 |f+1,s::r,k,op,hk,hok,hp,hf=>by
  obtain ⟨t,ht⟩: ∃t,toks[k]?=some t:=⟨_,Qad hk⟩;have hs:=hok s (Qaz ..);have hrest: ∀x∈r,z8w x=true:=fun x hx=>hok x (Qa2 _ hx)
  have hp0:phi toks (s::r) k=if sure t s=true then (s::r).length+200*(toks.length - k - 1)+12*rank s else (s::r).length+200*(toks.length - k):=by unfold phi;simp only [ht]
  rw [hp0] at hp;rw [runF,ht];simp only;rw [if_neg (q7w hs)]
  cases hr:y4i s with
  |true=>
   rw [if_pos rfl];obtain ⟨⟨T,z,hT,hall⟩,hrk⟩:=x3b hs hr
   have hfs:z09 s=T.flatMap (·.1):=by unfold z09;rw [hr,if_pos rfl,hT]
   rw [z5r hT]
   cases hpk:pick t T with
   |none=>
    have hns:sure t s=false:=by unfold sure;rw [hfs,z8z hpk];rfl
    rw [hns,if_neg (by decide)] at hp
    cases z with
    |false=>exact ⟨_,rfl⟩
    |true=>
     simp only [List.nil_append,List.length_nil];have h1:=x3c hrest hk;simp only [List.length_cons] at hp;rw [if_neg (by omega)];exact z0j toks depth hE f r k op hk hrest (by omega) (by omega)
   |some c=>
    obtain ⟨F,hm,hF⟩:=z8y hpk;have hro:=hall _ hm;unfold q5r at hro
    cases c with
    |nil=>
     simp only [List.isEmpty_iff] at hro;subst hro;cases hF
    |cons x c=>
     simp only [Qao,decide_eq_true_eq,Qbi] at hro;obtain ⟨⟨⟨⟨h1,h2⟩,h3⟩,h4⟩,h5⟩:=hro;have hk0:=y5u hF h5
     have hsu:sure t s=true:=by
      unfold sure;rw [hfs,q2r hF (fun y hy=>List.mem_flatMap.2 ⟨_,hm,hy⟩)];simpa using hk0
     have hsx:sure t x=true:=by
      unfold sure;rw [←h3,hF];simpa using hk0
     rw [hsu,if_pos rfl] at hp;simp only [List.length_cons] at hp;simp only [List.length_cons]
     have hpx:phi toks (x::c++r) k=(x::c++r).length+200*(toks.length - k - 1)+12*rank x:=by
      unfold phi;simp only [ht,List.cons_append];rw [hsx,if_pos rfl]
     have hl:(x::c++r).length=c.length+1+r.length:=by simp;omega
     rw [if_neg (by omega)];refine z0j toks depth hE f (x::c++r) k op hk ?_ (by omega) (by omega);intro y hy;rcases Qbf.1 hy with hy|hy
     ·exact h2 y hy
     ·exact hrest y hy
  |false=>
   rw [if_neg (by decide)]
   cases hft:y1m s t with
   |false=>exact ⟨_,rfl⟩
   |true=>
    rw [if_neg (by decide)];by_cases hb:y13 s=1∧depth≤op
    ·rw [if_pos hb];exact ⟨_,rfl⟩
    rw [if_neg hb]
    have hfs:z09 s=[s]:=by unfold z09;rw [hr,if_neg (by decide)]
    have hk1:=(z3y hft).1;by_cases h0:t.kind=0
    ·have hl:=(hE.ends k t ht).1 (.inl h0)
     have hns:sure t s=false:=by unfold sure;rw [h0];simp
     rw [hns,if_neg (by decide)] at hp;simp only [List.length_cons] at hp;rw [if_neg (by omega)];have h1:=x3c hrest hk;exact z0j toks depth hE f r k _ hk hrest (by omega) (by omega)
    ·have hl: ¬k+1=toks.length:=fun e=>by have:=(hE.ends k t ht).2 e;omega
     have hsu:sure t s=true:=by
      unfold sure;rw [hfs];simp only [fits,List.any_cons,List.any_nil,hft,Bool.or_false,Bool.true_and];simpa using h0
     rw [hsu,if_pos rfl,z8x hr] at hp;simp only [List.length_cons] at hp
     have hk2:k+1<toks.length:=by omega
     rw [if_pos hk2];have h1:=x3c hrest hk2;exact z0j toks depth hE f r (k+1) _ hk2 hrest (by omega) (by omega)
end Go.Proofs.YtbpgkkoeehopjaaGreat.gram
