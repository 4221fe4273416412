/- Part 9 of a proof: see the text that holds the statement. -/
import Derived.Test.YtbpgkkoeehopjaaGreatP5
import Derived.Test.YtbpgkkoeehopjaaGreatP7
import Derived.Laws.StructEq
set_option linter.unusedVariables false
set_option linter.unusedSimpArgs false
namespace Go.Proofs.YtbpgkkoeehopjaaGreat.hp
open Go.RowKit words enc tree gram lex rd dec dat held
set_option maxRecDepth 100000
set_option maxHeartbeats 40000000
attribute [local go_sem ↓] Go.wp_at_zero Go.wp_at_succ
mutual
def y5y (p:Bool):LitD→LitD→Bool
 | .mk k t b is fs l c,.mk k2 t2 b2 is2 fs2 l2 c2=>k==k2&&t==t2&&b==b2&&(!p||l==l2&&c==c2)&&eqLits p is is2&&eqPairs p fs fs2
def eqLits (p:Bool):List LitD→List LitD→Bool
 |[],[]=>true
 |d::r,e::s=>y5y p d e&&eqLits p r s
 |_,_=>false
def eqPair (p:Bool):PairD→PairD→Bool
 | .mk n v l c,.mk n2 v2 l2 c2=>n==n2&&y5y p v v2&&(!p||l==l2&&c==c2)
def eqPairs (p:Bool):List PairD→List PairD→Bool
 |[],[]=>true
 |d::r,e::s=>eqPair p d e&&eqPairs p r s
 |_,_=>false
end
mutual
theorem z1h (p:Bool): ∀d,y5y p d d=true
 | .mk k t b is fs l c=>by simp [y5y,eqLits_refl p is,eqPairs_refl p fs]
theorem eqLits_refl (p:Bool): ∀l,eqLits p l l=true
 |[]=>by simp [eqLits,eqPairs]
 |d::r=>by simp [eqLits,z1h p d,eqLits_refl p r]
theorem eqPair_refl (p:Bool): ∀d,eqPair p d d=true
 | .mk n v l c=>by simp [eqPair,z1h p v]
theorem eqPairs_refl (p:Bool): ∀l,eqPairs p l l=true
 |[]=>by simp [eqLits,eqPairs]
 |d::r=>by simp [eqPairs,eqPair_refl p d,eqPairs_refl p r]
end
theorem z9a {p:Bool}: ∀{l m:List LitD},eqLits p l m=true→l.length=m.length∧ ∀{k:Nat} {x y:LitD},l[k]?=some x→m[k]?=some y→y5y p x y=true
 |[],[],_=>⟨rfl,fun h=>by simp at h⟩
 |d::r,e::s,h=>by
  simp only [eqLits,Qao] at h;obtain ⟨h1,h2⟩:=z9a h.2;refine ⟨by simp [h1],fun {k x y} hx hy=>?_⟩
  cases k with
  |zero=>simp only [List.getElem?_cons_zero,Option.some.injEq] at hx hy;subst hx hy;exact h.1
  |succ k=>exact h2 (k:=k) (by simpa using hx) (by simpa using hy)
 |[],_::_,h=>by simp [eqLits] at h
 |_::_,[],h=>by simp [eqLits] at h
theorem z1i {p:Bool}: ∀{l m:List PairD},eqPairs p l m=true→l.length=m.length∧ ∀{k:Nat} {x y:PairD},l[k]?=some x→m[k]?=some y→eqPair p x y=true
 |[],[],_=>⟨rfl,fun h=>by simp at h⟩
 |d::r,e::s,h=>by
  simp only [eqPairs,Qao] at h;obtain ⟨h1,h2⟩:=z1i h.2;refine ⟨by simp [h1],fun {k x y} hx hy=>?_⟩
  cases k with
  |zero=>simp only [List.getElem?_cons_zero,Option.some.injEq] at hx hy;subst hx hy;exact h.1
  |succ k=>exact h2 (k:=k) (by simpa using hx) (by simpa using hy)
 |[],_::_,h=>by simp [eqPairs] at h
 |_::_,[],h=>by simp [eqPairs] at h
section
variable {P : Program} {w0 w K K' : World} {M N : List Ent} {ops : Array Oper} {Q : Exit → Act → World → Prop} {F : List Nat} {fuel : Nat} {listed : Array Bool} {a a' : Act} {oi : Oper} {o : Oper} {v : Value}
theorem datA {ty:TypeId} {x:Operand} {n j:Nat} {p:Addr} {cs us:List Value} (ho:o.op= .load ty x:=by rfl) (hs:Rw P ty n:=by infer_instance) (hx:a.eval x= .pointer (some ⟨p.block,p.off+(j+1),none⟩):=by rfl)
  (hc:At K p cs:=by assumption) (hn:(cs.drop (j+1)).take n=us:=by (simp only [List.drop_succ_cons,List.take_succ_cons,List.drop_zero,List.take_zero,List.take_nil];try rfl)) (hl:us.length=n:=by rfl):z1g P o a K M (.agg us.toArray):=fun w0 w H=>by
 obtain ⟨d,hu,hd⟩:=hs.u;have hsz:=hs.s;rw [←hl] at hsz
 have hat:At w ⟨p.block,p.off+(j+1),none⟩ us:=⟨fun u hu=>(At.sat hc H.sat).2 j u (by
  rw [←hn,Qbb,Qbc] at hu;split at hu
  ·simpa using hu
  ·cases hu),fun i u hu=>by
  have:=(At.sat hc H.sat).2 (j+(i+1)) u (by
   rw [←hn,Qbb,Qbc] at hu;split at hu
   ·rwa [show j+1+(i+1)=j+(i+1)+1 by omega] at hu
   ·cases hu)
  rwa [show p.off+(j+(i+1)+1)=p.off+(j+1)+(i+1) by omega] at this⟩
 unfold execOp;simp only [ho,hx,Instr.loadAt,Instr.sureAddr,Sem.run_bind,Sem.run_pure,Result.andThen_ok,y4d w _ ty us d hat hu hd hsz]
theorem rU (i:Nat) (H:Hp w0 w K' N) (h:AnyL P .any ops Q (Ov w0 K M) F fuel (listed.setIfInBounds i true) a' w) (hi:ops[i]?=some oi:=by (simp only [List.getElem?_toArray,List.getElem?_cons_zero,List.getElem?_cons_succ];try rfl))
  (ha:a.put oi.dst undef=a':=by (simp only [Act.put,List.getElem_toArray,List.getElem_cons_zero,List.getElem_cons_succ,List.setIfInBounds_toArray,List.set_cons_zero,List.set_cons_succ];try rfl))
  (hw:Region.wanted oi (yielded ops a.tmps)=false:=by rfl) (hs:Region.noSelect ops=true:=by kernel_rfl) (hf:Region.free .any ops listed i=true:=by kernel_rfl) (hr:(Region.ready .any ops listed).contains i=true:=by kernel_rfl) (hF:waits .any ops F i=true:=by kernel_rfl) (hc:closed .any ops listed=true:=by kernel_rfl)
  (hle:Sat K' K:=by first|exact Sat.refl _|assumption) (hsf:Inc M N:=by first|((repeat (first|exact n0|exact nN|apply nD))<;>fail)|((repeat (first|exact n0|exact nN|refine nS (by ((repeat (first|exact u0|apply uS))<;>fail)) ?_|apply nD))<;>fail)|fail) (hQ: ∀c a w,Q (.panic c) (a.put oi.dst undef) w→Q (.panic c) a w:=by exact fun _ _ _ h=>h):AnyL P .any ops Q (Ov w0 K M) F (fuel+1) listed a w:=
 held.take hi hs hf hr hF hc hQ (.inr ⟨hw,rfl⟩) ⟨K',N,hle,H,hsf⟩ (ha▸h)
end
instance:Sc Tryz.prog 117:=⟨⟨_,Tryz.underlying117,rfl⟩⟩
section
variable {w0 w K : World} {M : List Ent}
theorem y8o (p:Bool): ∀(m:Nat) (d e:LitD) (cs es:Array Value) (w0 w K:World) (M:List Ent),litN d≤m→m≤9000000→y5y p d e=true→RL K (litL d) cs.toList→RL K (litL e) es.toList→Hp w0 w K M→
  Calls Tryz.prog 153 #[.agg cs,.agg es,.bool p] w fun e w'=>e= .returned (.bool true)∧Hp w0 w' K M:=by
 intro m
 induction m with
 |zero=>intro d e cs es w0 w K M h;have:=y8j d;omega
 |succ m ih=>
 intro d e cs es w0 w K M hn hm heq hd he H;obtain ⟨kind,text,block,items,fields,line,col⟩:=d;obtain ⟨kind2,text2,block2,items2,fields2,line2,col2⟩:=e;obtain ⟨Ai,ci,Af,cf,hcs,hi,hf⟩:=y0l hd;obtain rfl:cs= #[_,_,_,_,_,_,_]:=Qal.1 hcs;obtain ⟨Bi,bi,Bf,bf,hes,gi,gf⟩:=y0l he;obtain rfl:es= #[_,_,_,_,_,_,_]:=Qal.1 hes;simp only [y5y,Qao,Qa7] at heq;obtain ⟨⟨⟨⟨⟨h1,h2⟩,h3⟩,h4⟩,h5⟩,h6⟩:=heq;subst h1 h2 h3;obtain ⟨e5,E5⟩:=z9a h5;obtain ⟨e6,E6⟩:=z1i h6
 have hni:items.length≤9000000:=by have:=z67 items;simp only [litN] at hn;omega
 have hnf:fields.length≤9000000:=by have:=y72 fields;simp only [litN] at hn;omega
 have HI:=hide (show ∀x∈items,litN x≤m from fun x hx=>by obtain ⟨k,hk⟩:=Qaq hx;have:=x1q hk;simp only [litN] at hn;omega);have HF:=hide (show ∀x∈fields,pairN x≤m from fun x hx=>by obtain ⟨k,hk⟩:=Qaq hx;have:=z0i hk;simp only [litN] at hn;omega);have HE5:=hide (show ∀(k:Nat) (x y:LitD),items[k]?=some x→items2[k]?=some y→y5y p x y=true from fun k x y=>E5);have HE6:=hide (show ∀(k:Nat) (x y:PairD),fields[k]?=some x→fields2[k]?=some y→eqPair p x y=true from fun k x y=>E6);have HIH:=hide ih;rw [y8g] at hi gi;rw [y4l] at hf gf;clear ih hcs hes hd he hn h5 h6 E5 E6;rw [←e5] at gi;rw [←e6] at gf;obtain ⟨ni,hni2⟩: ∃x,items.length=x:=⟨_,rfl⟩;obtain ⟨nf,hnf2⟩: ∃x,fields.length=x:=⟨_,rfl⟩;rw [hni2] at hi gi hni e5;rw [hnf2] at hf gf hnf e6;rw [←e5,←e6,hni2,hnf2];have HNI:=hide hni2;have HNF:=hide hnf2;have HNJ:=hide e5.symm;have HNG:=hide e6.symm;clear hni2 hnf2 e5 e6
 cases p with
 |false=>
  go_enter Tryz.func153,Tryz.ntmps153
  go_upto_region 1 with (first|(refine oA 3 H ?_;clear H;intro w gv H)|(refine oA 4 H ?_;clear H;intro w gu H))
  have a0:=H.c 0 0;have a1:=H.c 0 1;have a2:=H.c 0 2;have a3:=H.c 0 3;have a4:=H.c 0 4;have a5:=H.c 0 5;have a6:=H.c 0 6;have b5:=H.c 1 5;have b6:=H.c 1 6;have b0:=H.c 1 0;have b1:=H.c 1 1;have b2:=H.c 1 2;have b3:=H.c 1 3;have b4:=H.c 1 4
  go_wp2_with fail
  go_loopw [7] (fun i wr=>∃k:Nat,k≤ni∧i= .int .i64 k∧Hp w0 wr K (.box gu [.int .i64 kind,.string (str text),.bool block,.slice Bi ni bi,.slice Bf nf bf,.int .i64 line2,.int .i64 col2] 121:: .box gv [.int .i64 kind,.string (str text),.bool block,.slice Ai ni ci,.slice Af nf cf,.int .i64 line,.int .i64 col] 121::M)) (fun i _=>ni - (intOf i).toNat)
  case atStart=>exact ⟨0,Qak _,rfl,H⟩
  case round=>
   clear H;obtain ⟨k,hk,rfl,H⟩:=hrel;by_cases hlt:k<ni
   ·obtain ⟨x,ad,us,hx,rfl,hxl,hat⟩:=el_k y6w hi (by rw [HNI.out];exact hlt) (by decide);obtain ⟨y,bd,vs,hy,rfl,hyl,hbt⟩:=el_k y6w gi (by rw [HNJ.out];exact hlt) (by decide);obtain ⟨hkI,hwr⟩:=wr_k hlt hni;have hxn:=HI.out x (Qaf hx);have hxy:=hide (HE5.out k x y hx hy);obtain ⟨dk,dt,db,di,df,dln,dcl⟩:=x;obtain ⟨Xi,xi,Xf,xf,rfl,-,-⟩:=y0l hxl;obtain ⟨dk',dt',db',di',df',dln',dcl'⟩:=y;obtain ⟨Yi,yi,Yf,yf,rfl,-,-⟩:=y0l hyl;have hc:=fun {w M} (h:Hp w0 w K M)=>HIH.out _ _ #[_,_,_,_,_,_,_] #[_,_,_,_,_,_,_] w0 w K M hxn (by omega) hxy.out hxl hyl h;clear hx hy
    go_wp2_with (refine oL H ?_)
    refine rB [] H ?_;clear H;intro w H;refine rT 0 H ?_;refine rT 1 H ?_;refine rT 2 H ?_;refine rT 3 H ?_;refine rT 4 H ?_;refine rT 5 H ?_;refine rT 6 H ?_;refine rT 7 H ?_;refine rT 8 H ?_;refine rT 9 H ?_;refine rT 10 H ?_;refine rC 11 (hc H) ?_;clear H;rintro e w ⟨rfl,H⟩;refine rX H ?_;refine rT 12 H ?_;refine rE ?_
    go_wp2_with (first|(refine oL H ?_)|(refine oP H ?_;clear H;intro w _ H))
    go_roundw
    case rel=>exact ⟨k+1,by omega,by go_num,H⟩
    case measure=>simp [intOf];omega
   ·obtain rfl:ni=k:=by omega
    clear hlt
    go_wp2_with (refine oL H ?_)
    go_loopw [9] (fun i wr=>∃k:Nat,k≤nf∧i= .int .i64 k∧Hp w0 wr K (.box gu [.int .i64 kind,.string (str text),.bool block,.slice Bi ni bi,.slice Bf nf bf,.int .i64 line2,.int .i64 col2] 121:: .box gv [.int .i64 kind,.string (str text),.bool block,.slice Ai ni ci,.slice Af nf cf,.int .i64 line,.int .i64 col] 121::M)) (fun i _=>nf - (intOf i).toNat)
    case atStart=>exact ⟨0,Qak _,rfl,H⟩
    case round=>
     clear H;obtain ⟨k,hk,rfl,H⟩:=hrel;by_cases hlt:k<nf
     ·obtain ⟨x,ad,us,hx,rfl,hxl,hat⟩:=el_k y4k hf (by rw [HNF.out];exact hlt) (by decide);obtain ⟨y,bd,vs,hy,rfl,hyl,hbt⟩:=el_k y4k gf (by rw [HNG.out];exact hlt) (by decide);obtain ⟨hkI,hwr⟩:=wr_k hlt hnf;have hxn:=HF.out x (Qaf hx);have hxy:=HE6.out k x y hx hy;obtain ⟨pn,⟨dk,dt,db,di,df,dln,dcl⟩,pl,pc⟩:=x;obtain ⟨qn,⟨dk',dt',db',di',df',dln',dcl'⟩,ql,qc⟩:=y;simp only [eqPair,Qao,Qa7] at hxy;obtain ⟨⟨rfl,hxy⟩,hpos⟩:=hxy;clear hpos;have hxy:=hide hxy;obtain ⟨ls,rfl,hvl⟩:=y2n hxl;obtain ⟨Xi,xi,Xf,xf,rfl,-,-⟩:=y0l hvl;obtain ⟨ls,rfl,hul⟩:=y2n hyl;obtain ⟨Yi,yi,Yf,yf,rfl,-,-⟩:=y0l hul;simp only [pairN] at hxn;have hc:=fun {w M} (h:Hp w0 w K M)=>HIH.out _ _ #[_,_,_,_,_,_,_] #[_,_,_,_,_,_,_] w0 w K M (by omega) (by omega) hxy.out hvl hul h;simp only [List.cons_append,List.nil_append] at hat hbt;clear hx hy
      go_wp2_with (refine oL H ?_)
      refine rB [] H ?_;clear H;intro w H;refine rT 0 H ?_;refine rT 1 H ?_;refine rT 2 H ?_;refine rT 3 H ?_;refine rT 4 H ?_;refine rT 5 H ?_ (hd:=datA);refine rT 6 H ?_;refine rT 7 H ?_;refine rT 8 H ?_;refine rT 9 H ?_;refine rT 10 H ?_;refine rT 11 H ?_ (hd:=datA);refine rT 12 H ?_;refine rC 13 (hc H) ?_;clear H;rintro e w ⟨rfl,H⟩;refine rX H ?_;refine rT 14 H ?_;refine rE ?_
      go_wp2_with fail
      refine rB [] H ?_;clear H;intro w H;refine rT 0 H ?_;refine rT 1 H ?_;refine rT 2 H ?_;refine rT 3 H ?_;refine rT 4 H ?_;refine rT 5 H ?_;refine rT 6 H ?_;refine rT 7 H ?_;refine rT 8 H ?_;refine rT 9 H ?_;refine rT 10 H ?_;refine rT 11 H ?_;refine rT 12 H ?_;refine rT 13 H ?_;refine rT 14 H ?_;refine rT 15 H ?_;refine rT 16 H ?_;refine rT 17 H ?_;refine rT 18 H ?_;refine rT 19 H ?_;refine rU 20 H ?_;refine rU 21 H ?_;refine rU 22 H ?_;refine rU 23 H ?_;refine rU 24 H ?_;refine rU 25 H ?_;refine rU 26 H ?_;refine rU 27 H ?_;refine rU 28 H ?_;refine rU 29 H ?_;refine rU 30 H ?_;refine rU 31 H ?_;refine rU 32 H ?_;refine rT 33 H ?_;refine rT 34 H ?_;refine rE ?_
      go_wp2_with fail
      go_roundw
      case rel=>exact ⟨k+1,by omega,by go_num,H⟩
      case measure=>simp [intOf];omega
     ·obtain rfl:nf=k:=by omega
      go_wp2_with (refine oL H ?_)
      go_ret;exact ⟨rfl,H.fin⟩
 |true=>
  simp only [Bool.not_true,Bool.false_or,Qao,Qa7] at h4;obtain ⟨rfl,rfl⟩:=h4;go_enter Tryz.func153,Tryz.ntmps153
  go_upto_region 1 with (first|(refine oA 3 H ?_;clear H;intro w gv H)|(refine oA 4 H ?_;clear H;intro w gu H))
  have a0:=H.c 0 0;have a1:=H.c 0 1;have a2:=H.c 0 2;have a3:=H.c 0 3;have a4:=H.c 0 4;have a5:=H.c 0 5;have a6:=H.c 0 6;have b5:=H.c 1 5;have b6:=H.c 1 6;have b0:=H.c 1 0;have b1:=H.c 1 1;have b2:=H.c 1 2;have b3:=H.c 1 3;have b4:=H.c 1 4
  go_wp2_with fail
  go_loopw [7] (fun i wr=>∃k:Nat,k≤ni∧i= .int .i64 k∧Hp w0 wr K (.box gu [.int .i64 kind,.string (str text),.bool block,.slice Bi ni bi,.slice Bf nf bf,.int .i64 line,.int .i64 col] 121:: .box gv [.int .i64 kind,.string (str text),.bool block,.slice Ai ni ci,.slice Af nf cf,.int .i64 line,.int .i64 col] 121::M)) (fun i _=>ni - (intOf i).toNat)
  case atStart=>exact ⟨0,Qak _,rfl,H⟩
  case round=>
   clear H;obtain ⟨k,hk,rfl,H⟩:=hrel;by_cases hlt:k<ni
   ·obtain ⟨x,ad,us,hx,rfl,hxl,hat⟩:=el_k y6w hi (by rw [HNI.out];exact hlt) (by decide);obtain ⟨y,bd,vs,hy,rfl,hyl,hbt⟩:=el_k y6w gi (by rw [HNJ.out];exact hlt) (by decide);obtain ⟨hkI,hwr⟩:=wr_k hlt hni;have hxn:=HI.out x (Qaf hx);have hxy:=hide (HE5.out k x y hx hy);obtain ⟨dk,dt,db,di,df,dln,dcl⟩:=x;obtain ⟨Xi,xi,Xf,xf,rfl,-,-⟩:=y0l hxl;obtain ⟨dk',dt',db',di',df',dln',dcl'⟩:=y;obtain ⟨Yi,yi,Yf,yf,rfl,-,-⟩:=y0l hyl;have hc:=fun {w M} (h:Hp w0 w K M)=>HIH.out _ _ #[_,_,_,_,_,_,_] #[_,_,_,_,_,_,_] w0 w K M hxn (by omega) hxy.out hxl hyl h;clear hx hy
    go_wp2_with (refine oL H ?_)
    refine rB [] H ?_;clear H;intro w H;refine rT 0 H ?_;refine rT 1 H ?_;refine rT 2 H ?_;refine rT 3 H ?_;refine rT 4 H ?_;refine rT 5 H ?_;refine rT 6 H ?_;refine rT 7 H ?_;refine rT 8 H ?_;refine rT 9 H ?_;refine rT 10 H ?_;refine rC 11 (hc H) ?_;clear H;rintro e w ⟨rfl,H⟩;refine rX H ?_;refine rT 12 H ?_;refine rE ?_
    go_wp2_with (first|(refine oL H ?_)|(refine oP H ?_;clear H;intro w _ H))
    go_roundw
    case rel=>exact ⟨k+1,by omega,by go_num,H⟩
    case measure=>simp [intOf];omega
   ·obtain rfl:ni=k:=by omega
    clear hlt
    go_wp2_with (refine oL H ?_)
    go_loopw [9] (fun i wr=>∃k:Nat,k≤nf∧i= .int .i64 k∧Hp w0 wr K (.box gu [.int .i64 kind,.string (str text),.bool block,.slice Bi ni bi,.slice Bf nf bf,.int .i64 line,.int .i64 col] 121:: .box gv [.int .i64 kind,.string (str text),.bool block,.slice Ai ni ci,.slice Af nf cf,.int .i64 line,.int .i64 col] 121::M)) (fun i _=>nf - (intOf i).toNat)
    case atStart=>exact ⟨0,Qak _,rfl,H⟩
    case round=>
     clear H;obtain ⟨k,hk,rfl,H⟩:=hrel;by_cases hlt:k<nf
     ·obtain ⟨x,ad,us,hx,rfl,hxl,hat⟩:=el_k y4k hf (by rw [HNF.out];exact hlt) (by decide);obtain ⟨y,bd,vs,hy,rfl,hyl,hbt⟩:=el_k y4k gf (by rw [HNG.out];exact hlt) (by decide);obtain ⟨hkI,hwr⟩:=wr_k hlt hnf;have hxn:=HF.out x (Qaf hx);have hxy:=HE6.out k x y hx hy;obtain ⟨pn,⟨dk,dt,db,di,df,dln,dcl⟩,pl,pc⟩:=x;obtain ⟨qn,⟨dk',dt',db',di',df',dln',dcl'⟩,ql,qc⟩:=y;simp only [eqPair,Qao,Qa7] at hxy;obtain ⟨⟨rfl,hxy⟩,hpos⟩:=hxy;simp only [Bool.not_true,Bool.false_or,Qao,Qa7] at hpos;obtain ⟨rfl,rfl⟩:=hpos;have hxy:=hide hxy;obtain ⟨ls,rfl,hvl⟩:=y2n hxl;obtain ⟨Xi,xi,Xf,xf,rfl,-,-⟩:=y0l hvl;obtain ⟨ls,rfl,hul⟩:=y2n hyl;obtain ⟨Yi,yi,Yf,yf,rfl,-,-⟩:=y0l hul;simp only [pairN] at hxn;have hc:=fun {w M} (h:Hp w0 w K M)=>HIH.out _ _ #[_,_,_,_,_,_,_] #[_,_,_,_,_,_,_] w0 w K M (by omega) (by omega) hxy.out hvl hul h;simp only [List.cons_append,List.nil_append] at hat hbt;clear hx hy
      go_wp2_with (refine oL H ?_)
      refine rB [] H ?_;clear H;intro w H;refine rT 0 H ?_;refine rT 1 H ?_;refine rT 2 H ?_;refine rT 3 H ?_;refine rT 4 H ?_;refine rT 5 H ?_ (hd:=datA);refine rT 6 H ?_;refine rT 7 H ?_;refine rT 8 H ?_;refine rT 9 H ?_;refine rT 10 H ?_;refine rT 11 H ?_ (hd:=datA);refine rT 12 H ?_;refine rC 13 (hc H) ?_;clear H;rintro e w ⟨rfl,H⟩;refine rX H ?_;refine rT 14 H ?_;refine rE ?_
      go_wp2_with fail
      refine rB [] H ?_;clear H;intro w H;refine rT 0 H ?_;refine rT 1 H ?_;refine rT 2 H ?_;refine rT 3 H ?_;refine rT 4 H ?_;refine rT 5 H ?_;refine rT 6 H ?_;refine rT 7 H ?_;refine rT 8 H ?_;refine rT 9 H ?_;refine rT 10 H ?_;refine rT 11 H ?_;refine rT 12 H ?_;refine rT 13 H ?_;refine rT 14 H ?_;refine rT 15 H ?_;refine rT 16 H ?_;refine rT 17 H ?_;refine rT 18 H ?_;refine rT 19 H ?_;refine rT 20 H ?_;refine rT 21 H ?_;refine rT 22 H ?_;refine rT 23 H ?_;refine rT 24 H ?_;refine rT 25 H ?_ (hd:=datA);refine rT 26 H ?_;refine rT 27 H ?_;refine rT 28 H ?_;refine rT 29 H ?_;refine rT 30 H ?_;refine rT 31 H ?_ (hd:=datA);refine rT 32 H ?_;refine rT 33 H ?_;refine rT 34 H ?_;refine rE ?_
      go_wp2_with fail
      go_roundw
      case rel=>exact ⟨k+1,by omega,by go_num,H⟩
      case measure=>simp [intOf];omega
     ·obtain rfl:nf=k:=by omega
      go_wp2_with (refine oL H ?_)
      go_ret;exact ⟨rfl,H.fin⟩
end
def y07 {α:Type} (f:α→α→Bool):List α→List α→Bool
 |[],[]=>true
 |d::r,e::s=>f d e&&y07 f r s
 |_,_=>false
theorem y5s {α:Type} {f:α→α→Bool}: ∀{l m:List α},y07 f l m=true→l.length=m.length∧ ∀{k:Nat} {x y:α},l[k]?=some x→m[k]?=some y→f x y=true
 |[],[],_=>⟨rfl,fun h=>by simp at h⟩
 |d::r,e::s,h=>by
  simp only [y07,Qao] at h;obtain ⟨h1,h2⟩:=y5s h.2;refine ⟨by simp [h1],fun {k x y} hx hy=>?_⟩
  cases k with
  |zero=>simp only [List.getElem?_cons_zero,Option.some.injEq] at hx hy;subst hx hy;exact h.1
  |succ k=>exact h2 (k:=k) (by simpa using hx) (by simpa using hy)
 |[],_::_,h=>by simp [y07] at h
 |_::_,[],h=>by simp [y07] at h
def z36 (p:Bool) (d e:DirD):Bool:=d.name==e.name&&(!p||d.line==e.line&&d.col==e.col)&&eqPairs p d.args e.args
section
variable {w0 w K : World} {M : List Ent}
theorem z37 (p:Bool) {l m:List PairD} {A B:Option Addr} {c b:Nat} (hn:pairsN l≤9000000) (heq:eqPairs p l m=true) (hd:RD K (.list l.length (pairsL l)) (.slice A l.length c)) (he:RD K (.list m.length (pairsL m)) (.slice B m.length b)) (H:Hp w0 w K M):
  Calls Tryz.prog 154 #[.slice A l.length c,.slice B m.length b,.bool p] w fun e w'=>e= .returned (.bool true)∧Hp w0 w' K M:=by
 obtain ⟨e6,E6⟩:=z1i heq
 have hnf:l.length≤9000000:=by have:=y72 l;omega
 have HF:=hide (show ∀x∈l,pairN x≤9000000 from fun x hx=>by obtain ⟨k,hk⟩:=Qaq hx;have:=z0i hk;omega);have HE6:=hide (show ∀(k:Nat) (x y:PairD),l[k]?=some x→m[k]?=some y→eqPair p x y=true from fun k x y=>E6);rw [y4l] at hd he;rw [←e6] at he ⊢;obtain ⟨nf,hnf2⟩: ∃x,l.length=x:=⟨_,rfl⟩;rw [hnf2] at hd he hnf e6 ⊢;have HNF:=hide hnf2;have HNG:=hide e6.symm;clear hnf2 e6 E6 heq hn;go_enter Tryz.func154,Tryz.ntmps154
 go_wp2_with fail
 go_loopw [7] (fun i wr=>∃k:Nat,k≤nf∧i= .int .i64 k∧Hp w0 wr K M) (fun i _=>nf - (intOf i).toNat)
 case atStart=>exact ⟨0,Qak _,rfl,H⟩
 case round=>
  clear H;obtain ⟨k,hk,rfl,H⟩:=hrel;by_cases hlt:k<nf
  ·obtain ⟨x,ad,us,hx,rfl,hxl,hat⟩:=el_k y4k hd (by rw [HNF.out];exact hlt) (by decide);obtain ⟨y,bd,vs,hy,rfl,hyl,hbt⟩:=el_k y4k he (by rw [HNG.out];exact hlt) (by decide);obtain ⟨hkI,hwr⟩:=wr_k hlt hnf;have hxn:=HF.out x (Qaf hx);have hxy:=HE6.out k x y hx hy;obtain ⟨pn,⟨dk,dt,db,di,df,dln,dcl⟩,pl,pc⟩:=x;obtain ⟨qn,⟨dk',dt',db',di',df',dln',dcl'⟩,ql,qc⟩:=y;simp only [eqPair,Qao,Qa7] at hxy
   cases p with
   |false=>
    obtain ⟨⟨rfl,hxy⟩,hpos⟩:=hxy;clear hpos;have hxy:=hide hxy;obtain ⟨ls,rfl,hvl⟩:=y2n hxl;obtain ⟨Xi,xi,Xf,xf,rfl,-,-⟩:=y0l hvl;obtain ⟨ls,rfl,hul⟩:=y2n hyl;obtain ⟨Yi,yi,Yf,yf,rfl,-,-⟩:=y0l hul;simp only [pairN] at hxn;have hc:=fun {w M} (h:Hp w0 w K M)=>y8o _ 9000000 _ _ #[_,_,_,_,_,_,_] #[_,_,_,_,_,_,_] w0 w K M (by omega) (Qab _) hxy.out hvl hul h;simp only [List.cons_append,List.nil_append] at hat hbt;clear hx hy
    go_wp2_with fail
    refine rB [] H ?_;clear H;intro w H;refine rT 0 H ?_;refine rT 1 H ?_;refine rT 2 H ?_;refine rT 3 H ?_;refine rT 4 H ?_ (hd:=datA);refine rT 5 H ?_;refine rT 6 H ?_;refine rT 7 H ?_;refine rT 8 H ?_;refine rT 9 H ?_ (hd:=datA);refine rT 10 H ?_;refine rC 11 (hc H) ?_;clear H;rintro e w ⟨rfl,H⟩;refine rX H ?_;refine rT 12 H ?_;refine rE ?_
    go_wp2_with fail
    refine rB [] H ?_;clear H;intro w H;refine rT 0 H ?_;refine rT 1 H ?_;refine rT 2 H ?_;refine rT 3 H ?_;refine rT 4 H ?_;refine rT 5 H ?_;refine rT 6 H ?_;refine rT 7 H ?_;refine rT 8 H ?_;refine rT 9 H ?_;refine rT 10 H ?_;refine rT 11 H ?_;refine rT 12 H ?_;refine rT 13 H ?_;refine rT 14 H ?_;refine rT 15 H ?_;refine rT 16 H ?_;refine rT 17 H ?_;refine rU 18 H ?_;refine rU 19 H ?_;refine rU 20 H ?_;refine rU 21 H ?_;refine rU 22 H ?_;refine rU 23 H ?_;refine rU 24 H ?_;refine rU 25 H ?_;refine rU 26 H ?_;refine rU 27 H ?_;refine rU 28 H ?_;refine rT 29 H ?_;refine rT 30 H ?_;refine rE ?_
    go_wp2_with fail
    go_roundw
    case rel=>exact ⟨k+1,by omega,by go_num,H⟩
    case measure=>simp [intOf];omega
   |true=>
    obtain ⟨⟨rfl,hxy⟩,hpos⟩:=hxy;simp only [Bool.not_true,Bool.false_or,Qao,Qa7] at hpos;obtain ⟨rfl,rfl⟩:=hpos;have hxy:=hide hxy;obtain ⟨ls,rfl,hvl⟩:=y2n hxl;obtain ⟨Xi,xi,Xf,xf,rfl,-,-⟩:=y0l hvl;obtain ⟨ls,rfl,hul⟩:=y2n hyl;obtain ⟨Yi,yi,Yf,yf,rfl,-,-⟩:=y0l hul;simp only [pairN] at hxn;have hc:=fun {w M} (h:Hp w0 w K M)=>y8o _ 9000000 _ _ #[_,_,_,_,_,_,_] #[_,_,_,_,_,_,_] w0 w K M (by omega) (Qab _) hxy.out hvl hul h;simp only [List.cons_append,List.nil_append] at hat hbt;clear hx hy
    go_wp2_with fail
    refine rB [] H ?_;clear H;intro w H;refine rT 0 H ?_;refine rT 1 H ?_;refine rT 2 H ?_;refine rT 3 H ?_;refine rT 4 H ?_ (hd:=datA);refine rT 5 H ?_;refine rT 6 H ?_;refine rT 7 H ?_;refine rT 8 H ?_;refine rT 9 H ?_ (hd:=datA);refine rT 10 H ?_;refine rC 11 (hc H) ?_;clear H;rintro e w ⟨rfl,H⟩;refine rX H ?_;refine rT 12 H ?_;refine rE ?_
    go_wp2_with fail
    refine rB [] H ?_;clear H;intro w H;refine rT 0 H ?_;refine rT 1 H ?_;refine rT 2 H ?_;refine rT 3 H ?_;refine rT 4 H ?_;refine rT 5 H ?_;refine rT 6 H ?_;refine rT 7 H ?_;refine rT 8 H ?_;refine rT 9 H ?_;refine rT 10 H ?_;refine rT 11 H ?_;refine rT 12 H ?_;refine rT 13 H ?_;refine rT 14 H ?_;refine rT 15 H ?_;refine rT 16 H ?_;refine rT 17 H ?_;refine rT 18 H ?_;refine rT 19 H ?_;refine rT 20 H ?_;refine rT 21 H ?_;refine rT 22 H ?_ (hd:=datA);refine rT 23 H ?_;refine rT 24 H ?_;refine rT 25 H ?_;refine rT 26 H ?_;refine rT 27 H ?_ (hd:=datA);refine rT 28 H ?_;refine rT 29 H ?_;refine rT 30 H ?_;refine rE ?_
    go_wp2_with fail
    go_roundw
    case rel=>exact ⟨k+1,by omega,by go_num,H⟩
    case measure=>simp [intOf];omega
  ·obtain rfl:nf=k:=by omega
   go_wp2_with fail
   go_ret;exact ⟨rfl,H⟩
theorem y3e (p:Bool) {l m:List DirD} {A B:Option Addr} {c b:Nat} (hn:sumN dirN l≤9000000) (heq:y07 (z36 p) l m=true) (hd:RD K (.list l.length (y24 l)) (.slice A l.length c)) (he:RD K (.list m.length (y24 m)) (.slice B m.length b)) (H:Hp w0 w K M):
  Calls Tryz.prog 116 #[.slice A l.length c,.slice B m.length b,.bool p] w fun e w'=>e= .returned (.bool true)∧Hp w0 w' K M:=by
 obtain ⟨e6,E6⟩:=y5s heq;have hnf:=Qah (y0w y63 l) hn;have HF:=hide (show ∀x∈l,dirN x≤9000000 from fun x hx=>by obtain ⟨k,hk⟩:=Qaq hx;have:=y6d (f:=dirN) hk;omega);have HE6:=hide (show ∀(k:Nat) (x y:DirD),l[k]?=some x→m[k]?=some y→z36 p x y=true from fun k x y=>E6);rw [←e6] at he ⊢;obtain ⟨nf,hnf2⟩: ∃x,l.length=x:=⟨_,rfl⟩;rw [hnf2] at hd he hnf e6 ⊢;have HNF:=hide hnf2;have HNG:=hide e6.symm;clear hnf2 e6 E6 heq hn;go_enter Tryz.func116,Tryz.ntmps116
 go_wp2_with fail
 go_loopw [7] (fun i wr=>∃k:Nat,k≤nf∧i= .int .i64 k∧Hp w0 wr K M) (fun i _=>nf - (intOf i).toNat)
 case atStart=>exact ⟨0,Qak _,rfl,H⟩
 case round=>
  clear H;obtain ⟨k,hk,rfl,H⟩:=hrel;by_cases hlt:k<nf
  ·obtain ⟨x,ad,us,hx,rfl,hxl,hat⟩:=el_k (m:=4) (f:=dirL) (fun _=>rfl) hd (by rw [HNF.out];exact hlt) (by decide);obtain ⟨y,bd,vs,hy,rfl,hyl,hbt⟩:=el_k (m:=4) (f:=dirL) (fun _=>rfl) he (by rw [HNG.out];exact hlt) (by decide);obtain ⟨hkI,hwr⟩:=wr_k hlt hnf;have hxn:=HF.out x (Qaf hx);have hxy:=HE6.out k x y hx hy;obtain ⟨pn,pas,pl,pc⟩:=x;obtain ⟨qn,qas,ql,qc⟩:=y;simp only [z36,Qao,Qa7] at hxy
   cases p with
   |false=>
    obtain ⟨⟨rfl,hpos⟩,hxy⟩:=hxy;clear hpos;have hxy:=hide hxy;obtain ⟨Aa,ca,rfl,ha⟩:=y71 hxl;obtain ⟨Ab,cb,rfl,hb⟩:=y71 hyl;simp only [dirN] at hxn;dsimp only at ha hb hat hbt;have hc:=fun {w M} (h:Hp w0 w K M)=>z37 _ (by omega) hxy.out ha hb h;clear hx hy
    go_wp2_with fail
    refine rB [] H ?_;clear H;intro w H;refine rT 0 H ?_;refine rT 1 H ?_;refine rT 2 H ?_;refine rT 3 H ?_;refine rT 4 H ?_;refine rT 5 H ?_;refine rT 6 H ?_;refine rT 7 H ?_;refine rT 8 H ?_;refine rT 9 H ?_;refine rT 10 H ?_;refine rC 11 (hc H) ?_;clear H;rintro e w ⟨rfl,H⟩;refine rX H ?_;refine rT 12 H ?_;refine rE ?_
    go_wp2_with fail
    refine rB [] H ?_;clear H;intro w H;refine rT 0 H ?_;refine rT 1 H ?_;refine rT 2 H ?_;refine rT 3 H ?_;refine rT 4 H ?_;refine rT 5 H ?_;refine rT 6 H ?_;refine rT 7 H ?_;refine rT 8 H ?_;refine rT 9 H ?_;refine rT 10 H ?_;refine rT 11 H ?_;refine rT 12 H ?_;refine rT 13 H ?_;refine rT 14 H ?_;refine rT 15 H ?_;refine rT 16 H ?_;refine rT 17 H ?_;refine rU 18 H ?_;refine rU 19 H ?_;refine rU 20 H ?_;refine rU 21 H ?_;refine rU 22 H ?_;refine rU 23 H ?_;refine rU 24 H ?_;refine rU 25 H ?_;refine rU 26 H ?_;refine rU 27 H ?_;refine rU 28 H ?_;refine rT 29 H ?_;refine rT 30 H ?_;refine rE ?_
    go_wp2_with fail
    go_roundw
    case rel=>exact ⟨k+1,by omega,by go_num,H⟩
    case measure=>simp [intOf];omega
   |true=>
    obtain ⟨⟨rfl,hpos⟩,hxy⟩:=hxy;simp only [Bool.not_true,Bool.false_or,Qao,Qa7] at hpos;obtain ⟨rfl,rfl⟩:=hpos;have hxy:=hide hxy;obtain ⟨Aa,ca,rfl,ha⟩:=y71 hxl;obtain ⟨Ab,cb,rfl,hb⟩:=y71 hyl;simp only [dirN] at hxn;dsimp only at ha hb hat hbt;have hc:=fun {w M} (h:Hp w0 w K M)=>z37 _ (by omega) hxy.out ha hb h;clear hx hy
    go_wp2_with fail
    refine rB [] H ?_;clear H;intro w H;refine rT 0 H ?_;refine rT 1 H ?_;refine rT 2 H ?_;refine rT 3 H ?_;refine rT 4 H ?_;refine rT 5 H ?_;refine rT 6 H ?_;refine rT 7 H ?_;refine rT 8 H ?_;refine rT 9 H ?_;refine rT 10 H ?_;refine rC 11 (hc H) ?_;clear H;rintro e w ⟨rfl,H⟩;refine rX H ?_;refine rT 12 H ?_;refine rE ?_
    go_wp2_with fail
    refine rB [] H ?_;clear H;intro w H;refine rT 0 H ?_;refine rT 1 H ?_;refine rT 2 H ?_;refine rT 3 H ?_;refine rT 4 H ?_;refine rT 5 H ?_;refine rT 6 H ?_;refine rT 7 H ?_;refine rT 8 H ?_;refine rT 9 H ?_;refine rT 10 H ?_;refine rT 11 H ?_;refine rT 12 H ?_;refine rT 13 H ?_;refine rT 14 H ?_;refine rT 15 H ?_;refine rT 16 H ?_;refine rT 17 H ?_;refine rT 18 H ?_;refine rT 19 H ?_;refine rT 20 H ?_;refine rT 21 H ?_;refine rT 22 H ?_ (hd:=datA);refine rT 23 H ?_;refine rT 24 H ?_;refine rT 25 H ?_;refine rT 26 H ?_;refine rT 27 H ?_ (hd:=datA);refine rT 28 H ?_;refine rT 29 H ?_;refine rT 30 H ?_;refine rE ?_
    go_wp2_with fail
    go_roundw
    case rel=>exact ⟨k+1,by omega,by go_num,H⟩
    case measure=>simp [intOf];omega
  ·obtain rfl:nf=k:=by omega
   go_wp2_with fail
   go_ret;exact ⟨rfl,H⟩
end
section
variable {P : Program} {w0 w K K' : World} {M N : List Ent} {ops : Array Oper} {Q : Exit → Act → World → Prop} {F : List Nat} {fuel : Nat} {listed : Array Bool} {a a' : Act} {oi : Oper} {o : Oper} {v : Value}
theorem datB {ty:TypeId} {x:Operand} {n:Nat} {p:Addr} {cs us:List Value} (ho:o.op= .load ty x:=by rfl) (hs:Rw P ty n:=by infer_instance) (hx:a.eval x= .pointer (some p):=by first|exact (rfl:_=Value.pointer _)|(simp [Act.eval,Act.put];done)|fail)
  (hc:At K p cs:=by assumption) (hn:cs.take n=us:=by (simp only [List.take_succ_cons,List.take_zero,List.take_nil];try rfl)) (hl:us.length=n:=by rfl):z1g P o a K M (.agg us.toArray):=fun w0 w H=>by
 obtain ⟨d,hu,hd⟩:=hs.u;have hsz:=hs.s;rw [←hl] at hsz
 have hat:At w p us:=⟨fun u hu=>(At.sat hc H.sat).1 u (by
  rw [←hn,Qbb] at hu;split at hu
  ·exact hu
  ·cases hu),fun i u hu=>(At.sat hc H.sat).2 i u (by
  rw [←hn,Qbb] at hu;split at hu
  ·exact hu
  ·cases hu)⟩
 unfold execOp;simp only [ho,hx,Instr.loadAt,Instr.sureAddr,Sem.run_bind,Sem.run_pure,Result.andThen_ok,y4d w _ ty us d hat hu hd hsz]
theorem rD (i:Nat) {f:FuncId} {xs:Array Value} {R:Ending→World→Prop} (hC:Calls P f xs w R) (h: ∀e w',R e w'→ ∃v a',e= .returned v∧a.put oi.dst v=a'∧Ov w0 K M w'∧AnyL P .any ops Q (Ov w0 K M) F fuel (listed.setIfInBounds i true) a' w') (hr:Region.ready .any ops listed=[i]:=by kernel_rfl)
  (hi:ops[i]?=some oi:=by (simp only [List.getElem?_toArray,List.getElem?_cons_zero,List.getElem?_cons_succ];try rfl)) (hrun:(execOp a.eval oi).run P w= .ok (.enter f xs) w:=by (go_simp;try with_reducible rfl)) (hw:Region.wanted oi (yielded ops a.tmps)=true:=by rfl):AnyL P .any ops Q (Ov w0 K M) F (fuel+1) listed a w:=
 held.step hr hi fun Kq hKq=>by
  rw [if_pos hw];unfold Oper.wp;rw [hrun,Oper.upon_enter];refine hC.mono fun e w' hR=>?_;obtain ⟨v,a',rfl,ha,hS,hW⟩:=h e w' hR;exact hKq.out _ _ (fun _=>hS) (fun _=>by rw [ha];exact hW)
end
def y3r (p:Bool) (d e:NamedD):Bool:=d.name==e.name&&(!p||d.line==e.line&&d.col==e.col)
section
variable {w0 w K : World} {M : List Ent}
theorem y76 (p:Bool) {l m:List NamedD} {A B:Option Addr} {c b:Nat} (hn:l.length≤9000000) (heq:y07 (y3r p) l m=true) (hd:RD K (.list l.length (l.flatMap y87)) (.slice A l.length c)) (he:RD K (.list m.length (m.flatMap y87)) (.slice B m.length b)) (H:Hp w0 w K M):
  Calls Tryz.prog 111 #[.slice A l.length c,.slice B m.length b,.bool p] w fun e w'=>e= .returned (.bool true)∧Hp w0 w' K M:=by
 obtain ⟨e6,E6⟩:=y5s heq;have hnf:=hn;have HE6:=hide (show ∀(k:Nat) (x y:NamedD),l[k]?=some x→m[k]?=some y→(y3r p) x y=true from fun k x y=>E6);rw [←e6] at he ⊢;obtain ⟨nf,hnf2⟩: ∃x,l.length=x:=⟨_,rfl⟩;rw [hnf2] at hd he hnf e6 ⊢;have HNF:=hide hnf2;have HNG:=hide e6.symm;clear hnf2 e6 E6 heq hn;go_enter Tryz.func111,Tryz.ntmps111
 go_wp2_with fail
 go_loopw [7] (fun i wr=>∃k:Nat,k≤nf∧i= .int .i64 k∧Hp w0 wr K M) (fun i _=>nf - (intOf i).toNat)
 case atStart=>exact ⟨0,Qak _,rfl,H⟩
 case round=>
  clear H;obtain ⟨k,hk,rfl,H⟩:=hrel;by_cases hlt:k<nf
  ·obtain ⟨x,ad,us,hx,rfl,hxl,hat⟩:=el_k (m:=3) (f:=y87) (fun _=>rfl) hd (by rw [HNF.out];exact hlt) (by decide);obtain ⟨y,bd,vs,hy,rfl,hyl,hbt⟩:=el_k (m:=3) (f:=y87) (fun _=>rfl) he (by rw [HNG.out];exact hlt) (by decide);obtain ⟨hkI,hwr⟩:=wr_k hlt hnf;have hxy:=HE6.out k x y hx hy
   cases p with
   |false=>
    obtain ⟨xn,xl,xc⟩:=x;obtain ⟨yn,yl,yc⟩:=y;simp only [y3r,Qao,Qa7] at hxy;obtain ⟨rfl,hpos⟩:=hxy;clear hpos;obtain ⟨r0,rfl,h0⟩:=hxl.lit_inv;obtain ⟨r1,rfl,h1⟩:=h0.lit_inv;obtain ⟨r2,rfl,h2⟩:=h1.lit_inv;obtain rfl:=h2.nil_inv;obtain ⟨s0,rfl,k0⟩:=hyl.lit_inv;obtain ⟨s1,rfl,k1⟩:=k0.lit_inv;obtain ⟨s2,rfl,k2⟩:=k1.lit_inv;obtain rfl:=k2.nil_inv;clear hx hy
    go_wp2_with fail
    refine rB [] H ?_;clear H;intro w H;refine rT 0 H ?_;refine rT 1 H ?_;refine rT 2 H ?_;refine rT 3 H ?_;refine rT 4 H ?_;refine rT 5 H ?_;refine rT 6 H ?_;refine rT 7 H ?_;refine rT 8 H ?_;refine rT 9 H ?_;refine rT 10 H ?_;refine rT 11 H ?_;refine rT 12 H ?_;refine rT 13 H ?_;refine rU 14 H ?_;refine rU 15 H ?_;refine rU 16 H ?_;refine rU 17 H ?_;refine rU 18 H ?_;refine rU 19 H ?_;refine rU 20 H ?_;refine rU 21 H ?_;refine rU 22 H ?_;refine rU 23 H ?_;refine rU 24 H ?_;refine rT 25 H ?_;refine rT 26 H ?_;refine rE ?_
    go_wp2_with fail
    go_roundw
    case rel=>exact ⟨k+1,by omega,by go_num,H⟩
    case measure=>simp [intOf];omega
   |true=>
    obtain ⟨xn,xl,xc⟩:=x;obtain ⟨yn,yl,yc⟩:=y;simp only [y3r,Qao,Qa7] at hxy;obtain ⟨rfl,hpos⟩:=hxy;simp only [Bool.not_true,Bool.false_or,Qao,Qa7] at hpos;obtain ⟨rfl,rfl⟩:=hpos;obtain ⟨r0,rfl,h0⟩:=hxl.lit_inv;obtain ⟨r1,rfl,h1⟩:=h0.lit_inv;obtain ⟨r2,rfl,h2⟩:=h1.lit_inv;obtain rfl:=h2.nil_inv;obtain ⟨s0,rfl,k0⟩:=hyl.lit_inv;obtain ⟨s1,rfl,k1⟩:=k0.lit_inv;obtain ⟨s2,rfl,k2⟩:=k1.lit_inv;obtain rfl:=k2.nil_inv;clear hx hy
    go_wp2_with fail
    refine rB [] H ?_;clear H;intro w H;refine rT 0 H ?_;refine rT 1 H ?_;refine rT 2 H ?_;refine rT 3 H ?_;refine rT 4 H ?_;refine rT 5 H ?_;refine rT 6 H ?_;refine rT 7 H ?_;refine rT 8 H ?_;refine rT 9 H ?_;refine rT 10 H ?_;refine rT 11 H ?_;refine rT 12 H ?_;refine rT 13 H ?_;refine rT 14 H ?_;refine rT 15 H ?_;refine rT 16 H ?_;refine rT 17 H ?_;refine rT 18 H ?_ (hd:=datA);refine rT 19 H ?_;refine rT 20 H ?_;refine rT 21 H ?_;refine rT 22 H ?_;refine rT 23 H ?_ (hd:=datA);refine rT 24 H ?_;refine rT 25 H ?_;refine rT 26 H ?_;refine rE ?_
    go_wp2_with fail
    go_roundw
    case rel=>exact ⟨k+1,by omega,by go_num,H⟩
    case measure=>simp [intOf];omega
  ·obtain rfl:nf=k:=by omega
   go_wp2_with fail
   go_ret;exact ⟨rfl,H⟩
end
instance:Sc Tryz.prog 30:=⟨⟨_,Tryz.underlying30,rfl⟩⟩
def z0n (p:Bool) (d e:RootD):Bool:=d.op==e.op&&d.type==e.type&&(!p||d.line==e.line&&d.col==e.col)
section
variable {w0 w K : World} {M : List Ent}
theorem z9b (p:Bool) {l m:List RootD} {A B:Option Addr} {c b:Nat} (hn:l.length≤9000000) (heq:y07 (z0n p) l m=true) (hd:RD K (.list l.length (l.flatMap z2k)) (.slice A l.length c)) (he:RD K (.list m.length (m.flatMap z2k)) (.slice B m.length b)) (H:Hp w0 w K M):
  Calls Tryz.prog 115 #[.slice A l.length c,.slice B m.length b,.bool p] w fun e w'=>e= .returned (.bool true)∧Hp w0 w' K M:=by
 obtain ⟨e6,E6⟩:=y5s heq;have hnf:=hn;have HE6:=hide (show ∀(k:Nat) (x y:RootD),l[k]?=some x→m[k]?=some y→(z0n p) x y=true from fun k x y=>E6);rw [←e6] at he ⊢;obtain ⟨nf,hnf2⟩: ∃x,l.length=x:=⟨_,rfl⟩;rw [hnf2] at hd he hnf e6 ⊢;have HNF:=hide hnf2;have HNG:=hide e6.symm;clear hnf2 e6 E6 heq hn;go_enter Tryz.func115,Tryz.ntmps115
 go_wp2_with fail
 go_loopw [7] (fun i wr=>∃k:Nat,k≤nf∧i= .int .i64 k∧Hp w0 wr K M) (fun i _=>nf - (intOf i).toNat)
 case atStart=>exact ⟨0,Qak _,rfl,H⟩
 case round=>
  clear H;obtain ⟨k,hk,rfl,H⟩:=hrel;by_cases hlt:k<nf
  ·obtain ⟨x,ad,us,hx,rfl,hxl,hat⟩:=el_k (m:=4) (f:=z2k) (fun _=>rfl) hd (by rw [HNF.out];exact hlt) (by decide);obtain ⟨y,bd,vs,hy,rfl,hyl,hbt⟩:=el_k (m:=4) (f:=z2k) (fun _=>rfl) he (by rw [HNG.out];exact hlt) (by decide);obtain ⟨hkI,hwr⟩:=wr_k hlt hnf;have hxy:=HE6.out k x y hx hy
   cases p with
   |false=>
    obtain ⟨xo,xt,xl,xc⟩:=x;obtain ⟨yo,yt,yl,yc⟩:=y;simp only [z0n,Qao,Qa7] at hxy;obtain ⟨⟨rfl,rfl⟩,hpos⟩:=hxy;clear hpos;obtain ⟨r0,rfl,h0⟩:=hxl.lit_inv;obtain ⟨r1,rfl,h1⟩:=h0.lit_inv;obtain ⟨r2,rfl,h2⟩:=h1.lit_inv;obtain ⟨r3,rfl,h3⟩:=h2.lit_inv;obtain rfl:=h3.nil_inv;obtain ⟨s0,rfl,k0⟩:=hyl.lit_inv;obtain ⟨s1,rfl,k1⟩:=k0.lit_inv;obtain ⟨s2,rfl,k2⟩:=k1.lit_inv;obtain ⟨s3,rfl,k3⟩:=k2.lit_inv;obtain rfl:=k3.nil_inv;clear hx hy
    go_wp2_with fail
    refine rB [] H ?_;clear H;intro w H;refine rT 0 H ?_;refine rT 1 H ?_;refine rT 2 H ?_;refine rT 3 H ?_;refine rT 4 H ?_;refine rT 5 H ?_;refine rT 6 H ?_;refine rT 7 H ?_;refine rT 8 H ?_;refine rT 9 H ?_;refine rT 10 H ?_;refine rT 11 H ?_;refine rT 12 H ?_;refine rT 13 H ?_;refine rT 14 H ?_;refine rT 15 H ?_;refine rT 16 H ?_;refine rT 17 H ?_;refine rT 18 H ?_;refine rT 19 H ?_;refine rT 20 H ?_;refine rT 21 H ?_;refine rT 22 H ?_;refine rT 23 H ?_;refine rT 24 H ?_;refine rT 25 H ?_;refine rT 26 H ?_;refine rU 27 H ?_;refine rU 28 H ?_;refine rU 29 H ?_;refine rU 30 H ?_;refine rU 31 H ?_;refine rU 32 H ?_;refine rU 33 H ?_;refine rU 34 H ?_;refine rU 35 H ?_;refine rU 36 H ?_;refine rU 37 H ?_;refine rT 38 H ?_;refine rT 39 H ?_;refine rE ?_
    go_wp2_with fail
    go_roundw
    case rel=>exact ⟨k+1,by omega,by go_num,H⟩
    case measure=>simp [intOf];omega
   |true=>
    obtain ⟨xo,xt,xl,xc⟩:=x;obtain ⟨yo,yt,yl,yc⟩:=y;simp only [z0n,Qao,Qa7] at hxy;obtain ⟨⟨rfl,rfl⟩,hpos⟩:=hxy;simp only [Bool.not_true,Bool.false_or,Qao,Qa7] at hpos;obtain ⟨rfl,rfl⟩:=hpos;obtain ⟨r0,rfl,h0⟩:=hxl.lit_inv;obtain ⟨r1,rfl,h1⟩:=h0.lit_inv;obtain ⟨r2,rfl,h2⟩:=h1.lit_inv;obtain ⟨r3,rfl,h3⟩:=h2.lit_inv;obtain rfl:=h3.nil_inv;obtain ⟨s0,rfl,k0⟩:=hyl.lit_inv;obtain ⟨s1,rfl,k1⟩:=k0.lit_inv;obtain ⟨s2,rfl,k2⟩:=k1.lit_inv;obtain ⟨s3,rfl,k3⟩:=k2.lit_inv;obtain rfl:=k3.nil_inv;clear hx hy
    go_wp2_with fail
    refine rB [] H ?_;clear H;intro w H;refine rT 0 H ?_;refine rT 1 H ?_;refine rT 2 H ?_;refine rT 3 H ?_;refine rT 4 H ?_;refine rT 5 H ?_;refine rT 6 H ?_;refine rT 7 H ?_;refine rT 8 H ?_;refine rT 9 H ?_;refine rT 10 H ?_;refine rT 11 H ?_;refine rT 12 H ?_;refine rT 13 H ?_;refine rT 14 H ?_;refine rT 15 H ?_;refine rT 16 H ?_;refine rT 17 H ?_;refine rT 18 H ?_;refine rT 19 H ?_;refine rT 20 H ?_;refine rT 21 H ?_;refine rT 22 H ?_;refine rT 23 H ?_;refine rT 24 H ?_;refine rT 25 H ?_;refine rT 26 H ?_;refine rT 27 H ?_;refine rT 28 H ?_;refine rT 29 H ?_;refine rT 30 H ?_;refine rT 31 H ?_ (hd:=datA);refine rT 32 H ?_;refine rT 33 H ?_;refine rT 34 H ?_;refine rT 35 H ?_;refine rT 36 H ?_ (hd:=datA);refine rT 37 H ?_;refine rT 38 H ?_;refine rT 39 H ?_;refine rE ?_
    go_wp2_with fail
    go_roundw
    case rel=>exact ⟨k+1,by omega,by go_num,H⟩
    case measure=>simp [intOf];omega
  ·obtain rfl:nf=k:=by omega
   go_wp2_with fail
   go_ret;exact ⟨rfl,H⟩
end
def y4q (d e:NoteD):Bool:=d.has==e.has&&d.block==e.block&&d.text==e.text
theorem z38 (d:NoteD):y4q d d=true:=by simp [y4q]
def y66 (p:Bool) (d e:ValueD):Bool:=y4q d.note e.note&&d.name==e.name&&(!p||d.line==e.line&&d.col==e.col)&&y07 (z36 p) d.dirs e.dirs
section
variable {w0 w K : World} {M : List Ent}
theorem z7d (p:Bool) {l m:List ValueD} {A B:Option Addr} {c b:Nat} (hn:sumN y4o l≤9000000) (heq:y07 (y66 p) l m=true) (hd:RD K (.list l.length (l.flatMap y7z)) (.slice A l.length c)) (he:RD K (.list m.length (m.flatMap y7z)) (.slice B m.length b)) (H:Hp w0 w K M):
  Calls Tryz.prog 114 #[.slice A l.length c,.slice B m.length b,.bool p] w fun e w'=>e= .returned (.bool true)∧Hp w0 w' K M:=by
 obtain ⟨e6,E6⟩:=y5s heq;have hnf:=Qah (y0w y8k l) hn;have HF:=hide (show ∀x∈l,y4o x≤9000000 from fun x hx=>by obtain ⟨k,hk⟩:=Qaq hx;have:=y6d (f:=y4o) hk;omega);have HE6:=hide (show ∀(k:Nat) (x y:ValueD),l[k]?=some x→m[k]?=some y→(y66 p) x y=true from fun k x y=>E6);rw [←e6] at he ⊢;obtain ⟨nf,hnf2⟩: ∃x,l.length=x:=⟨_,rfl⟩;rw [hnf2] at hd he hnf e6 ⊢;have HNF:=hide hnf2;have HNG:=hide e6.symm;clear hnf2 e6 E6 heq hn;go_enter Tryz.func114,Tryz.ntmps114
 go_wp2_with fail
 go_loopw [7] (fun i wr=>∃k:Nat,k≤nf∧i= .int .i64 k∧Hp w0 wr K M) (fun i _=>nf - (intOf i).toNat)
 case atStart=>exact ⟨0,Qak _,rfl,H⟩
 case round=>
  clear H;obtain ⟨k,hk,rfl,H⟩:=hrel;by_cases hlt:k<nf
  ·obtain ⟨x,ad,us,hx,rfl,hxl,hat⟩:=el_k (m:=7) (f:=y7z) (fun _=>rfl) hd (by rw [HNF.out];exact hlt) (by decide);obtain ⟨y,bd,vs,hy,rfl,hyl,hbt⟩:=el_k (m:=7) (f:=y7z) (fun _=>rfl) he (by rw [HNG.out];exact hlt) (by decide);obtain ⟨hkI,hwr⟩:=wr_k hlt hnf;have hxn:=HF.out x (Qaf hx);have hxy:=HE6.out k x y hx hy
   cases p with
   |false=>
    obtain ⟨⟨xh,xb,xt⟩,xn,xd,xl,xc⟩:=x;obtain ⟨⟨yh,yb,yt⟩,yn,yd,yl,yc⟩:=y;simp only [y66,y4q,Qao,Qa7] at hxy;obtain ⟨⟨⟨⟨⟨rfl,rfl⟩,rfl⟩,rfl⟩,hpos⟩,hxy⟩:=hxy;simp only [y4o] at hxn;clear hpos;obtain ⟨hr0,rfl,h0⟩:=hxl.lit_inv;obtain ⟨hr1,rfl,h1⟩:=h0.lit_inv;obtain ⟨hr2,rfl,h2⟩:=h1.lit_inv;obtain ⟨hr3,rfl,h3⟩:=h2.lit_inv;obtain ⟨hA4,hc4,hr4,rfl,hd4,h4⟩:=h3.list_inv;obtain ⟨hr5,rfl,h5⟩:=h4.lit_inv;obtain ⟨hr6,rfl,h6⟩:=h5.lit_inv;obtain rfl:=h6.nil_inv;obtain ⟨kr0,rfl,k0⟩:=hyl.lit_inv;obtain ⟨kr1,rfl,k1⟩:=k0.lit_inv;obtain ⟨kr2,rfl,k2⟩:=k1.lit_inv;obtain ⟨kr3,rfl,k3⟩:=k2.lit_inv;obtain ⟨kA4,kc4,kr4,rfl,kd4,k4⟩:=k3.list_inv;obtain ⟨kr5,rfl,k5⟩:=k4.lit_inv;obtain ⟨kr6,rfl,k6⟩:=k5.lit_inv;obtain rfl:=k6.nil_inv;have hxy:=hide hxy;have hc:=fun {w M} (h:Hp w0 w K M)=>y3e _ (by omega) hxy.out hd4 kd4 h;clear hx hy
    go_wp2_with fail
    refine rB [] H ?_;clear H;intro w H;refine rT 0 H ?_;refine rT 1 H ?_;refine rT 2 H ?_;refine rT 3 H ?_;refine rT 4 H ?_ (hd:=datB);refine rT 5 H ?_;refine rT 6 H ?_;refine rT 7 H ?_;refine rT 8 H ?_;refine rT 9 H ?_ (hd:=datB);refine rT 10 H ?_;refine rT 11 H ?_;refine rT 12 H ?_;refine rT 13 H ?_;refine rT 14 H ?_;refine rT 15 H ?_;refine rT 16 H ?_;refine rT 17 H ?_;refine rT 18 H ?_;refine rT 19 H ?_;refine rT 20 H ?_;refine rT 21 H ?_;refine rT 22 H ?_;refine rT 23 H ?_;refine rT 24 H ?_;refine rT 25 H ?_;refine rT 26 H ?_;refine rU 27 H ?_;refine rU 28 H ?_;refine rU 29 H ?_;refine rU 30 H ?_;refine rU 31 H ?_;refine rU 32 H ?_;refine rU 33 H ?_;refine rU 34 H ?_;refine rU 35 H ?_;refine rU 36 H ?_;refine rU 37 H ?_;refine rT 38 H ?_;refine rT 39 H ?_;refine rE ?_
    go_wp2_with fail
    refine rB [] H ?_;clear H;intro w H;refine rT 0 H ?_;refine rT 1 H ?_;refine rT 2 H ?_;refine rT 3 H ?_;refine rT 4 H ?_;refine rT 5 H ?_;refine rT 6 H ?_;refine rT 7 H ?_;refine rT 8 H ?_;refine rT 9 H ?_;refine rT 10 H ?_;refine rC 11 (hc H) ?_;clear H;rintro e w ⟨rfl,H⟩;refine rX H ?_;refine rT 12 H ?_;refine rE ?_
    go_wp2_with fail
    go_roundw
    case rel=>exact ⟨k+1,by omega,by go_num,H⟩
    case measure=>simp [intOf];omega
   |true=>
    obtain ⟨⟨xh,xb,xt⟩,xn,xd,xl,xc⟩:=x;obtain ⟨⟨yh,yb,yt⟩,yn,yd,yl,yc⟩:=y;simp only [y66,y4q,Qao,Qa7] at hxy;obtain ⟨⟨⟨⟨⟨rfl,rfl⟩,rfl⟩,rfl⟩,hpos⟩,hxy⟩:=hxy;simp only [y4o] at hxn;simp only [Bool.not_true,Bool.false_or,Qao,Qa7] at hpos;obtain ⟨rfl,rfl⟩:=hpos;obtain ⟨hr0,rfl,h0⟩:=hxl.lit_inv;obtain ⟨hr1,rfl,h1⟩:=h0.lit_inv;obtain ⟨hr2,rfl,h2⟩:=h1.lit_inv;obtain ⟨hr3,rfl,h3⟩:=h2.lit_inv;obtain ⟨hA4,hc4,hr4,rfl,hd4,h4⟩:=h3.list_inv;obtain ⟨hr5,rfl,h5⟩:=h4.lit_inv;obtain ⟨hr6,rfl,h6⟩:=h5.lit_inv;obtain rfl:=h6.nil_inv;obtain ⟨kr0,rfl,k0⟩:=hyl.lit_inv;obtain ⟨kr1,rfl,k1⟩:=k0.lit_inv;obtain ⟨kr2,rfl,k2⟩:=k1.lit_inv;obtain ⟨kr3,rfl,k3⟩:=k2.lit_inv;obtain ⟨kA4,kc4,kr4,rfl,kd4,k4⟩:=k3.list_inv;obtain ⟨kr5,rfl,k5⟩:=k4.lit_inv;obtain ⟨kr6,rfl,k6⟩:=k5.lit_inv;obtain rfl:=k6.nil_inv;have hxy:=hide hxy;have hc:=fun {w M} (h:Hp w0 w K M)=>y3e _ (by omega) hxy.out hd4 kd4 h;clear hx hy
    go_wp2_with fail
    refine rB [] H ?_;clear H;intro w H;refine rT 0 H ?_;refine rT 1 H ?_;refine rT 2 H ?_;refine rT 3 H ?_;refine rT 4 H ?_ (hd:=datB);refine rT 5 H ?_;refine rT 6 H ?_;refine rT 7 H ?_;refine rT 8 H ?_;refine rT 9 H ?_ (hd:=datB);refine rT 10 H ?_;refine rT 11 H ?_;refine rT 12 H ?_;refine rT 13 H ?_;refine rT 14 H ?_;refine rT 15 H ?_;refine rT 16 H ?_;refine rT 17 H ?_;refine rT 18 H ?_;refine rT 19 H ?_;refine rT 20 H ?_;refine rT 21 H ?_;refine rT 22 H ?_;refine rT 23 H ?_;refine rT 24 H ?_;refine rT 25 H ?_;refine rT 26 H ?_;refine rT 27 H ?_;refine rT 28 H ?_;refine rT 29 H ?_;refine rT 30 H ?_;refine rT 31 H ?_ (hd:=datA);refine rT 32 H ?_;refine rT 33 H ?_;refine rT 34 H ?_;refine rT 35 H ?_;refine rT 36 H ?_ (hd:=datA);refine rT 37 H ?_;refine rT 38 H ?_;refine rT 39 H ?_;refine rE ?_
    go_wp2_with fail
    refine rB [] H ?_;clear H;intro w H;refine rT 0 H ?_;refine rT 1 H ?_;refine rT 2 H ?_;refine rT 3 H ?_;refine rT 4 H ?_;refine rT 5 H ?_;refine rT 6 H ?_;refine rT 7 H ?_;refine rT 8 H ?_;refine rT 9 H ?_;refine rT 10 H ?_;refine rC 11 (hc H) ?_;clear H;rintro e w ⟨rfl,H⟩;refine rX H ?_;refine rT 12 H ?_;refine rE ?_
    go_wp2_with fail
    go_roundw
    case rel=>exact ⟨k+1,by omega,by go_num,H⟩
    case measure=>simp [intOf];omega
  ·obtain rfl:nf=k:=by omega
   go_wp2_with fail
   go_ret;exact ⟨rfl,H⟩
end
def y4x (p:Bool) (d e:InputD):Bool:=y4q d.note e.note&&d.name==e.name&&d.ty.1==e.ty.1&&d.ty.2==e.ty.2&&d.has==e.has&&(!p||d.line==e.line&&d.col==e.col)&&y5y p d.lit e.lit&&y07 (z36 p) d.dirs e.dirs
section
variable {w0 w K : World} {M : List Ent}
theorem y67 (p:Bool) {l m:List InputD} {A B:Option Addr} {c b:Nat} (hn:sumN y2q l≤9000000) (heq:y07 (y4x p) l m=true) (hd:RD K (.list l.length (l.flatMap y4m)) (.slice A l.length c)) (he:RD K (.list m.length (m.flatMap y4m)) (.slice B m.length b)) (H:Hp w0 w K M):
  Calls Tryz.prog 113 #[.slice A l.length c,.slice B m.length b,.bool p] w fun e w'=>e= .returned (.bool true)∧Hp w0 w' K M:=by
 obtain ⟨e6,E6⟩:=y5s heq;have hnf:=Qah (y0w y5a l) hn;have HF:=hide (show ∀x∈l,y2q x≤9000000 from fun x hx=>by obtain ⟨k,hk⟩:=Qaq hx;have:=y6d (f:=y2q) hk;omega);have HE6:=hide (show ∀(k:Nat) (x y:InputD),l[k]?=some x→m[k]?=some y→(y4x p) x y=true from fun k x y=>E6);rw [←e6] at he ⊢;obtain ⟨nf,hnf2⟩: ∃x,l.length=x:=⟨_,rfl⟩;rw [hnf2] at hd he hnf e6 ⊢;have HNF:=hide hnf2;have HNG:=hide e6.symm;clear hnf2 e6 E6 heq hn;go_enter Tryz.func113,Tryz.ntmps113
 go_wp2_with fail
 go_loopw [7] (fun i wr=>∃k:Nat,k≤nf∧i= .int .i64 k∧Hp w0 wr K M) (fun i _=>nf - (intOf i).toNat)
 case atStart=>exact ⟨0,Qak _,rfl,H⟩
 case round=>
  clear H;obtain ⟨k,hk,rfl,H⟩:=hrel;by_cases hlt:k<nf
  ·obtain ⟨x,ad,us,hx,rfl,hxl,hat⟩:=el_k (m:=17) (f:=y4m) y8i hd (by rw [HNF.out];exact hlt) (by decide);obtain ⟨y,bd,vs,hy,rfl,hyl,hbt⟩:=el_k (m:=17) (f:=y4m) y8i he (by rw [HNG.out];exact hlt) (by decide);obtain ⟨hkI,hwr⟩:=wr_k hlt hnf;have hxn:=HF.out x (Qaf hx);have hxy:=HE6.out k x y hx hy
   cases p with
   |false=>
    obtain ⟨⟨nh,nb,nt⟩,dn,⟨tn,tw⟩,dh,⟨dk,dt,db,di,df,dln,dcl⟩,ds,dl,dc⟩:=x;obtain ⟨⟨yh,yb,yt⟩,en,⟨un,uw⟩,eh,⟨ek,et,eb,ei,ef,eln,ecl⟩,es,el,ec⟩:=y;simp only [y4x,y4q,Qao,Qa7] at hxy;obtain ⟨⟨⟨⟨⟨⟨⟨⟨⟨rfl,rfl⟩,rfl⟩,rfl⟩,rfl⟩,rfl⟩,rfl⟩,hpos⟩,hlit⟩,hxy⟩:=hxy;simp only [y2q] at hxn;clear hpos;obtain ⟨ls,Ad,cd,rfl,hvl,hds⟩:=y5j hxl;obtain ⟨Xi,xi,Xf,xf,rfl,-,-⟩:=y0l hvl;obtain ⟨ls,Bd,ce,rfl,hul,hes⟩:=y5j hyl;obtain ⟨Yi,yi,Yf,yf,rfl,-,-⟩:=y0l hul;have hxy:=hide hxy;have hlt2:=hide hlit;have hc:=fun {w M} (h:Hp w0 w K M)=>y8o _ 9000000 _ _ #[_,_,_,_,_,_,_] #[_,_,_,_,_,_,_] w0 w K M (by omega) (Qab _) hlt2.out hvl hul h;have hc2:=fun {w M} (h:Hp w0 w K M)=>y3e _ (by omega) hxy.out hds hes h;simp only [List.cons_append,List.nil_append] at hat hbt;clear hlit;clear hx hy
    go_wp2_with fail
    refine rB [] H ?_;clear H;intro w H;refine rT 0 H ?_;refine rT 1 H ?_;refine rT 2 H ?_;refine rT 3 H ?_;refine rT 4 H ?_ (hd:=datB);refine rT 5 H ?_;refine rT 6 H ?_;refine rT 7 H ?_;refine rT 8 H ?_;refine rT 9 H ?_ (hd:=datB);refine rT 10 H ?_;refine rT 11 H ?_;refine rT 12 H ?_;refine rT 13 H ?_;refine rT 14 H ?_;refine rT 15 H ?_;refine rT 16 H ?_;refine rT 17 H ?_;refine rT 18 H ?_;refine rT 19 H ?_;refine rT 20 H ?_;refine rT 21 H ?_;refine rT 22 H ?_;refine rT 23 H ?_;refine rT 24 H ?_;refine rT 25 H ?_;refine rT 26 H ?_;refine rT 27 H ?_;refine rT 28 H ?_;refine rT 29 H ?_ (hd:=datA);refine rT 30 H ?_;refine rT 31 H ?_;refine rT 32 H ?_;refine rT 33 H ?_;refine rT 34 H ?_ (hd:=datA);refine rT 35 H ?_;refine rT 36 H ?_;refine rT 37 H ?_;refine rT 38 H ?_;refine rT 39 H ?_;refine rT 40 H ?_;refine rT 41 H ?_;refine rT 42 H ?_;refine rT 43 H ?_;refine rT 44 H ?_;refine rT 45 H ?_;refine rT 46 H ?_;refine rT 47 H ?_;refine rT 48 H ?_;refine rT 49 H ?_;refine rT 50 H ?_;refine rT 51 H ?_;refine rT 52 H ?_;refine rU 53 H ?_;refine rU 54 H ?_;refine rU 55 H ?_;refine rU 56 H ?_;refine rU 57 H ?_;refine rU 58 H ?_;refine rU 59 H ?_;refine rU 60 H ?_;refine rU 61 H ?_;refine rU 62 H ?_;refine rU 63 H ?_;refine rT 64 H ?_;refine rT 65 H ?_;refine rE ?_
    go_wp2_with fail
    refine rB [] H ?_;clear H;intro w H;refine rT 0 H ?_;refine rT 1 H ?_;refine rT 2 H ?_;refine rT 3 H ?_;refine rT 4 H ?_ (hd:=datA);refine rT 5 H ?_;refine rT 6 H ?_;refine rT 7 H ?_;refine rT 8 H ?_;refine rT 9 H ?_ (hd:=datA);refine rT 10 H ?_;refine rC 11 (hc H) ?_;clear H;rintro e w ⟨rfl,H⟩;refine rX H ?_;refine rT 12 H ?_;refine rT 13 H ?_;refine rT 14 H ?_;refine rT 15 H ?_;refine rT 16 H ?_;refine rT 17 H ?_;refine rT 18 H ?_;refine rT 19 H ?_;refine rT 20 H ?_;refine rT 21 H ?_;refine rT 22 H ?_;refine rT 23 H ?_;refine rT 24 H ?_;refine rD 25 (hc2 H) ?_;clear H;rintro e w ⟨rfl,H⟩;refine rX H ?_;refine rT 26 H ?_;refine rT 27 H ?_;refine rE ?_
    go_wp2_with fail
    go_roundw
    case rel=>exact ⟨k+1,by omega,by go_num,H⟩
    case measure=>simp [intOf];omega
   |true=>
    obtain ⟨⟨nh,nb,nt⟩,dn,⟨tn,tw⟩,dh,⟨dk,dt,db,di,df,dln,dcl⟩,ds,dl,dc⟩:=x;obtain ⟨⟨yh,yb,yt⟩,en,⟨un,uw⟩,eh,⟨ek,et,eb,ei,ef,eln,ecl⟩,es,el,ec⟩:=y;simp only [y4x,y4q,Qao,Qa7] at hxy;obtain ⟨⟨⟨⟨⟨⟨⟨⟨⟨rfl,rfl⟩,rfl⟩,rfl⟩,rfl⟩,rfl⟩,rfl⟩,hpos⟩,hlit⟩,hxy⟩:=hxy;simp only [y2q] at hxn;simp only [Bool.not_true,Bool.false_or,Qao,Qa7] at hpos;obtain ⟨rfl,rfl⟩:=hpos;obtain ⟨ls,Ad,cd,rfl,hvl,hds⟩:=y5j hxl;obtain ⟨Xi,xi,Xf,xf,rfl,-,-⟩:=y0l hvl;obtain ⟨ls,Bd,ce,rfl,hul,hes⟩:=y5j hyl;obtain ⟨Yi,yi,Yf,yf,rfl,-,-⟩:=y0l hul;have hxy:=hide hxy;have hlt2:=hide hlit;have hc:=fun {w M} (h:Hp w0 w K M)=>y8o _ 9000000 _ _ #[_,_,_,_,_,_,_] #[_,_,_,_,_,_,_] w0 w K M (by omega) (Qab _) hlt2.out hvl hul h;have hc2:=fun {w M} (h:Hp w0 w K M)=>y3e _ (by omega) hxy.out hds hes h;simp only [List.cons_append,List.nil_append] at hat hbt;clear hlit;clear hx hy
    go_wp2_with fail
    refine rB [] H ?_;clear H;intro w H;refine rT 0 H ?_;refine rT 1 H ?_;refine rT 2 H ?_;refine rT 3 H ?_;refine rT 4 H ?_ (hd:=datB);refine rT 5 H ?_;refine rT 6 H ?_;refine rT 7 H ?_;refine rT 8 H ?_;refine rT 9 H ?_ (hd:=datB);refine rT 10 H ?_;refine rT 11 H ?_;refine rT 12 H ?_;refine rT 13 H ?_;refine rT 14 H ?_;refine rT 15 H ?_;refine rT 16 H ?_;refine rT 17 H ?_;refine rT 18 H ?_;refine rT 19 H ?_;refine rT 20 H ?_;refine rT 21 H ?_;refine rT 22 H ?_;refine rT 23 H ?_;refine rT 24 H ?_;refine rT 25 H ?_;refine rT 26 H ?_;refine rT 27 H ?_;refine rT 28 H ?_;refine rT 29 H ?_ (hd:=datA);refine rT 30 H ?_;refine rT 31 H ?_;refine rT 32 H ?_;refine rT 33 H ?_;refine rT 34 H ?_ (hd:=datA);refine rT 35 H ?_;refine rT 36 H ?_;refine rT 37 H ?_;refine rT 38 H ?_;refine rT 39 H ?_;refine rT 40 H ?_;refine rT 41 H ?_;refine rT 42 H ?_;refine rT 43 H ?_;refine rT 44 H ?_;refine rT 45 H ?_;refine rT 46 H ?_;refine rT 47 H ?_;refine rT 48 H ?_;refine rT 49 H ?_;refine rT 50 H ?_;refine rT 51 H ?_;refine rT 52 H ?_;refine rT 53 H ?_;refine rT 54 H ?_;refine rT 55 H ?_;refine rT 56 H ?_;refine rT 57 H ?_ (hd:=datA);refine rT 58 H ?_;refine rT 59 H ?_;refine rT 60 H ?_;refine rT 61 H ?_;refine rT 62 H ?_ (hd:=datA);refine rT 63 H ?_;refine rT 64 H ?_;refine rT 65 H ?_;refine rE ?_
    go_wp2_with fail
    refine rB [] H ?_;clear H;intro w H;refine rT 0 H ?_;refine rT 1 H ?_;refine rT 2 H ?_;refine rT 3 H ?_;refine rT 4 H ?_ (hd:=datA);refine rT 5 H ?_;refine rT 6 H ?_;refine rT 7 H ?_;refine rT 8 H ?_;refine rT 9 H ?_ (hd:=datA);refine rT 10 H ?_;refine rC 11 (hc H) ?_;clear H;rintro e w ⟨rfl,H⟩;refine rX H ?_;refine rT 12 H ?_;refine rT 13 H ?_;refine rT 14 H ?_;refine rT 15 H ?_;refine rT 16 H ?_;refine rT 17 H ?_;refine rT 18 H ?_;refine rT 19 H ?_;refine rT 20 H ?_;refine rT 21 H ?_;refine rT 22 H ?_;refine rT 23 H ?_;refine rT 24 H ?_;refine rD 25 (hc2 H) ?_;clear H;rintro e w ⟨rfl,H⟩;refine rX H ?_;refine rT 26 H ?_;refine rT 27 H ?_;refine rE ?_
    go_wp2_with fail
    go_roundw
    case rel=>exact ⟨k+1,by omega,by go_num,H⟩
    case measure=>simp [intOf];omega
  ·obtain rfl:nf=k:=by omega
   go_wp2_with fail
   go_ret;exact ⟨rfl,H⟩
end
def y68 (p:Bool) (d e:FieldD):Bool:=y4q d.note e.note&&d.name==e.name&&d.ty.1==e.ty.1&&d.ty.2==e.ty.2&&(!p||d.line==e.line&&d.col==e.col)&&y07 (y4x p) d.args e.args&&y07 (z36 p) d.dirs e.dirs
section
variable {w0 w K : World} {M : List Ent}
theorem z7e (p:Bool) {l m:List FieldD} {A B:Option Addr} {c b:Nat} (hn:sumN y31 l≤9000000) (heq:y07 (y68 p) l m=true) (hd:RD K (.list l.length (l.flatMap y3z)) (.slice A l.length c)) (he:RD K (.list m.length (m.flatMap y3z)) (.slice B m.length b)) (H:Hp w0 w K M):
  Calls Tryz.prog 112 #[.slice A l.length c,.slice B m.length b,.bool p] w fun e w'=>e= .returned (.bool true)∧Hp w0 w' K M:=by
 obtain ⟨e6,E6⟩:=y5s heq;have hnf:=Qah (y0w y5b l) hn;have HF:=hide (show ∀x∈l,y31 x≤9000000 from fun x hx=>by obtain ⟨k,hk⟩:=Qaq hx;have:=y6d (f:=y31) hk;omega);have HE6:=hide (show ∀(k:Nat) (x y:FieldD),l[k]?=some x→m[k]?=some y→(y68 p) x y=true from fun k x y=>E6);rw [←e6] at he ⊢;obtain ⟨nf,hnf2⟩: ∃x,l.length=x:=⟨_,rfl⟩;rw [hnf2] at hd he hnf e6 ⊢;have HNF:=hide hnf2;have HNG:=hide e6.symm;clear hnf2 e6 E6 heq hn;go_enter Tryz.func112,Tryz.ntmps112
 go_wp2_with fail
 go_loopw [7] (fun i wr=>∃k:Nat,k≤nf∧i= .int .i64 k∧Hp w0 wr K M) (fun i _=>nf - (intOf i).toNat)
 case atStart=>exact ⟨0,Qak _,rfl,H⟩
 case round=>
  clear H;obtain ⟨k,hk,rfl,H⟩:=hrel;by_cases hlt:k<nf
  ·obtain ⟨x,ad,us,hx,rfl,hxl,hat⟩:=el_k (m:=10) (f:=y3z) (fun _=>rfl) hd (by rw [HNF.out];exact hlt) (by decide);obtain ⟨y,bd,vs,hy,rfl,hyl,hbt⟩:=el_k (m:=10) (f:=y3z) (fun _=>rfl) he (by rw [HNG.out];exact hlt) (by decide);obtain ⟨hkI,hwr⟩:=wr_k hlt hnf;have hxn:=HF.out x (Qaf hx);have hxy:=HE6.out k x y hx hy
   cases p with
   |false=>
    obtain ⟨⟨nh,nb,nt⟩,dn,da,⟨tn,tw⟩,ds,dl,dc⟩:=x;obtain ⟨⟨yh,yb,yt⟩,en,ea,⟨un,uw⟩,es,el,ec⟩:=y;simp only [y68,y4q,Qao,Qa7] at hxy;obtain ⟨⟨⟨⟨⟨⟨⟨⟨rfl,rfl⟩,rfl⟩,rfl⟩,rfl⟩,rfl⟩,hpos⟩,hin⟩,hxy⟩:=hxy;simp only [y31] at hxn;clear hpos;obtain ⟨hr0,rfl,h0⟩:=hxl.lit_inv;obtain ⟨hr1,rfl,h1⟩:=h0.lit_inv;obtain ⟨hr2,rfl,h2⟩:=h1.lit_inv;obtain ⟨hr3,rfl,h3⟩:=h2.lit_inv;obtain ⟨hA4,hc4,hr4,rfl,hd4,h4⟩:=h3.list_inv;obtain ⟨hr5,rfl,h5⟩:=h4.lit_inv;obtain ⟨hr6,rfl,h6⟩:=h5.lit_inv;obtain ⟨hA7,hc7,hr7,rfl,hd7,h7⟩:=h6.list_inv;obtain ⟨hr8,rfl,h8⟩:=h7.lit_inv;obtain ⟨hr9,rfl,h9⟩:=h8.lit_inv;obtain rfl:=h9.nil_inv;obtain ⟨kr0,rfl,k0⟩:=hyl.lit_inv;obtain ⟨kr1,rfl,k1⟩:=k0.lit_inv;obtain ⟨kr2,rfl,k2⟩:=k1.lit_inv;obtain ⟨kr3,rfl,k3⟩:=k2.lit_inv;obtain ⟨kA4,kc4,kr4,rfl,kd4,k4⟩:=k3.list_inv;obtain ⟨kr5,rfl,k5⟩:=k4.lit_inv;obtain ⟨kr6,rfl,k6⟩:=k5.lit_inv;obtain ⟨kA7,kc7,kr7,rfl,kd7,k7⟩:=k6.list_inv;obtain ⟨kr8,rfl,k8⟩:=k7.lit_inv;obtain ⟨kr9,rfl,k9⟩:=k8.lit_inv;obtain rfl:=k9.nil_inv;have hxy:=hide hxy;have hin2:=hide hin;have hc:=fun {w M} (h:Hp w0 w K M)=>y67 _ (by omega) hin2.out hd4 kd4 h;have hc2:=fun {w M} (h:Hp w0 w K M)=>y3e _ (by omega) hxy.out hd7 kd7 h;clear hin;clear hx hy
    go_wp2_with fail
    refine rB [] H ?_;clear H;intro w H;refine rT 0 H ?_;refine rT 1 H ?_;refine rT 2 H ?_;refine rT 3 H ?_;refine rT 4 H ?_ (hd:=datB);refine rT 5 H ?_;refine rT 6 H ?_;refine rT 7 H ?_;refine rT 8 H ?_;refine rT 9 H ?_ (hd:=datB);refine rT 10 H ?_;refine rT 11 H ?_;refine rT 12 H ?_;refine rT 13 H ?_;refine rT 14 H ?_;refine rT 15 H ?_;refine rT 16 H ?_;refine rT 17 H ?_;refine rT 18 H ?_;refine rT 19 H ?_;refine rT 20 H ?_;refine rT 21 H ?_;refine rT 22 H ?_;refine rT 23 H ?_;refine rT 24 H ?_;refine rT 25 H ?_;refine rT 26 H ?_;refine rT 27 H ?_;refine rT 28 H ?_;refine rT 29 H ?_ (hd:=datA);refine rT 30 H ?_;refine rT 31 H ?_;refine rT 32 H ?_;refine rT 33 H ?_;refine rT 34 H ?_ (hd:=datA);refine rT 35 H ?_;refine rT 36 H ?_;refine rT 37 H ?_;refine rT 38 H ?_;refine rT 39 H ?_;refine rU 40 H ?_;refine rU 41 H ?_;refine rU 42 H ?_;refine rU 43 H ?_;refine rU 44 H ?_;refine rU 45 H ?_;refine rU 46 H ?_;refine rU 47 H ?_;refine rU 48 H ?_;refine rU 49 H ?_;refine rU 50 H ?_;refine rT 51 H ?_;refine rT 52 H ?_;refine rE ?_
    go_wp2_with fail
    refine rB [] H ?_;clear H;intro w H;refine rT 0 H ?_;refine rT 1 H ?_;refine rT 2 H ?_;refine rT 3 H ?_;refine rT 4 H ?_;refine rT 5 H ?_;refine rT 6 H ?_;refine rT 7 H ?_;refine rT 8 H ?_;refine rT 9 H ?_;refine rT 10 H ?_;refine rC 11 (hc H) ?_;clear H;rintro e w ⟨rfl,H⟩;refine rX H ?_;refine rT 12 H ?_;refine rT 13 H ?_;refine rT 14 H ?_;refine rT 15 H ?_;refine rT 16 H ?_;refine rT 17 H ?_;refine rT 18 H ?_;refine rT 19 H ?_;refine rT 20 H ?_;refine rT 21 H ?_;refine rT 22 H ?_;refine rT 23 H ?_;refine rT 24 H ?_;refine rD 25 (hc2 H) ?_;clear H;rintro e w ⟨rfl,H⟩;refine rX H ?_;refine rT 26 H ?_;refine rT 27 H ?_;refine rE ?_
    go_wp2_with fail
    go_roundw
    case rel=>exact ⟨k+1,by omega,by go_num,H⟩
    case measure=>simp [intOf];omega
   |true=>
    obtain ⟨⟨nh,nb,nt⟩,dn,da,⟨tn,tw⟩,ds,dl,dc⟩:=x;obtain ⟨⟨yh,yb,yt⟩,en,ea,⟨un,uw⟩,es,el,ec⟩:=y;simp only [y68,y4q,Qao,Qa7] at hxy;obtain ⟨⟨⟨⟨⟨⟨⟨⟨rfl,rfl⟩,rfl⟩,rfl⟩,rfl⟩,rfl⟩,hpos⟩,hin⟩,hxy⟩:=hxy;simp only [y31] at hxn;simp only [Bool.not_true,Bool.false_or,Qao,Qa7] at hpos;obtain ⟨rfl,rfl⟩:=hpos;obtain ⟨hr0,rfl,h0⟩:=hxl.lit_inv;obtain ⟨hr1,rfl,h1⟩:=h0.lit_inv;obtain ⟨hr2,rfl,h2⟩:=h1.lit_inv;obtain ⟨hr3,rfl,h3⟩:=h2.lit_inv;obtain ⟨hA4,hc4,hr4,rfl,hd4,h4⟩:=h3.list_inv;obtain ⟨hr5,rfl,h5⟩:=h4.lit_inv;obtain ⟨hr6,rfl,h6⟩:=h5.lit_inv;obtain ⟨hA7,hc7,hr7,rfl,hd7,h7⟩:=h6.list_inv;obtain ⟨hr8,rfl,h8⟩:=h7.lit_inv;obtain ⟨hr9,rfl,h9⟩:=h8.lit_inv;obtain rfl:=h9.nil_inv;obtain ⟨kr0,rfl,k0⟩:=hyl.lit_inv;obtain ⟨kr1,rfl,k1⟩:=k0.lit_inv;obtain ⟨kr2,rfl,k2⟩:=k1.lit_inv;obtain ⟨kr3,rfl,k3⟩:=k2.lit_inv;obtain ⟨kA4,kc4,kr4,rfl,kd4,k4⟩:=k3.list_inv;obtain ⟨kr5,rfl,k5⟩:=k4.lit_inv;obtain ⟨kr6,rfl,k6⟩:=k5.lit_inv;obtain ⟨kA7,kc7,kr7,rfl,kd7,k7⟩:=k6.list_inv;obtain ⟨kr8,rfl,k8⟩:=k7.lit_inv;obtain ⟨kr9,rfl,k9⟩:=k8.lit_inv;obtain rfl:=k9.nil_inv;have hxy:=hide hxy;have hin2:=hide hin;have hc:=fun {w M} (h:Hp w0 w K M)=>y67 _ (by omega) hin2.out hd4 kd4 h;have hc2:=fun {w M} (h:Hp w0 w K M)=>y3e _ (by omega) hxy.out hd7 kd7 h;clear hin;clear hx hy
    go_wp2_with fail
    refine rB [] H ?_;clear H;intro w H;refine rT 0 H ?_;refine rT 1 H ?_;refine rT 2 H ?_;refine rT 3 H ?_;refine rT 4 H ?_ (hd:=datB);refine rT 5 H ?_;refine rT 6 H ?_;refine rT 7 H ?_;refine rT 8 H ?_;refine rT 9 H ?_ (hd:=datB);refine rT 10 H ?_;refine rT 11 H ?_;refine rT 12 H ?_;refine rT 13 H ?_;refine rT 14 H ?_;refine rT 15 H ?_;refine rT 16 H ?_;refine rT 17 H ?_;refine rT 18 H ?_;refine rT 19 H ?_;refine rT 20 H ?_;refine rT 21 H ?_;refine rT 22 H ?_;refine rT 23 H ?_;refine rT 24 H ?_;refine rT 25 H ?_;refine rT 26 H ?_;refine rT 27 H ?_;refine rT 28 H ?_;refine rT 29 H ?_ (hd:=datA);refine rT 30 H ?_;refine rT 31 H ?_;refine rT 32 H ?_;refine rT 33 H ?_;refine rT 34 H ?_ (hd:=datA);refine rT 35 H ?_;refine rT 36 H ?_;refine rT 37 H ?_;refine rT 38 H ?_;refine rT 39 H ?_;refine rT 40 H ?_;refine rT 41 H ?_;refine rT 42 H ?_;refine rT 43 H ?_;refine rT 44 H ?_ (hd:=datA);refine rT 45 H ?_;refine rT 46 H ?_;refine rT 47 H ?_;refine rT 48 H ?_;refine rT 49 H ?_ (hd:=datA);refine rT 50 H ?_;refine rT 51 H ?_;refine rT 52 H ?_;refine rE ?_
    go_wp2_with fail
    refine rB [] H ?_;clear H;intro w H;refine rT 0 H ?_;refine rT 1 H ?_;refine rT 2 H ?_;refine rT 3 H ?_;refine rT 4 H ?_;refine rT 5 H ?_;refine rT 6 H ?_;refine rT 7 H ?_;refine rT 8 H ?_;refine rT 9 H ?_;refine rT 10 H ?_;refine rC 11 (hc H) ?_;clear H;rintro e w ⟨rfl,H⟩;refine rX H ?_;refine rT 12 H ?_;refine rT 13 H ?_;refine rT 14 H ?_;refine rT 15 H ?_;refine rT 16 H ?_;refine rT 17 H ?_;refine rT 18 H ?_;refine rT 19 H ?_;refine rT 20 H ?_;refine rT 21 H ?_;refine rT 22 H ?_;refine rT 23 H ?_;refine rT 24 H ?_;refine rD 25 (hc2 H) ?_;clear H;rintro e w ⟨rfl,H⟩;refine rX H ?_;refine rT 26 H ?_;refine rT 27 H ?_;refine rE ?_
    go_wp2_with fail
    go_roundw
    case rel=>exact ⟨k+1,by omega,by go_num,H⟩
    case measure=>simp [intOf];omega
  ·obtain rfl:nf=k:=by omega
   go_wp2_with fail
   go_ret;exact ⟨rfl,H⟩
end
def y37 (p:Bool) (d e:DefD):Bool:=d.kind==e.kind&&d.ext==e.ext&&y4q d.note e.note&&d.name==e.name&&d.rep==e.rep&&(!p||d.line==e.line&&d.col==e.col)&&
 (y07 (y3r p) d.ifaces e.ifaces&&y07 (y3r p) d.members e.members&&y07 (y3r p) d.places e.places&&y07 (y68 p) d.fields e.fields&&y07 (y4x p) d.inputs e.inputs&&y07 (y66 p) d.values e.values&&y07 (z0n p) d.roots e.roots&&y07 (z36 p) d.dirs e.dirs)
section
variable {w0 w K : World} {M : List Ent}
theorem x6p (p:Bool) {d e:DefD} {cs es:Array Value} (hn:defN d≤9000000) (heq:y37 p d e=true) (hd:RL K (defL d) cs.toList) (he:RL K (defL e) es.toList) (H:Hp w0 w K M):
  Calls Tryz.prog 66 #[.agg cs,.agg es,.bool p] w fun e w'=>e= .returned (.bool true)∧Hp w0 w' K M:=by
 obtain ⟨kind,ext,⟨nh,nb,nt⟩,name,ifaces,dirs,fields,inputs,members,values,roots,rep,places,line,col⟩:=d;obtain ⟨kind2,ext2,⟨nh2,nb2,nt2⟩,name2,ifaces2,dirs2,fields2,inputs2,members2,values2,roots2,rep2,places2,line2,col2⟩:=e;simp only [y37,y4q,Qao,Qa7] at heq;obtain ⟨⟨⟨⟨⟨⟨rfl,rfl⟩,⟨rfl,rfl⟩,rfl⟩,rfl⟩,rfl⟩,hpos⟩,⟨⟨⟨⟨⟨⟨e6,e10⟩,e14⟩,e8⟩,e9⟩,e11⟩,e12⟩,e7⟩:=heq;obtain ⟨A6,c6,A7,c7,A8,c8,A9,c9,A10,c10,A11,c11,A12,c12,A14,c14,hcs,d6,d7,d8,d9,d10,d11,d12,d14⟩:=y0h hd;obtain rfl:cs= #[_,_,_,_,_,_,_,_,_,_,_,_,_,_,_,_,_]:=Qal.1 hcs;obtain ⟨B6,b6,B7,b7,B8,b8,B9,b9,B10,b10,B11,b11,B12,b12,B14,b14,hes,f6,f7,f8,f9,f10,f11,f12,f14⟩:=y0h he;obtain rfl:es= #[_,_,_,_,_,_,_,_,_,_,_,_,_,_,_,_,_]:=Qal.1 hes;simp only [defN] at hn;dsimp only at d6 d7 d8 d9 d10 d11 d12 d14 f6 f7 f8 f9 f10 f11 f12 f14 hpos ⊢;have hc6:=fun {w M} (h:Hp w0 w K M)=>y76 p (by omega) e6 d6 f6 h;have hc10:=fun {w M} (h:Hp w0 w K M)=>y76 p (by omega) e10 d10 f10 h;have hc14:=fun {w M} (h:Hp w0 w K M)=>y76 p (by omega) e14 d14 f14 h;have hc8:=fun {w M} (h:Hp w0 w K M)=>z7e p (by omega) e8 d8 f8 h;have hc9:=fun {w M} (h:Hp w0 w K M)=>y67 p (by omega) e9 d9 f9 h;have hc11:=fun {w M} (h:Hp w0 w K M)=>z7d p (by omega) e11 d11 f11 h;have hc12:=fun {w M} (h:Hp w0 w K M)=>z9b p (by omega) e12 d12 f12 h;have hc7:=fun {w M} (h:Hp w0 w K M)=>y3e p (by omega) e7 d7 f7 h;clear hcs hes hd he hn e6 e7 e8 e9 e10 e11 e12 e14 d6 d7 d8 d9 d10 d11 d12 d14 f6 f7 f8 f9 f10 f11 f12 f14
 cases p with
 |false=>
  clear hpos;go_enter Tryz.func66,Tryz.ntmps66
  go_wp2_with (first|(refine oL H ?_)|(refine oP H ?_;clear H;intro w _ H)|((with_reducible refine (hc6 H).mono ?_);clear H;rintro e w ⟨rfl,H⟩)|((with_reducible refine (hc10 H).mono ?_);clear H;rintro e w ⟨rfl,H⟩)|((with_reducible refine (hc14 H).mono ?_);clear H;rintro e w ⟨rfl,H⟩)|((with_reducible refine (hc8 H).mono ?_);clear H;rintro e w ⟨rfl,H⟩)|((with_reducible refine (hc9 H).mono ?_);clear H;rintro e w ⟨rfl,H⟩)|((with_reducible refine (hc11 H).mono ?_);clear H;rintro e w ⟨rfl,H⟩)|((with_reducible refine (hc12 H).mono ?_);clear H;rintro e w ⟨rfl,H⟩)|((with_reducible refine (hc7 H).mono ?_);clear H;rintro e w ⟨rfl,H⟩))
  go_ret;exact ⟨rfl,H.fin⟩
 |true=>
  simp only [Bool.not_true,Bool.false_or,Qao,Qa7] at hpos;obtain ⟨rfl,rfl⟩:=hpos;go_enter Tryz.func66,Tryz.ntmps66
  go_wp2_with (first|(refine oL H ?_)|(refine oP H ?_;clear H;intro w _ H)|((with_reducible refine (hc6 H).mono ?_);clear H;rintro e w ⟨rfl,H⟩)|((with_reducible refine (hc10 H).mono ?_);clear H;rintro e w ⟨rfl,H⟩)|((with_reducible refine (hc14 H).mono ?_);clear H;rintro e w ⟨rfl,H⟩)|((with_reducible refine (hc8 H).mono ?_);clear H;rintro e w ⟨rfl,H⟩)|((with_reducible refine (hc9 H).mono ?_);clear H;rintro e w ⟨rfl,H⟩)|((with_reducible refine (hc11 H).mono ?_);clear H;rintro e w ⟨rfl,H⟩)|((with_reducible refine (hc12 H).mono ?_);clear H;rintro e w ⟨rfl,H⟩)|((with_reducible refine (hc7 H).mono ?_);clear H;rintro e w ⟨rfl,H⟩))
  go_ret;exact ⟨rfl,H.fin⟩
theorem z4a (p:Bool) {l m:List DefD} {A B:Option Addr} {c b:Nat} (hn:y0i l≤9000000) (heq:y07 (y37 p) l m=true) (hd:RD K (.list l.length (y0r l)) (.slice A l.length c)) (he:RD K (.list m.length (y0r m)) (.slice B m.length b)) (H:Hp w0 w K M):
  Calls Tryz.prog 20 #[.slice A l.length c,.slice B m.length b,.bool p] w fun e w'=>e= .returned (.bool true)∧Hp w0 w' K M:=by
 obtain ⟨e6,E6⟩:=y5s heq;have hnf:=Qah (y0w (f:=defN) (fun d=>Nat.succ_pos _) l) hn;have HF:=hide (show ∀x∈l,defN x≤9000000 from fun x hx=>by obtain ⟨k,hk⟩:=Qaq hx;have:=y6d (f:=defN) hk;unfold y0i at hn;omega);have HE6:=hide (show ∀(k:Nat) (x y:DefD),l[k]?=some x→m[k]?=some y→(y37 p) x y=true from fun k x y=>E6);rw [←e6] at he ⊢;obtain ⟨nf,hnf2⟩: ∃x,l.length=x:=⟨_,rfl⟩;rw [hnf2] at hd he hnf e6 ⊢;have HNF:=hide hnf2;have HNG:=hide e6.symm;clear hnf2 e6 E6 heq hn;go_enter Tryz.func20,Tryz.ntmps20
 go_wp2_with fail
 go_loopw [7] (fun i wr=>∃k:Nat,k≤nf∧i= .int .i64 k∧Hp w0 wr K M) (fun i _=>nf - (intOf i).toNat)
 case atStart=>exact ⟨0,Qak _,rfl,H⟩
 case round=>
  clear H;obtain ⟨k,hk,rfl,H⟩:=hrel;by_cases hlt:k<nf
  ·obtain ⟨x,ad,us,hx,rfl,hxl,hat⟩:=el_k (m:=17) (f:=defL) y1b hd (by rw [HNF.out];exact hlt) (by decide);obtain ⟨y,bd,vs,hy,rfl,hyl,hbt⟩:=el_k (m:=17) (f:=defL) y1b he (by rw [HNG.out];exact hlt) (by decide);obtain ⟨hkI,hwr⟩:=wr_k hlt hnf;have hxn:=HF.out x (Qaf hx);have hxy:=HE6.out k x y hx hy;obtain ⟨A6,c6,A7,c7,A8,c8,A9,c9,A10,c10,A11,c11,A12,c12,A14,c14,hcs,-⟩:=y0h hxl;subst hcs;obtain ⟨B6,b6,B7,b7,B8,b8,B9,b9,B10,b10,B11,b11,B12,b12,B14,b14,hes,-⟩:=y0h hyl;subst hes;have hc:=fun {w M} (h:Hp w0 w K M)=>x6p (w0:=w0) (w:=w) (M:=M) p (cs:= #[_,_,_,_,_,_,_,_,_,_,_,_,_,_,_,_,_]) (es:= #[_,_,_,_,_,_,_,_,_,_,_,_,_,_,_,_,_]) hxn hxy hxl hyl h;clear hx hy
   go_wp2_with fail
   refine rB [] H ?_;clear H;intro w H;refine rT 0 H ?_;refine rT 1 H ?_;refine rT 2 H ?_;refine rT 3 H ?_;refine rT 4 H ?_;refine rT 5 H ?_;refine rT 6 H ?_;refine rT 7 H ?_;refine rT 8 H ?_;refine rC 9 (hc H) ?_;clear H;rintro e w ⟨rfl,H⟩;refine rX H ?_;refine rT 10 H ?_;refine rE ?_
   go_wp2_with fail
   go_roundw
   case rel=>exact ⟨k+1,by omega,by go_num,H⟩
   case measure=>simp [intOf];omega
  ·obtain rfl:nf=k:=by omega
   go_wp2_with fail
   go_ret;exact ⟨rfl,H⟩
theorem x34 (d:DefD) {cs:Array Value} (hd:RL K (defL d) cs.toList) (H:Hp w0 w K M):
  Calls Tryz.prog 21 #[.agg cs] w fun e w'=>∃K' g,e= .returned (.slice (some ⟨g,0,none⟩) 1 1)∧Sat K' K∧Hp w0 w' K' M∧RD K' (.list [d].length (y0r [d])) (.slice (some ⟨g,0,none⟩) 1 1):=by
 obtain ⟨A6,c6,A7,c7,A8,c8,A9,c9,A10,c10,A11,c11,A12,c12,A14,c14,hcs,-⟩:=y0h hd;obtain rfl:cs= #[_,_,_,_,_,_,_,_,_,_,_,_,_,_,_,_,_]:=Qal.1 hcs;clear hcs;go_enter Tryz.func21,Tryz.ntmps21
 go_wp2_with (first|(refine oL H ?_)|(refine oA 4 H ?_;clear H;intro w g H)|(refine oP H ?_;clear H;intro w _ H))
 replace H:Hp _ _ _ (.box g _ _::M):=H.fin;obtain ⟨K',hle,H,hq⟩:=H.freezeBox (n:=1) (ls:=y0r [d]) (show RL _ ([d].flatMap defL) _ by rw [List.flatMap_singleton];exact hd) (by simp [maxLen]);go_ret;exact ⟨K',g,rfl,hle,H,hq⟩
end
end Go.Proofs.YtbpgkkoeehopjaaGreat.hp
namespace Go.Proofs.YtbpgkkoeehopjaaGreat.hp
open Go.RowKit words enc tree gram lex rd dec dat held
def y0y (l:List (Txt×Value)):List (Value×Value):=l.map fun p=>(.string (str p.1),p.2)
def y5m (l:List (Txt×Value)) (x:Txt):Option Value:=(l.find? (·.1==x)).map (·.2)
def sput:List (Txt×Value)→Txt→Value→List (Txt×Value)
 |[],x,v=>[(x,v)]
 |p::r,x,v=>if p.1=x then (x,v)::r else p::sput r x v
theorem q41 {l:List (Txt×Value)} {x:Txt} {v:Value} (h:y5m l x=none):sput l x v=l++[(x,v)]:=by
 induction l with
 |nil=>rfl
 |cons p r ih=>
  by_cases hp:p.1=x
  ·simp [y5m,hp] at h
  ·have:y5m r x=none:=by simpa [y5m,hp] using h
   rw [sput,if_neg hp,ih this];rfl
theorem y5e (a b:Txt):(str a==str b)=decide (a=b):=by
 show ((str a).data==(str b).data)=_
 rw [Bool.eq_iff_iff];simp [str]
theorem z2r {w:World} {b:Nat} {l:List (Value×Value)} {P:Program} (h:w.heap[b]?=some (mobj l)):(getObj b).run P w= .ok (.map (y20 l).toArray l.length) w:=by
 unfold getObj;simp only [Sem.run,h,mobj]
theorem z9c (x:Txt): ∀(l:List (Txt×Value)) (j i:Nat),Instr.findNow .string (.string (str x)) (((y0y l).zipIdx j).map fun p=>({key:=p.1.1,val:=p.1.2,born:=p.2}:MapEntry)) i=some ((l.findIdx? (·.1==x)).bind fun k=>(l[k]?).map fun p=>(i+k,p.2))
 |[],j,i=>rfl
 |p::r,j,i=>by
  simp only [y0y,List.map_cons,List.zipIdx_cons,Instr.findNow,Instr.sameNow,y5e];by_cases h:p.1=x
  ·have h':x=p.1:=h.symm;simp [h',List.findIdx?_cons]
  ·have h': ¬x=p.1:=fun e=>h e.symm;have:=z9c x r (j+1) (i+1);simp only [y0y] at this;simp only [h',decide_false,this,List.findIdx?_cons,h,Qa7,if_false,Bool.false_eq_true]
   cases hq:r.findIdx? (·.1==x) with
   |none=>simp
   |some k=>simp [Nat.add_comm,Nat.add_left_comm,Nat.add_assoc]
section
variable {P : Program} {w : World} {b t kt et : Nat} {l : List (Txt × Value)}
theorem z0o (hk:P.underlying kt=some .string) (x:Txt):(Instr.findKey kt (.string (str x)) (y20 (y0y l))).run P w= .ok ((l.findIdx? (·.1==x)).bind fun k=>(l[k]?).map fun p=>(k,p.2)) w:=by
 have:=z9c x l 0 0;simp only [Nat.zero_add] at this;unfold Instr.findKey y20;rw [Sem.run_bind,run_underlying hk w];simp only [Result.andThen_ok,this,Sem.run_pure]
theorem y8p (hk:P.underlying kt=some .string) (e:Bool) (x:Txt):(Instr.checkKey e 10000 kt (.string (str x))).run P w= .ok () w:=by
 unfold Instr.checkKey;rw [Sem.run_bind,run_underlying hk w];rfl
theorem z9d (x:Txt): ∀l:List (Txt×Value),((l.findIdx? (·.1==x)).bind fun k=>(l[k]?).map fun p=>(k,p.2)).map (·.2)=y5m l x
 |[]=>rfl
 |p::r=>by
  by_cases h:p.1=x
  ·simp [List.findIdx?_cons,h,y5m]
  ·have:=z9d x r;simp only [y5m,List.find?_cons,List.findIdx?_cons,h,Qa7,if_false,Bool.false_eq_true] at this ⊢;have hb:(p.1==x)=false:=Qa3.2 h;simp only [hb];rw [←this]
   cases hq:r.findIdx? (·.1==x) with
   |none=>simp
   |some k=>simp [Function.comp_def]
theorem z9e (ht:P.underlying t=some (.map kt et)) (hk:P.underlying kt=some .string) (z:Value) (hz:(zeroValue et).run P w= .ok z w) (hb:w.heap[b]?=some (mobj (y0y l))) (x:Txt) (ok:Bool):
  (Instr.lookup t (.map (some b)) (.string (str x)) ok).run P w= .ok (if ok then .tuple #[(y5m l x).getD z,.bool (y5m l x).isSome] else (y5m l x).getD z) w:=by
 have hf:=z0o (P:=P) (w:=w) (l:=l) hk x;have hi:=z9d x l;unfold Instr.lookup;simp only [Sem.run_bind,run_underlying ht w,Result.andThen_ok,z2r hb,Sem.run_pure,y8p hk,hf]
 cases hq:((l.findIdx? (·.1==x)).bind fun k=>(l[k]?).map fun p=>(k,p.2)) with
 |none=>
  rw [hq] at hi;have hi:y5m l x=none:=hi.symm;simp [hi,hz,Sem.run_bind]
 |some p=>
  rw [hq] at hi;have hi:y5m l x=some p.2:=hi.symm;simp [hi,Sem.run_bind]
theorem x35 (x:Txt) (v:Value): ∀(l:List (Txt×Value)),match l.findIdx? (·.1==x) with
  |none=>sput l x v=l++[(x,v)]
  |some k=>k<l.length∧sput l x v=l.set k (x,v)∧(l[k]?).map (·.1)=some x
 |[]=>rfl
 |p::r=>by
  by_cases h:p.1=x
  ·simp [List.findIdx?_cons,h,sput]
  ·have ih:=x35 x v r;have hb:(p.1==x)=false:=Qa3.2 h;simp only [List.findIdx?_cons,hb,Bool.false_eq_true,if_false,sput,h]
   cases hq:r.findIdx? (·.1==x) with
   |none=>rw [hq] at ih;simp only [Option.map_none] at ih ⊢;simp [ih]
   |some k=>rw [hq] at ih;simp only [Option.map_some] at ih ⊢;exact ⟨by simpa using ih.1,by rw [ih.2.1];rfl,by simpa using ih.2.2⟩
theorem x97 (l:List (Txt×Value)) (k:Nat) (hk:k<l.length) (p:Txt×Value):y20 (y0y (l.set k p))=(y20 (y0y l)).modify k fun e=>{e with key:=.string (str p.1),val:=p.2}:=by
 apply Qby;intro j;simp only [y20,y0y,Qbz,List.getElem?_zipIdx,List.getElem?_modify,List.getElem?_set,List.map_set];by_cases hj:k=j
 ·subst hj;simp [hk]
 ·simp [hj]
theorem z5x {o o':Obj} (hb:w.heap[b]?=some o) (hn: ∀c e f,o≠ .cells c e f):(setObj b o').run P w= .ok () {w with heap:=w.heap.setIfInBounds b o'}:=by
 unfold setObj
 cases o with
 |cells c e f=>exact absurd rfl (hn c e f)
 |_=>simp [Sem.run,hb]
theorem z9f (ht:P.underlying t=some (.map kt et)) (hk:P.underlying kt=some .string) (hb:w.heap[b]?=some (mobj (y0y l))) (x:Txt) (v:Value):
  (Instr.mapUpdate t (.map (some b)) (.string (str x)) v).run P w= .ok () {w with heap:=w.heap.setIfInBounds b (mobj (y0y (sput l x v)))}:=by
 have hf:=z0o (P:=P) (w:=w) (l:=l) hk x;have hi:=x35 x v l;have hs: ∀o',(setObj b o').run P w= .ok () {w with heap:=w.heap.setIfInBounds b o'}:=fun o'=>z5x hb (fun c e f h=>by cases h);unfold Instr.mapUpdate;simp only [Sem.run_bind,run_underlying ht w,Result.andThen_ok,z2r hb,y8p hk,hf]
 cases hq:l.findIdx? (·.1==x) with
 |none=>
  rw [hq] at hi;simp only [Option.bind_none];rw [hs,hi];simp [mobj,y0y,y20,List.zipIdx_append]
 |some k=>
  rw [hq] at hi;obtain ⟨hkl,hsp,hkx⟩:=hi;obtain ⟨p,hp⟩: ∃p,l[k]?=some p:=⟨_,Qad hkl⟩
  have hpx:p.1=x:=by simpa [hp] using hkx
  have hes:((y20 (y0y l)).toArray[k]?).map (·.key)=some (.string (str x)):=by simp [y20,y0y,hp,hpx]
  have hst:(Instr.keyThatStays (.string (str x)) (.string (str x))).run P w= .ok (.string (str x)) w:=by
   unfold Instr.keyThatStays;rw [if_pos (by simp [Instr.sameBits,y5e])];rfl
  simp only [Option.bind_some,hp,Option.map_some,Sem.run_bind,hes,Option.getD_some,hst,Result.andThen_ok,hs];rw [hsp];have:=x97 l k hkl (x,v)
  have hob:Obj.map ((y20 (y0y l)).toArray.modify k fun e=>{e with key:=.string (str x),val:=v}) l.length=mobj (y0y (l.set k (x,v))):=by
   unfold mobj;rw [this];simp [y0y]
  rw [←hob];simp [y0y]
end
section
variable {P : Program} {w0 w K : World} {M : List Ent} {ops : Array Oper} {rest : List Oper} {o : Oper} {a : Act} {Q : Exit → Act → World → Prop} {i b t kt et : Nat}
theorem Hp.mapAt (H:Hp w0 w K M) {l:List (Value×Value)} (hi:M[i]?=some (.map b l)):w.heap[b]?=some (mobj l):=H.ok _ (Qaf hi)
theorem Hp.mapSet (H:Hp w0 w K M) {l:List (Value×Value)} (hi:M[i]?=some (.map b l)) (l':List (Value×Value)):Hp w0 {w with heap:=w.heap.setIfInBounds b (mobj l')} K (M.set i (.map b l')):=by
 have hb:=H.mapAt hi;have hlt:=(Qan.1 hb).1;refine H.setAt hi ⟨rfl,rfl,rfl,by simp,fun k hk hne=>?_⟩ ?_ (.inl rfl)
 ·have hkb:b≠k:=fun e=>hne (by subst e;rfl);simp [hkb]
 ·simp [Ent.ok,hlt]
end
def nmap (ks:List Txt):List (Txt×Value):=ks.zipIdx.map fun p=>(p.1,.int .i64 p.2)
theorem y9c (x:Txt): ∀(ks:List Txt) (j:Nat),y5m (ks.zipIdx j |>.map fun p=>(p.1,(Value.int .i64 p.2:Value))) x=(ks.findIdx? (· ==x)).map fun i=>.int .i64 ((j+i:Nat):Int)
 |[],j=>rfl
 |k::r,j=>by
  by_cases h:k=x
  ·simp [y5m,h,List.findIdx?_cons]
  ·have ih:=y9c x r (j+1);simp only [y5m] at ih;have hb:(k==x)=false:=Qa3.2 h;simp only [y5m,List.zipIdx_cons,List.map_cons,List.find?_cons,hb,List.findIdx?_cons,Bool.false_eq_true,if_false,ih]
   cases r.findIdx? (· ==x) with
   |none=>rfl
   |some i=>simp;omega
theorem z0p (ks:List Txt) (x:Txt):y5m (nmap ks) x=(ks.findIdx? (· ==x)).map fun i=>.int .i64 ((i:Nat):Int):=by
 have:=y9c x ks 0;simpa [nmap] using this
theorem x36 (ks:List Txt) (x:Txt) (h:x∉ks):sput (nmap ks) x (.int .i64 (ks.length:Int))=nmap (ks++[x]):=by
 rw [q41]
 ·simp [nmap,List.zipIdx_append]
 ·rw [z0p]
  have:ks.findIdx? (· ==x)=none:=by
   rw [List.findIdx?_eq_none_iff];intro y hy;exact Qa3.2 (fun e=>h (e▸hy))
  rw [this];rfl
section
variable {P : Program} {w0 w K K' : World} {M N : List Ent} {ops : Array Oper} {Q : Exit → Act → World → Prop} {F : List Nat} {fuel : Nat} {listed : Array Bool} {a a' : Act} {oi : Oper} {v : Value} {S : World → Prop}
def AtL (P:Program) (ops:Array Oper) (Q:Exit→Act→World→Prop) (S:World→Prop) (F:List Nat) (fuel:Nat) (listed:Array Bool) (i:Nat) (a:Act) (w:World):Prop:=
 wpOp P ops Q i (fun a' w'=>(i∉F→S w')∧AnyL P .any ops Q S F fuel (listed.setIfInBounds i true) a' w') a w
theorem r2 (i j:Nat) (h1:AtL P ops Q S F fuel listed i a w) (h2:AtL P ops Q S F fuel listed j a w) (hr:Region.ready .any ops listed=[i,j]:=by kernel_rfl):AnyL P .any ops Q S F (fuel+1) listed a w:=
 ⟨fun h0=>(by rw [hr] at h0;cases h0),fun k hk=>by
   rw [hr] at hk;simp only [Qbd,List.mem_nil_iff,or_false] at hk;rcases hk with rfl|rfl
   ·exact h1
   ·exact h2⟩
theorem x98 {i:Nat} (ho:ops[i]?=some oi)
  (h: ∀K':Act→World→Prop,Shut (∀a w,(i∉F→S w)→((i∉F→S w)→AnyL P .any ops Q S F fuel (listed.setIfInBounds i true) a w)→K' a w)→if Region.wanted oi (yielded ops a.tmps)=true then Oper.wp P oi a w K' Q else K' (a.put oi.dst undef) w):AtL P ops Q S F fuel listed i a w:=
 wpOp_step ho (fun K' hK=>h K' (fun a w hS hW=>hK a w ⟨hS,hW hS⟩))
theorem aW {i:Nat} (H:Hp w0 w K' N) {v:Nat→Value} {N':Nat→List Ent} {a':Nat→Act} (h: ∀w' g,Hp w0 w' K' (N' g)→AnyL P .any ops Q (Ov w0 K M) F fuel (listed.setIfInBounds i true) (a' g) w') (hi:ops[i]?=some oi:=by (simp only [List.getElem?_toArray,List.getElem?_cons_zero,List.getElem?_cons_succ];try rfl))
  (hd:Does P oi a w0 w K' N v N':=by first|exact ds1|exact dsA|exact da|exact dbA|exact db1|exact dbA1|exact db11|exact dbS|fail)
  (ha: ∀g,a.put oi.dst (v g)=a' g:=by (intro g;simp only [Act.put,List.getElem_toArray,List.getElem_cons_zero,List.getElem_cons_succ,List.setIfInBounds_toArray,List.set_cons_zero,List.set_cons_succ];try rfl))
  (hgd:oi.guard=none:=by rfl) (hle:Sat K' K:=by first|exact Sat.refl _|assumption|fail) (hsf: ∀g,Inc M (N' g):=by (intro g;first|((repeat (first|exact n0|exact nN|apply nD))<;>fail)|((repeat (first|exact n0|exact nN|refine nS (by ((repeat (first|exact u0|apply uS))<;>fail)) ?_|apply nD))<;>fail)|fail)):AtL P ops Q (Ov w0 K M) F fuel listed i a w:=
 x98 hi fun Kq hKq=>by
  rw [if_pos (z7a hgd)];exact hd _ _ H fun w' g H'=>hKq.out _ _ (fun _=>⟨K',_,hle,H',hsf g⟩) (fun _=>by rw [ha g];exact h w' g H')
theorem aC {i:Nat} {f:FuncId} {xs:Array Value} {R:Ending→World→Prop} (hC:Calls P f xs w R) (h: ∀e w',R e w'→ ∃v a',e= .returned v∧a.put oi.dst v=a'∧Ov w0 K M w'∧AnyL P .any ops Q (Ov w0 K M) F fuel (listed.setIfInBounds i true) a' w')
  (hi:ops[i]?=some oi:=by (simp only [List.getElem?_toArray,List.getElem?_cons_zero,List.getElem?_cons_succ];try rfl)) (hrun:(execOp a.eval oi).run P w= .ok (.enter f xs) w:=by (go_simp;try with_reducible rfl)) (hw:Region.wanted oi (yielded ops a.tmps)=true:=by rfl):AtL P ops Q (Ov w0 K M) F fuel listed i a w:=
 x98 hi fun Kq hKq=>by
  rw [if_pos hw];unfold Oper.wp;rw [hrun,Oper.upon_enter];refine hC.mono fun e w' hR=>?_;obtain ⟨v,a',rfl,ha,hS,hW⟩:=h e w' hR;exact hKq.out _ _ (fun _=>hS) (fun _=>by rw [ha];exact hW)
end
set_option maxRecDepth 100000
set_option maxHeartbeats 40000000
attribute [local go_sem ↓] Go.wp_at_zero Go.wp_at_succ
instance scM87:Sc Tryz.prog 87:=⟨⟨_,Tryz.underlying87,rfl⟩⟩
instance scD22:Sc Tryz.prog 22:=⟨⟨_,Tryz.underlying22,rfl⟩⟩
abbrev tbox (g ga gd gf go:Nat) (VT VD:Value):Ent:=.box g [.int .i64 0,.bool false,.bool false,.bool false,.string ⟨#[]⟩,.string ⟨#[]⟩,.slice none 0 0,.slice none 0 0,.slice none 0 0,.slice none 0 0,.slice none 0 0,.slice none 0 0,.slice none 0 0,.bool false,.slice none 0 0,.int .i64 0,.int .i64 0,VT,.map (some ga),VD,.map (some gd),.map (some gf),.map (some go)] 91
theorem y0p (w:World):(zeroValue 3).run Tryz.prog w= .ok (.int .i64 0) w:=by kernel_rfl
theorem z4b {ks:List Txt} {x:Txt} (h:x∉ks):y5m (nmap ks) x=none:=by
 rw [z0p]
 have:ks.findIdx? (· ==x)=none:=by
  rw [List.findIdx?_eq_none_iff];intro y hy;exact Qa3.2 (fun e=>h (e▸hy))
 rw [this];rfl
theorem z9g {ks:List Txt} {x:Txt} (h:x∈ks): ∃i,ks[i]?=some x∧(∀j,j<i→ks[j]?≠some x)∧y5m (nmap ks) x=some (.int .i64 (i:Nat)):=by
 rw [z0p]
 cases hq:ks.findIdx? (· ==x) with
 |none=>
  rw [List.findIdx?_eq_none_iff] at hq;have:=hq x h;simp at this
 |some i=>
  rw [Qbs] at hq;obtain ⟨hi,h1,h2⟩:=hq;refine ⟨i,?_,?_,rfl⟩
  ·rw [Qad hi];exact congrArg some (eq_of_beq h1)
  ·intro j hj he;have:=h2 j hj;rw [Qad (by omega)] at he;injection he with he;simp [he] at this
section
variable {P : Program} {w0 w K : World} {M M' : List Ent} {a : Act} {o : Oper}
theorem dlM {t kt et:TypeId} {m x:Operand} {b i:Nat} {l:List (Txt×Value)} {k:Txt} {z r:Value} (ht:P.underlying t=some (.map kt et)) (hk:P.underlying kt=some .string) (hz: ∀w,(zeroValue et).run P w= .ok z w) (hr:Value.tuple #[(y5m l k).getD z,.bool (y5m l k).isSome]=r)
  (ho:o.op= .lookup t m x true:=by rfl) (hm:a.eval m= .map (some b):=by rfl) (hx:a.eval x= .string (str k):=by rfl) (hi:M[i]?=some (.map b (y0y l)):=by ((repeat (first|exact i0|apply iS))<;>fail)):z1g P o a K M r:=fun w0 w H=>by
 have hrun:=z9e (w:=w) ht hk z (hz w) (H.mapAt hi) k true;rw [if_pos rfl,hr] at hrun;unfold execOp;simp only [ho,hm,hx,Sem.run_bind,hrun,Result.andThen_ok,Sem.run_pure]
theorem dsM {t kt et:TypeId} {m x y:Operand} {b i:Nat} {l l':List (Txt×Value)} {k:Txt} {v:Value} (ht:P.underlying t=some (.map kt et)) (hk:P.underlying kt=some .string) (hl:sput l k v=l')
  (ho:o.op= .mapUpdate t m x y:=by rfl) (hm:a.eval m= .map (some b):=by rfl) (hx:a.eval x= .string (str k):=by rfl) (hy:a.eval y=v:=by rfl) (hi:M[i]?=some (.map b (y0y l)):=by ((repeat (first|exact i0|apply iS))<;>fail)) (hM:M.set i (.map b (y0y l'))=M':=by (dsimp only [List.set];try rfl)):Does P o a w0 w K M (fun _=>undef) (fun _=>M'):=fun C Q H h=>by
 have hrun:=z9f (w:=w) ht hk (H.mapAt hi) k v;rw [hl] at hrun;unfold Oper.wp execOp;simp only [ho,hm,hx,hy,Sem.run_bind,hrun,Result.andThen_ok,Sem.run_pure];exact h _ 0 (hM▸H.mapSet hi _)
end
theorem x1t (d:DefD) (cs:Array Value) (ks:List Txt) (g ga gd gf go:Nat) (VT VD:Value) (w0 w K:World) (M:List Ent) (H:Hp w0 w K (tbox g ga gd gf go VT VD:: .map ga (y0y (nmap ks))::M)) (hd:RL K (defL d) cs.toList) (hin:d.name∈ks):
  Calls Tryz.prog 59 #[.pointer (some ⟨g,0,none⟩),.agg cs] w fun e w'=>e= .returned (.tuple #[])∧Hp w0 w' K (tbox g ga gd gf go VT VD:: .map ga (y0y (nmap ks))::M):=by
 obtain ⟨A6,c6,A7,c7,A8,c8,A9,c9,A10,c10,A11,c11,A12,c12,A14,c14,hcs,-⟩:=y0h hd;obtain rfl:cs= #[_,_,_,_,_,_,_,_,_,_,_,_,_,_,_,_,_]:=Qal.1 hcs;obtain ⟨i,-,-,hf⟩:=z9g hin;clear hcs hd;go_enter Tryz.func59,Tryz.ntmps59
 go_upto_region 1 with (first|(refine oL H ?_)|(refine oA 3 H ?_;clear H;intro w g3 H)|(refine oP H ?_;clear H;intro w _ H))
 refine rB [] H ?_;clear H;intro w H;refine rT 0 H ?_;refine rT 1 H ?_;refine rT 2 H ?_;refine rT 3 H ?_;refine rT 4 H ?_;refine rT 5 H ?_;refine rT 6 H ?_ (hd:=dlM Tryz.underlying87 Tryz.underlying9 y0p (by rw [hf]));refine rT 7 H ?_;refine rT 8 H ?_;refine rT 9 H ?_;refine rT 10 H ?_;refine rT 11 H ?_;refine rE ?_
 go_wp2_with fail
 refine o0 ?_;exact ⟨rfl,H.fin⟩
def AddT (d:DefD) (ks:List Txt) (g ga gd gf go:Nat) (VD:Value) (xT:List Value) (w0 K:World) (M:List Ent) (e:Ending) (w':World):Prop:=
 ∃K' V VT',e= .returned (.tuple #[])∧Sat K' K∧Hp w0 w' K' (tbox g ga gd gf go VT' VD:: .map ga (y0y (nmap (ks++[d.name]))):: .row 43 17 VT' (ks.length+1) (xT++DV.cells d V)::DV.rows d V++M)∧V.ok K' d
theorem x1u (d:DefD) (cs:Array Value) (ks:List Txt) (g ga gd gf go:Nat) (VT VD:Value) (xT:List Value) (w0 w K:World) (M:List Ent) (H:Hp w0 w K (tbox g ga gd gf go VT VD:: .map ga (y0y (nmap ks)):: .row 43 17 VT ks.length xT::M)) (hd:RL K (defL d) cs.toList) (hin:d.name∉ks) (hm:defN d≤9000000) (hk:ks.length≤9000000):
  Calls Tryz.prog 59 #[.pointer (some ⟨g,0,none⟩),.agg cs] w (AddT d ks g ga gd gf go VD xT w0 K M):=by
 obtain ⟨A6,c6,A7,c7,A8,c8,A9,c9,A10,c10,A11,c11,A12,c12,A14,c14,hcs,-⟩:=y0h hd;obtain rfl:cs= #[_,_,_,_,_,_,_,_,_,_,_,_,_,_,_,_,_]:=Qal.1 hcs;have hf:=z4b hin;have hput:=x36 ks d.name hin;obtain ⟨VA,Vc,rfl,-,-⟩:=H.slice (i:=2) rfl;clear hcs;go_enter Tryz.func59,Tryz.ntmps59
 go_upto_region 1 with (first|(refine oL H ?_)|(refine oA 3 H ?_;clear H;intro w g3 H)|(refine oP H ?_;clear H;intro w _ H))
 refine rB [] H ?_;clear H;intro w H;refine rT 0 H ?_;refine rT 1 H ?_;refine rT 2 H ?_;refine rT 3 H ?_;refine rT 4 H ?_;refine rT 5 H ?_;refine rT 6 H ?_ (hd:=dlM Tryz.underlying87 Tryz.underlying9 y0p (by rw [hf]));refine rT 7 H ?_;refine rT 8 H ?_;refine rT 9 H ?_;refine rT 10 H ?_;refine rT 11 H ?_;refine rE ?_
 go_wp2_with fail
 refine rB [11] H ?_;clear H;intro w H;refine rT 0 H ?_;refine rT 1 H ?_;refine rT 2 H ?_;refine rT 3 H ?_;refine rT 4 H ?_;refine rT 5 H ?_;refine rT 6 H ?_;refine rT 7 H ?_;refine rT 8 H ?_;refine rT 9 H ?_;refine rT 10 H ?_;refine rL 11 H ?_ (hd:=dsM Tryz.underlying87 Tryz.underlying9 hput);clear H;intro w _ H;refine rE ?_
 go_wp2_with fail
 refine rN [.box g3 _ _,.box g _ _] [11] H ?_;clear H;intro w H;refine rT 0 H ?_;refine rT 1 H ?_;refine rT 2 H ?_;refine rT 3 H ?_;refine rT 4 H ?_;refine rT 5 H ?_;refine rC 6 (y75 d _ H hm hd) ?_;clear H;rintro e w ⟨K5,V,rfl,hle,H,hV⟩;have ho:=x3x H;replace H:Hp _ _ _ (.row 52 10 V.v8 d.fields.length V.x8:: .row 133 7 V.v11 d.values.length V.x11:: .row 113 3 V.v6 d.ifaces.length V.x6:: .row 113 3 V.v10 d.members.length V.x10:: .row 113 3 V.v14 d.places.length V.x14:: .row 100 4 V.v12 d.roots.length V.x12:: .row 123 17 V.v9 d.inputs.length V.x9:: .row 181 4 V.v7 d.dirs.length V.x7::_):=H;refine rX H ?_ (v:=.agg #[.int .i64 d.kind,.bool d.ext,.bool d.note.has,.bool d.note.block,.string (str d.note.text),.string (str d.name),V.v6,V.v7,V.v8,V.v9,V.v10,V.v11,V.v12,.bool d.rep,V.v14,.int .i64 d.line,.int .i64 d.col]);refine rW 7 H ?_;clear H;intro w g7 H;refine rA 8 H ?_ (h1:=ho);clear H;intro A8 c8 w _ _ H;dsimp only [List.set] at H;refine rT 9 H ?_;refine rT 10 H ?_;refine rL 11 H ?_;clear H;intro w _ H;refine rE ?_
 go_wp2_with fail
 refine o0 ?_;exact ⟨K5,V,_,rfl,hle,(show Hp _ _ _ (tbox _ _ _ _ _ _ _::_::_:: .row 52 10 V.v8 d.fields.length V.x8:: .row 133 7 V.v11 d.values.length V.x11:: .row 113 3 V.v6 d.ifaces.length V.x6:: .row 113 3 V.v10 d.members.length V.x10:: .row 113 3 V.v14 d.places.length V.x14:: .row 100 4 V.v12 d.roots.length V.x12:: .row 123 17 V.v9 d.inputs.length V.x9:: .row 181 4 V.v7 d.dirs.length V.x7::M) from H.fin),hV⟩
theorem x6q (d:DefD) (cs:Array Value) (ks:List Txt) (g ga gd gf go:Nat) (VT VD:Value) (w0 w K:World) (M:List Ent) (H:Hp w0 w K (tbox g ga gd gf go VT VD:: .map gd (y0y (nmap ks))::M)) (hd:RL K (defL d) cs.toList) (hin:d.name∈ks):
  Calls Tryz.prog 58 #[.pointer (some ⟨g,0,none⟩),.agg cs] w fun e w'=>e= .returned (.tuple #[])∧Hp w0 w' K (tbox g ga gd gf go VT VD:: .map gd (y0y (nmap ks))::M):=by
 obtain ⟨A6,c6,A7,c7,A8,c8,A9,c9,A10,c10,A11,c11,A12,c12,A14,c14,hcs,-⟩:=y0h hd;obtain rfl:cs= #[_,_,_,_,_,_,_,_,_,_,_,_,_,_,_,_,_]:=Qal.1 hcs;obtain ⟨i,-,-,hf⟩:=z9g hin;clear hcs hd;go_enter Tryz.func58,Tryz.ntmps58
 go_upto_region 1 with (first|(refine oL H ?_)|(refine oA 3 H ?_;clear H;intro w g3 H)|(refine oP H ?_;clear H;intro w _ H))
 refine rB [] H ?_;clear H;intro w H;refine rT 0 H ?_;refine rT 1 H ?_;refine rT 2 H ?_;refine rT 3 H ?_;refine rT 4 H ?_;refine rT 5 H ?_;refine rT 6 H ?_ (hd:=dlM Tryz.underlying87 Tryz.underlying9 y0p (by rw [hf]));refine rT 7 H ?_;refine rT 8 H ?_;refine rT 9 H ?_;refine rT 10 H ?_;refine rT 11 H ?_;refine rE ?_
 go_wp2_with fail
 refine o0 ?_;exact ⟨rfl,H.fin⟩
def AddD (d:DefD) (ks:List Txt) (g ga gd gf go:Nat) (VT:Value) (xD:List Value) (w0 K:World) (M:List Ent) (e:Ending) (w':World):Prop:=
 ∃K' xs VD',e= .returned (.tuple #[])∧Sat K' K∧Hp w0 w' K' (tbox g ga gd gf go VT VD':: .map gd (y0y (nmap (ks++[d.name]))):: .row 43 17 VD' (ks.length+1) (xD++xs)::M)∧RL K' (defL d) xs
theorem x6r (d:DefD) (cs:Array Value) (ks:List Txt) (g ga gd gf go:Nat) (VT VD:Value) (xD:List Value) (w0 w K:World) (M:List Ent) (H:Hp w0 w K (tbox g ga gd gf go VT VD:: .map gd (y0y (nmap ks)):: .row 43 17 VD ks.length xD::M)) (hd:RL K (defL d) cs.toList) (hin:d.name∉ks) (hm:defN d≤9000000) (hk:ks.length≤9000000):
  Calls Tryz.prog 58 #[.pointer (some ⟨g,0,none⟩),.agg cs] w (AddD d ks g ga gd gf go VT xD w0 K M):=by
 obtain ⟨A6,c6,A7,c7,A8,c8,A9,c9,A10,c10,A11,c11,A12,c12,A14,c14,hcs,-⟩:=y0h hd;obtain rfl:cs= #[_,_,_,_,_,_,_,_,_,_,_,_,_,_,_,_,_]:=Qal.1 hcs;have hf:=z4b hin;have hput:=x36 ks d.name hin;obtain ⟨VA,Vc,rfl,-,-⟩:=H.slice (i:=2) rfl;clear hcs;go_enter Tryz.func58,Tryz.ntmps58
 go_upto_region 1 with (first|(refine oL H ?_)|(refine oA 3 H ?_;clear H;intro w g3 H)|(refine oP H ?_;clear H;intro w _ H))
 refine rB [] H ?_;clear H;intro w H;refine rT 0 H ?_;refine rT 1 H ?_;refine rT 2 H ?_;refine rT 3 H ?_;refine rT 4 H ?_;refine rT 5 H ?_;refine rT 6 H ?_ (hd:=dlM Tryz.underlying87 Tryz.underlying9 y0p (by rw [hf]));refine rT 7 H ?_;refine rT 8 H ?_;refine rT 9 H ?_;refine rT 10 H ?_;refine rT 11 H ?_;refine rE ?_
 go_wp2_with fail
 refine rB [11] H ?_;clear H;intro w H;refine rT 0 H ?_;refine rT 1 H ?_;refine rT 2 H ?_;refine rT 3 H ?_;refine rT 4 H ?_;refine rT 5 H ?_;refine rT 6 H ?_;refine rT 7 H ?_;refine rT 8 H ?_;refine rT 9 H ?_;refine rT 10 H ?_;refine rL 11 H ?_ (hd:=dsM Tryz.underlying87 Tryz.underlying9 hput);clear H;intro w _ H;refine rE ?_
 go_wp2_with fail
 refine rN [.box g3 _ _,.box g _ _] [11] H ?_;clear H;intro w H;refine rT 0 H ?_;refine rT 1 H ?_;refine rT 2 H ?_;refine rT 3 H ?_;refine rT 4 H ?_;refine rT 5 H ?_;refine rC 6 (y6f d _ H hm hd) ?_;clear H;rintro e w ⟨K5,cs5,rfl,hle,H,he⟩;have ho:=he.one;obtain ⟨B6,e6,B7,e7,B8,e8,B9,e9,B10,e10,B11,e11,B12,e12,B14,e14,hcs,-⟩:=y0h he;obtain rfl:cs5= #[_,_,_,_,_,_,_,_,_,_,_,_,_,_,_,_,_]:=Qal.1 hcs;clear hcs;refine rX H ?_;refine rW 7 H ?_;clear H;intro w g7 H;refine rA 8 H ?_ (h1:=ho);clear H;intro A8 c8 w _ _ H;dsimp only [List.set] at H;refine rT 9 H ?_;refine rT 10 H ?_;refine rL 11 H ?_;clear H;intro w _ H;refine rE ?_
 go_wp2_with fail
 refine o0 ?_;exact ⟨K5,_,_,rfl,hle,H.fin,he⟩
end Go.Proofs.YtbpgkkoeehopjaaGreat.hp
