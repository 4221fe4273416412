/- Part 7 of a proof: see the text that holds the statement. -/
import Derived.Test.YtbpgkkoeehopjaaGreatP2
import Derived.Test.YtbpgkkoeehopjaaGreatP3
import Derived.Test.YtbpgkkoeehopjaaGreatP5
import Derived.Deep.LoopGhost
set_option linter.unusedVariables false
set_option linter.unusedSimpArgs false
namespace Go.Proofs.YtbpgkkoeehopjaaGreat.hp
open Go.RowKit words enc tree gram lex rd dec dat held
set_option maxRecDepth 100000
set_option maxHeartbeats 40000000
attribute [local go_sem ↓] Go.wp_at_zero Go.wp_at_succ
section
variable {w0 w K : World} {M : List Ent}
theorem q4y {α:Type} {f:α→List Leaf} {d:α} {vs:List Value} (h:RL K (f d) vs):RL K ([d].flatMap f) vs:=by rw [List.flatMap_singleton];exact h
theorem el_k {α:Type} {f:α→List Leaf} {m n c k:Nat} {A:Option Addr} {l:List α} (hf: ∀x,(f x).length=m) (h:RD K (.list n (l.flatMap f)) (.slice A n c)) (hk:k<l.length) (hm:0<m):
  ∃x ad us,l[k]?=some x∧A=some ad∧RL K (f x) us∧At K (ad.add (k*m)) us:=by
 obtain ⟨ad,us,h1,h2,_,_,h5,h6⟩:=y74 hf h (Qad hk) hm;exact ⟨_,ad,us,Qad hk,h1,h2,h5,h6⟩
theorem wr_k {k n:Nat} (h:k<n) (hn:n≤9000000):(k:Int)<(n:Int)∧IntKind.i64.wrap ((k:Int)+1)=k+1:=⟨by omega,IntWalk.i64_in _ (by omega)⟩
theorem z5v: ∀(m:Nat) (d:LitD) (cs:Array Value) (w0 w K:World) (M:List Ent),litN d≤m→m≤9000000→RL K (litL d) cs.toList→Hp w0 w K M→
  Calls Tryz.prog 152 #[.agg cs] w fun e w'=>∃K' cs',e= .returned (.agg cs')∧Sat K' K∧Hp w0 w' K' M∧RL K' (litL d) cs'.toList:=by
 intro m
 induction m with
 |zero=>intro d cs w0 w K M h;have:=y8j d;omega
 |succ m ih=>
 intro d cs w0 w K M hn hm hd H;obtain ⟨kind,text,block,items,fields,line,col⟩:=d;obtain ⟨Ai,ci,Af,cf,hcs,hi,hf⟩:=y0l hd;obtain rfl:cs= #[_,_,_,_,_,_,_]:=Qal.1 hcs
 have hni:items.length≤9000000:=by have:=z67 items;simp only [litN] at hn;omega
 have hnf:fields.length≤9000000:=by have:=y72 fields;simp only [litN] at hn;omega
 have HI:=hide (show ∀x∈items,litN x≤m from fun x hx=>by obtain ⟨k,hk⟩:=Qaq hx;have:=x1q hk;simp only [litN] at hn;omega);have HF:=hide (show ∀x∈fields,pairN x≤m from fun x hx=>by obtain ⟨k,hk⟩:=Qaq hx;have:=z0i hk;simp only [litN] at hn;omega);have HIH:=hide ih;rw [y8g] at hi;rw [y4l] at hf;clear ih hcs hd hn;obtain ⟨ni,hni2⟩: ∃x,items.length=x:=⟨_,rfl⟩;obtain ⟨nf,hnf2⟩: ∃x,fields.length=x:=⟨_,rfl⟩;rw [hni2] at hi hni ⊢;rw [hnf2] at hf hnf ⊢;have HNI:=hide hni2;have HNF:=hide hnf2;clear hni2 hnf2;go_enter Tryz.func152,Tryz.ntmps152
 go_wp2_with (first|(refine oL H ?_)|(refine oA 1 H ?_;clear H;intro w gv H)|(refine oA 2 H ?_;clear H;intro w gz H)|(refine oA 3 H ?_;clear H;intro w gw H)|(refine oP H ?_;clear H;intro w _ H))
 replace H:=H.nilRow 121 7
 go_loopw [14] (fun i wr=>∃(K':World) (k:Nat) (A':Option Addr) (c':Nat) (vs:List Value),k≤ni∧i= .int .i64 k∧Sat K' K∧RL K' (litsL (items.take k)) vs∧Hp w0 wr K' (.row 121 7 (.slice A' k c') k vs:: .box gw [.int .i64 kind,.string (str text),.bool block,.slice A' k c',.slice none 0 0,.int .i64 line,.int .i64 col] 121:: .box gz [.int .i64 0,.string ⟨#[]⟩,.bool false,.slice none 0 0,.slice none 0 0,.int .i64 0,.int .i64 0] 121:: .box gv [.int .i64 kind,.string (str text),.bool block,.slice Ai ni ci,.slice Af nf cf,.int .i64 line,.int .i64 col] 121::M)) (fun i _=>ni - (intOf i).toNat)
 case atStart=>exact ⟨K,0,none,0,[],Qak _,rfl,Sat.refl _,.nil (Qab _),H⟩
 case round=>
  clear H;obtain ⟨K',k,A',c',vs,hk,rfl,hle,hvs,H⟩:=hrel;replace hi:=hi.sat hle;replace hf:=hf.sat hle;by_cases hlt:k<ni
  ·obtain ⟨x,ad,us,hx,rfl,hxl,hat⟩:=el_k y6w hi (by rw [HNI.out];exact hlt) (by decide);obtain ⟨hkI,hwr⟩:=wr_k hlt hni;have hxn:=HI.out x (Qaf hx);have HX:=hide (y1l hx);obtain ⟨dk,dt,db,di,df,dln,dcl⟩:=x;obtain ⟨Xi,xi,Xf,xf,rfl,-,-⟩:=y0l hxl;have hc:=fun {w M} (h:Hp w0 w K' M)=>HIH.out _ #[_,_,_,_,_,_,_] w0 w K' M hxn (by omega) hxl h;clear hx
   go_wp2_with (first|(refine oL H ?_)|(refine oA 5 H ?_;clear H;intro w gx H)|(refine oP H ?_;clear H;intro w _ H))
   refine rN [.box gw _ _,.box gx _ _] [7] H ?_;clear H;intro w H;refine rT 0 H ?_;refine rT 1 H ?_;refine rT 2 H ?_;refine rC 3 (hc H) ?_;clear H;rintro e w ⟨K2,cs,rfl,hle2,H,he⟩;obtain ⟨Bi,bi,Bf,bf,hcs,-,-⟩:=y0l he;obtain rfl:cs= #[_,_,_,_,_,_,_]:=Qal.1 hcs;clear hcs;refine rX H ?_;refine rW 4 H ?_;clear H;intro w _ H;refine rA 5 H ?_;clear H;intro A' c' w _ _ H;dsimp only [List.set] at H;refine rT 6 H ?_;refine rL 7 H ?_;clear H;intro w _ H;refine rE ?_
   go_wp2_with (first|(refine oL H ?_)|(refine oP H ?_;clear H;intro w _ H))
   go_roundw
   case rel=>exact ⟨K2,k+1,_,_,_,by omega,by go_num,hle2.trans hle,by rw [HX.out,z85];exact (hvs.sat hle2).app (by simpa [litsL] using he),H.fin⟩
   case measure=>simp [intOf];omega
  ·obtain rfl:k=ni:=by omega
   rw [Qaj (by rw [HNI.out];exact Qab _)] at hvs;clear hlt hi
   go_wp2_with (first|(refine oL H ?_)|(refine oP H ?_;clear H;intro w _ H))
   replace H:=H.nilRow 219 10
   go_loopw [29] (fun i wr=>∃(K2:World) (j:Nat) (A2:Option Addr) (c2:Nat) (vs2:List Value),j≤nf∧i= .int .i64 j∧Sat K2 K'∧RL K2 (pairsL (fields.take j)) vs2∧Hp w0 wr K2 (.row 219 10 (.slice A2 j c2) j vs2:: .row 121 7 (.slice A' k c') k vs:: .box gw [.int .i64 kind,.string (str text),.bool block,.slice A' k c',.slice A2 j c2,.int .i64 line,.int .i64 col] 121:: .box gz [.int .i64 0,.string ⟨#[]⟩,.bool false,.slice none 0 0,.slice none 0 0,.int .i64 0,.int .i64 0] 121::M)) (fun i _=>nf - (intOf i).toNat)
   case atStart=>exact ⟨K',0,none,0,[],Qak _,rfl,Sat.refl _,.nil (Qab _),H.fin⟩
   case round=>
    clear H;obtain ⟨K2,j,A2,c2,vs2,hj,rfl,hle2,hvs2,H⟩:=hrel;replace hf:=hf.sat hle2;by_cases hlt:j<nf
    ·obtain ⟨x,ad,us,hx,rfl,hxl,hat⟩:=el_k y4k hf (by rw [HNF.out];exact hlt) (by decide);obtain ⟨hkI,hwr⟩:=wr_k hlt hnf;have hxn:=HF.out x (Qaf hx);have HX:=hide (y1l hx);obtain ⟨pn,⟨dk,dt,db,di,df,dln,dcl⟩,pl,pc⟩:=x;obtain ⟨ls,rfl,hvl⟩:=y2n hxl;obtain ⟨Xi,xi,Xf,xf,rfl,-,-⟩:=y0l hvl;have hc:=fun {w M} (h:Hp w0 w K2 M)=>HIH.out _ #[_,_,_,_,_,_,_] w0 w K2 M (by simp only [pairN] at hxn;omega) (by omega) hvl h;simp only [List.cons_append,List.nil_append] at hat;clear hx hxl
     go_wp2_with (first|(refine oL H ?_)|(refine oA 7 H ?_;clear H;intro w gx H)|(refine oP H ?_;clear H;intro w _ H))
     refine rN [.box gw _ _,.box gx _ _] [13] H ?_;clear H;intro w H;refine rT 0 H ?_;refine rT 1 H ?_;refine rT 2 H ?_;refine rT 3 H ?_;refine rT 4 H ?_;refine rT 5 H ?_;refine rT 7 H ?_;refine rT 8 H ?_;refine rC 6 (hc H) ?_;clear H;rintro e w ⟨K3,cs,rfl,hle3,H,he⟩;obtain ⟨Bi,bi,Bf,bf,hcs,-,-⟩:=y0l he;obtain rfl:cs= #[_,_,_,_,_,_,_]:=Qal.1 hcs;clear hcs;refine rX H ?_;refine rT 9 H ?_;refine rW 10 H ?_;clear H;intro w _ H;refine rA 11 H ?_;clear H;intro A2 c2 w _ _ H;dsimp only [List.set] at H;refine rT 12 H ?_;refine rL 13 H ?_;clear H;intro w _ H;refine rE ?_;have hpe:RL K3 (pairL (.mk pn (.mk dk dt db di df dln dcl) pl pc)) [.string (str pn),.int .i64 dk,.string (str dt),.bool db,.slice Bi di.length bi,.slice Bf df.length bf,.int .i64 dln,.int .i64 dcl,.int .i64 pl,.int .i64 pc]:=DatL.lit (DatL.app he (DatL.lit (DatL.lit (DatL.nil he.le))))
     go_wp2_with (first|(refine oL H ?_)|(refine oP H ?_;clear H;intro w _ H))
     go_roundw
     case rel=>exact ⟨K3,j+1,_,_,_,by omega,by go_num,hle3.trans hle2,by rw [HX.out,y8h];exact (hvs2.sat hle3).app (by simpa [pairsL] using hpe),H.fin⟩
     case measure=>simp [intOf];omega
    ·obtain rfl:j=nf:=by omega
     rw [Qaj (by rw [HNF.out];exact Qab _)] at hvs2
     go_wp2_with (first|(refine oL H ?_)|(refine oP H ?_;clear H;intro w _ H))
     refine oB H ?_;replace H:Hp _ _ _ (.row 219 10 _ _ _:: .row 121 7 _ _ _::M):=H.fin;obtain ⟨K3,hle3,H,hd2⟩:=H.freezeRow hvs2;obtain ⟨K4,hle4,H,hd1⟩:=H.freezeRow (hvs.sat (hle3.trans hle2));refine ⟨K4,_,rfl,hle4.trans (hle3.trans (hle2.trans hle)),H,y3o ?_ ?_⟩
     ·rw [HNI.out];exact hd1
     ·rw [HNF.out];exact hd2.sat hle4
end
open ln lines
instance scRune:Sc Tryz.prog 21:=⟨⟨_,Tryz.underlying21,rfl⟩⟩
instance scRunes:Sc Tryz.prog 187:=⟨⟨_,Tryz.underlying187,rfl⟩⟩
instance sliRune:Sli Tryz.prog 187 21 1 4:=⟨sli Tryz.underlying187 (z:=.int .i32 0) (by kernel_rfl)⟩
instance sliRunes:Sli Tryz.prog 260 187 1 24:=⟨sli Tryz.underlying260 (z:=.slice none 0 0) (by kernel_rfl)⟩
def y25 (x:List Int):List Leaf:=x.map fun z=>.lit (.int .i32 z)
def x6j (x:List Int):List Leaf:=[.list x.length (y25 x)]
abbrev y9a (ls:List (List Int)):List Leaf:=ls.flatMap x6j
abbrev rv (x:List Int):List Value:=x.map (Value.int .i32)
section
variable {w0 w K : World} {M : List Ent}
theorem z0l (x:List Int):(y25 x).length=x.length:=by simp [y25]
theorem z2q: ∀(x:List Int),RL K (y25 x) (rv x)
 |[]=>.nil (Qab _)
 |z::x=>.lit (z2q x)
theorem y8m: ∀{x:List Int} {us:List Value},RL K (y25 x) us→us=rv x
 |[],us,h=>h.nil_inv
 |z::x,us,h=>by
  obtain ⟨r,rfl,h'⟩:=DatL.lit_inv (show RL K (.lit (.int .i32 z)::y25 x) us from h);rw [y8m h'];rfl
theorem z30 {x:List Int} {n c:Nat} {A:Option Addr} (H:Hp w0 w K M) (h:RD K (.list n (y25 x)) (.slice A n c)):Rd w w.heap.size A (rv x):=by
 obtain ⟨us,h1,h2,_,_⟩:=x9r H h;rw [←y8m h1];exact h2
theorem z31 {ls:List (List Int)} {n c k:Nat} {A:Option Addr} {x:List Int} (h:RD K (.list n (y9a ls)) (.slice A n c)) (hx:ls[k]?=some x):
  ∃ad A' c',A=some ad∧K.cell? (ad.add k)=some (.slice A' x.length c')∧RD K (.list x.length (y25 x)) (.slice A' x.length c'):=by
 obtain ⟨ad,vs,h1,h2,_,_,h5,_⟩:=y74 (m:=1) (f:=x6j) (fun _=>rfl) h hx (by omega);obtain ⟨A',c',r,rfl,hd,_⟩:=h2.list_inv;refine ⟨ad,A',c',h1,?_,hd⟩;have:=h5 _ rfl;rwa [Nat.mul_one] at this
theorem ReadsL.drop1 {S:Nat→Prop} {α:Type} {f:α→List Leaf} (hf: ∀x,(f x).length=1): ∀(a:Nat) (l:List α) (us:List Value),ReadsL K S (l.flatMap f) us→ReadsL K S ((l.drop a).flatMap f) (us.drop a)
 |0,l,us,h=>h
 |a+1,[],us,h=>by
  have:us=[]:=by simpa [ReadsL] using h
  subst this;simp [ReadsL]
 |a+1,x::l,us,h=>by
  rw [List.flatMap_cons] at h;obtain ⟨t,ht⟩: ∃t,f x=[t]:=List.length_eq_one_iff.1 (hf x);rw [ht,List.singleton_append,ReadsL] at h;obtain ⟨v,r,rfl,_,h2⟩:=h;exact ReadsL.drop1 hf a l r h2
theorem ReadsL.take1 {S:Nat→Prop} {α:Type} {f:α→List Leaf} (hf: ∀x,(f x).length=1): ∀(a:Nat) (l:List α) (us:List Value),ReadsL K S (l.flatMap f) us→ReadsL K S ((l.take a).flatMap f) (us.take a)
 |0,l,us,h=>by simp [ReadsL]
 |a+1,[],us,h=>by
  have:us=[]:=by simpa [ReadsL] using h
  subst this;simp [ReadsL]
 |a+1,x::l,us,h=>by
  rw [List.flatMap_cons] at h;obtain ⟨t,ht⟩: ∃t,f x=[t]:=List.length_eq_one_iff.1 (hf x);rw [ht,List.singleton_append,ReadsL] at h;obtain ⟨v,r,rfl,h1,h2⟩:=h;rw [List.take_succ_cons,List.take_succ_cons,List.flatMap_cons,ht,List.singleton_append,ReadsL];exact ⟨v,_,rfl,h1,ReadsL.take1 hf a l r h2⟩
theorem RD.cut {α:Type} {f:α→List Leaf} (hf: ∀x,(f x).length=1) {l:List α} {n c a b:Nat} {A:Option Addr} (h:RD K (.list n (l.flatMap f)) (.slice A n c)) (hb:b≤n) (ha:a≤b):
  RD K (.list (b - a) (((l.take b).drop a).flatMap f)) (.slice (A.map (·.add a)) (b - a) (c - a)):=by
 obtain ⟨A',c',us,he,h1,h2,hr,hs⟩:=y0k h.reads;injection he with e1 e2 e3;subst e1 e3;refine ⟨y19 (by omega) (by omega) (ReadsL.drop1 hf a _ _ (ReadsL.take1 hf b _ _ hr)) (fun hn=>?_),h.le⟩;obtain ⟨ad,rfl,hS,hc⟩:=hs (by rintro rfl;simp at hn);refine ⟨ad.add a,rfl,by rw [y55];exact hS,fun j u hu=>?_⟩;rw [x08];refine hc _ u ?_;rw [Qbc,Qbb] at hu;split at hu
 ·exact hu
 ·cases hu
theorem RD.none {n:Nat} {A:Option Addr} (hn:n=0) {c:Nat} (hc:c≤maxLen):RD K (.list n []) (.slice A n c):=by
 subst hn;exact ⟨y19 (Qak _) hc ReadsL.nil (fun h=>absurd rfl h),Qab _⟩
variable {P : Program} {ops : Array Oper} {rest : List Oper} {o : Oper} {a : Act} {Q : Exit → Act → World → Prop}
theorem oQm (m:Nat) {g:Nat} {us:List Value} {e:TypeId} (H:Hp w0 w K (.box g us e::M)) {s x:Operand} {t:TypeId} {size bytes n i:Nat} {v:Value} {vs:List Value} {a':Option Addr→Nat→Act}
  (h: ∀A' c' w',n+m≤c'→c'≤maxLen→Hp w0 w' K (M.set i (.row e size (.slice A' (n+m) c') (n+m) (vs++us)))→wpList P ops Q rest (a' A' c') w')
  (ho:o.op= .call {callee:=.builtin .append,args:= #[s,x],argTypes:= #[t,t]}:=by rfl) (hx:a.eval x= .slice (some ⟨g,0,none⟩) m m:=by rfl) (hsl:Sli P t e size bytes:=by infer_instance) (hs:a.eval s=v:=by first|rfl|(simp [Act.eval,Act.put];done)|fail)
  (hi:M[i]?=some (.row e size v n vs):=by ((repeat (first|exact i0|apply iS))<;>fail)) (hl:us.length=m*size:=by rfl) (h1: ∀u∈us,u.oneCell'=true:=by first|(simp [Value.oneCell'];done)|assumption|fail)
  (hb:(n+m)*bytes≤140737488355328:=by omega) (ha: ∀A' c',a.put o.dst (.slice A' (n+m) c')=a' A' c':=by (intro A c;simp only [Act.put,List.setIfInBounds_toArray,List.set_cons_zero,List.set_cons_succ];try rfl)) (hgd:o.guard=none:=by rfl):wpList P ops Q (o::rest) a w:=by
 obtain ⟨ti,z,hu,hti,hz,hsz,hby,hzs,h0,hb0⟩:=hsl.h;have hmul:(n+m)*1≤(n+m)*bytes:=Qb2 _ hb0;refine y4p hgd s x t ho e ti z size bytes hu hti hz hsz hby hzs h0 H (i+1) v n vs (by simpa using hi) hs (some ⟨g,0,none⟩) m m us hx hl (H.rd (i:=0) rfl) h1 (by simp only [maxLen];omega) hb fun v' w' H'=>?_;have hlt:i<M.length:=(Qac.1 hi).1
 have H2:Hp w0 w' K (M.set i (.row e size v' (n+m) (vs++us))):=by simpa using H'.tail
 obtain ⟨A',c',rfl,h2,h3⟩:=H2.slice (i:=i) (Qbv hlt);rw [ha A' c'];exact h A' c' w' h2 h3 H2
end
section
variable {w0 w K : World} {M : List Ent}
theorem x9z {ls:List (List Int)} {n c:Nat} {A:Option Addr} (hl:ls.length=n) (hn:n≤4194304) (hx: ∀x∈ls,x.length≤4194304) (hd:RD K (.list n (y9a ls)) (.slice A n c)) (H:Hp w0 w K M):
  Calls Tryz.prog 215 #[.slice A n c] w fun e w'=>e= .returned (.int .i64 (y5x ls))∧w'=w:=by
 obtain ⟨r,hr⟩: ∃r,y5x ls=r:=⟨_,rfl⟩;rw [hr];unfold y5x at hr;obtain ⟨q,hq⟩: ∃q,y7v (ls.drop 1) (-1)=q:=⟨_,rfl⟩;rw [hq] at hr;have HQ:=hide hq;have HN:=hide hl;have HX:=hide hx;clear hq hl hx;go_enter Tryz.func215,Tryz.ntmps215
 go_wp2_with fail
 go_loopw [3,4,5] (fun lv iv _ wr=>∃(k:Nat) (l:Int),(k≤n∨k=1)∧lv= .int .i64 l∧iv= .int .i64 k∧Hid (y7v (ls.drop k) l=q)∧ -1≤l∧l≤4194304∧wr=w) (fun _ iv _ _=>n - (intOf iv).toNat)
 case atStart=>exact ⟨1,-1,.inr rfl,rfl,rfl,HQ,by omega,by omega,rfl⟩
 case round=>
  clear HQ;obtain ⟨k,l,hk,rfl,rfl,hq,hl1,hl2,rfl⟩:=hrel;by_cases hlt:k<n
  ·have hkI:(k:Int)<(n:Int):=by omega
   obtain ⟨x,hx⟩: ∃x,ls[k]?=some x:=⟨_,Qad (by rw [HN.out];exact hlt)⟩;obtain ⟨ad,A',c',rfl,hcK,hxd⟩:=z31 hd hx;have hc:=H.sat.cell hcK;have hxl:=HX.out x (Qaf hx);have hcall:=z5l A' x.length c' _ x wr (z30 H hxd) rfl (by omega);have hix:=x1g x;obtain ⟨hk',hxe⟩:=Qac.1 hx;have h0:=hq.out;rw [Qa1 hk',hxe,y7v] at h0;unfold x3p at h0;generalize indF x=p at h0 hcall hix;generalize x.length=m at h0 hcall hix hxl hc;clear hx hxe hk' hq hxd hcK;by_cases hpm:p<m
   ·have hpI:(p:Int)<(m:Int):=by omega
    by_cases hl0:l<0
    ·rw [if_pos ⟨hpm,.inl hl0⟩] at h0;have H1:=hide h0;clear h0
     go_wp2_with (first|(go_at_call 221;refine hcall.mono ?_;rintro e w' ⟨rfl,rfl⟩))
     go_roundw
     case rel=>exact ⟨k+1,p,by omega,rfl,by go_num,H1,by omega,by omega,trivial⟩
     case measure=>simp [intOf];omega
    ·by_cases hpl:(p:Int)<l
     ·rw [if_pos ⟨hpm,.inr hpl⟩] at h0;have H1:=hide h0;clear h0
      go_wp2_with (first|(go_at_call 221;refine hcall.mono ?_;rintro e w' ⟨rfl,rfl⟩))
      go_roundw
      case rel=>exact ⟨k+1,p,by omega,rfl,by go_num,H1,by omega,by omega,trivial⟩
      case measure=>simp [intOf];omega
     ·rw [if_neg (by omega)] at h0;have H1:=hide h0;clear h0
      go_wp2_with (first|(go_at_call 221;refine hcall.mono ?_;rintro e w' ⟨rfl,rfl⟩))
      go_roundw
      case rel=>exact ⟨k+1,l,by omega,rfl,by go_num,H1,by omega,by omega,trivial⟩
      case measure=>simp [intOf];omega
   ·have hpI: ¬(p:Int)<(m:Int):=by omega
    rw [if_neg (by omega)] at h0;have H1:=hide h0;clear h0
    go_wp2_with (first|(go_at_call 221;refine hcall.mono ?_;rintro e w' ⟨rfl,rfl⟩))
    go_roundw
    case rel=>exact ⟨k+1,l,by omega,rfl,by go_num,H1,by omega,by omega,trivial⟩
    case measure=>simp [intOf];omega
  ·have hkI: ¬(k:Int)<(n:Int):=by omega
   have h0:=hq.out;rw [Qbo (by rw [HN.out];omega),y7v] at h0;subst h0;by_cases hl0:l<0
   ·rw [if_pos hl0] at hr;subst hr;clear hq
    go_wp2_with fail
    go_ret;exact ⟨rfl,rfl⟩
   ·rw [if_neg hl0] at hr;subst hr;clear hq
    go_wp2_with fail
    go_ret;exact ⟨rfl,rfl⟩
theorem x90 {s:List Int} {n c:Nat} {A:Option Addr} (hl:s.length=n) (hn:n≤4194304) (hd:RD K (.list n (y25 s)) (.slice A n c)) (H:Hp w0 w K M):
  Calls Tryz.prog 211 #[.slice A n c] w fun e w'=>∃K' A' c',e= .returned (.slice A' (y81 s).length c')∧Sat K' K∧Hp w0 w' K' M∧RD K' (.list (y81 s).length (y25 (y81 s))) (.slice A' (y81 s).length c'):=by
 have HE:Hid ([]++y7u s (n+1) 0=y81 s):=by show _=_;unfold y81;rw [hl];rfl
 have HN:=hide hl;obtain ⟨out,hout⟩: ∃x,y81 s=x:=⟨_,rfl⟩;rw [hout] at HE ⊢;clear hl hout;go_enter Tryz.func211,Tryz.ntmps211
 go_wp2_with fail
 replace H:=H.nilRow 21 1
 go_loopw [3,4,5] (fun v iv _ wr=>∃(k g:Nat) (dn:List Int) (A':Option Addr) (c':Nat),k≤n∧n<k+g∧dn.length≤k∧v= .slice A' dn.length c'∧iv= .int .i64 k∧Hid (dn++y7u s g k=out)∧Hp w0 wr K (.row 21 1 (.slice A' dn.length c') dn.length (rv dn)::M)) (fun _ iv _ _=>n - (intOf iv).toNat)
 case atStart=>exact ⟨0,n+1,[],none,0,by omega,by omega,by simp,rfl,rfl,HE,H⟩
 case round=>
  clear H HE;obtain ⟨k,g,dn,A',c',hk,hg,hdn,rfl,rfl,he,H⟩:=hrel;obtain ⟨g,rfl⟩: ∃g',g=g'+1:=⟨g - 1,by omega⟩;have h0:=he.out;rw [y7u] at h0;clear he;by_cases hlt:k<n
  ·have hkI:(k:Int)<(n:Int):=by omega
   obtain ⟨z,hz⟩: ∃z,s[k]?=some z:=⟨_,Qad (by rw [HN.out];exact hlt)⟩;rw [hz] at h0;dsimp only at h0;have hrd:=z30 H hd;obtain ⟨ad,rfl,hc⟩:=y2g hrd hz;have hcall:=z3h (some ad) n c _ s wr hrd HN.out (by omega) k (by omega);clear hz hrd
   cases h3:escT s k with
   |true=>
    rw [h3,if_pos rfl] at h0;rw [h3] at hcall;have hl4:=z2p h3;have:=HN.out
    have H1:Hid ((dn++[34,34,34])++y7u s g (k+4)=out):=by show _=_;rw [←h0];simp
    clear h0 h3
    go_wp2_with (first|(go_at_call 214;refine hcall.mono ?_;rintro e w' ⟨rfl,rfl⟩)|(refine oP H ?_ (hd:=dbS (pv:=[(0,.int .i32 34),(1,.int .i32 34),(2,.int .i32 34)]) (cs:=[.int .i32 34,.int .i32 34,.int .i32 34]) rfl rfl (by simp [Act.eval]) rfl);clear H hc;intro w g1 H)|(refine oQm 3 H ?_;clear H;intro A1 c1 w1 _ _ H;dsimp only [List.set] at H))
    have hlen:(dn++[34,34,34]).length=dn.length+3:=by simp
    go_roundw
    case rel=>exact ⟨k+4,g,dn++[34,34,34],_,_,by omega,by omega,by omega,by rw [hlen],by go_num,H1,by rw [hlen];simpa [rv] using H⟩
    case measure=>simp [intOf];omega
   |false=>
    rw [h3,if_neg (by decide)] at h0;rw [h3] at hcall
    have H1:Hid ((dn++[z])++y7u s g (k+1)=out):=by show _=_;rw [←h0];simp
    clear h0 h3
    go_wp2_with (first|(go_at_call 214;refine hcall.mono ?_;rintro e w' ⟨rfl,rfl⟩)|(refine oP H ?_;clear H hc;intro w g1 H)|(refine oQ H ?_;clear H;intro A1 c1 w1 _ _ H;dsimp only [List.set] at H))
    have hlen:(dn++[z]).length=dn.length+1:=by simp
    go_roundw
    case rel=>exact ⟨k+1,g,dn++[z],_,_,by omega,by omega,by omega,by rw [hlen],by go_num,H1,by rw [hlen];simpa [rv] using H⟩
    case measure=>simp [intOf];omega
  ·have hkI: ¬(k:Int)<(n:Int):=by omega
   rw [Qbg (by rw [HN.out];omega)] at h0;dsimp only at h0;rw [List.append_nil] at h0;subst h0;obtain ⟨K',hle,H,hdn⟩:=H.freezeRow (z2q dn)
   go_wp2_with fail
   go_ret;exact ⟨K',_,_,rfl,hle,H,hdn⟩
end
end Go.Proofs.YtbpgkkoeehopjaaGreat.hp
namespace Go.Proofs.YtbpgkkoeehopjaaGreat.hp
open Go.RowKit words enc tree gram lex rd dec dat held
set_option maxRecDepth 100000
set_option maxHeartbeats 40000000
attribute [local go_sem ↓] Go.wp_at_zero Go.wp_at_succ
section
variable {w0 w K : World} {M : List Ent}
theorem z18 {l:List DirD} {A:Option Addr} {c:Nat} (hm:sumN dirN l≤9000000) (hd:RD K (.list l.length (y24 l)) (.slice A l.length c)) (H:Hp w0 w K M):
  Calls Tryz.prog 109 #[.slice A l.length c] w fun e w'=>∃K' A' c' vs,e= .returned (.slice A' l.length c')∧Sat K' K∧RL K' (y24 l) vs∧Hp w0 w' K' (.row 181 4 (.slice A' l.length c') l.length vs::M):=by
 have hn:=Qah (y0w y63 l) hm;have HX:=hide (show ∀x∈l,dirN x≤9000000 from fun x hx=>by obtain ⟨k,hk⟩:=Qaq hx;have:=y6d (f:=dirN) hk;omega);obtain ⟨n,hn2⟩: ∃x,l.length=x:=⟨_,rfl⟩;rw [hn2] at hd hn ⊢;have HN:=hide hn2;clear hn2 hm;go_enter Tryz.func109,Tryz.ntmps109
 go_wp2_with fail
 replace H:=H.nilRow 181 4
 go_loopw [3,11] (fun v i wr=>∃(K':World) (k:Nat) (A':Option Addr) (c':Nat) (vs:List Value),k≤n∧i= .int .i64 k∧v= .slice A' k c'∧Sat K' K∧RL K' (y24 (l.take k)) vs∧Hp w0 wr K' (.row 181 4 (.slice A' k c') k vs::M)) (fun _ i _=>n - (intOf i).toNat)
 case atStart=>exact ⟨K,0,none,0,[],Qak _,rfl,rfl,Sat.refl _,.nil (Qab _),H⟩
 case round=>
  clear H;obtain ⟨K',k,A',c',vs,hk,rfl,rfl,hle,hvs,H⟩:=hrel;replace hd:=hd.sat hle;by_cases hlt:k<n
  ·obtain ⟨x,ad,us,hx,rfl,hxl,hat⟩:=el_k (m:=4) (f:=dirL) (fun _=>rfl) hd (by rw [HN.out];exact hlt) (by decide);obtain ⟨hkI,hwr⟩:=wr_k hlt hn;have hxn:=HX.out x (Qaf hx);have HT:=hide (y1l hx);obtain ⟨dn,args,dl,dc⟩:=x;obtain ⟨Aa,ca,rfl,ha⟩:=y71 hxl;simp only [dirN] at hxn
   have hna:args.length≤9000000:=by have:=y72 args;omega
   have HF:=hide (show ∀x∈args,pairN x≤9000000 from fun x hx=>by obtain ⟨k,hk⟩:=Qaq hx;have:=z0i hk;omega);dsimp only at ha hat;rw [y4l] at ha;obtain ⟨na,hna2⟩: ∃x,args.length=x:=⟨_,rfl⟩;rw [hna2] at ha hna hat;have HNA:=hide hna2;clear hx hna2 hxn hxl
   go_wp2_with (first|(refine oL H ?_)|(refine oA 6 H ?_;clear H;intro w gd H)|(refine oP H ?_;clear H;intro w _ H))
   replace H:Hp _ _ _ (.box gd _ _:: .row 181 4 _ _ _::M):=H.fin;replace H:=H.nilRow 185 10
   go_loopw [23] (fun i wq=>∃(K2:World) (j:Nat) (A2:Option Addr) (c2:Nat) (vs2:List Value),j≤na∧i= .int .i64 j∧Sat K2 K'∧RL K2 (pairsL (args.take j)) vs2∧Hp w0 wq K2 (.row 185 10 (.slice A2 j c2) j vs2:: .box gd [.string (str dn),.slice A2 j c2,.int .i64 dl,.int .i64 dc] 181:: .row 181 4 (.slice A' k c') k vs::M)) (fun i _=>na - (intOf i).toNat)
   case atStart=>exact ⟨K',0,none,0,[],Qak _,rfl,Sat.refl _,.nil (Qab _),H⟩
   case round=>
    clear H;obtain ⟨K2,j,A2,c2,vs2,hj,rfl,hle2,hvs2,H⟩:=hrel;replace ha:=ha.sat hle2;by_cases hlt2:j<na
    ·obtain ⟨x,ad,us,hx,rfl,hxl,hat2⟩:=el_k y4k ha (by rw [HNA.out];exact hlt2) (by decide);obtain ⟨hjI,hwj⟩:=wr_k hlt2 hna;have hxn:=HF.out x (Qaf hx);have HY:=hide (y1l hx);obtain ⟨pn,⟨dk,dt,db,di,df,dln,dcl⟩,pl,pc⟩:=x;obtain ⟨ls,rfl,hvl⟩:=y2n hxl;obtain ⟨Xi,xi,Xf,xf,rfl,-,-⟩:=y0l hvl;have hc:=fun {w M} (h:Hp w0 w K2 M)=>z5v 9000000 _ #[_,_,_,_,_,_,_] w0 w K2 M (by simp only [pairN] at hxn;omega) (Qab _) hvl h;simp only [List.cons_append,List.nil_append] at hat2;clear hx hxl hat
     go_wp2_with (first|(refine oL H ?_)|(refine oA 8 H ?_;clear H;intro w gx H)|(refine oP H ?_;clear H;intro w _ H))
     refine rN [.box gd _ _,.box gx _ _] [13] H ?_;clear H;intro w H;refine rT 0 H ?_;refine rT 1 H ?_;refine rT 2 H ?_;refine rT 3 H ?_;refine rT 4 H ?_;refine rT 5 H ?_;refine rT 7 H ?_;refine rT 8 H ?_;refine rC 6 (hc H) ?_;clear H;rintro e w ⟨K3,cs,rfl,hle3,H,he⟩;obtain ⟨Bi,bi,Bf,bf,hcs,-,-⟩:=y0l he;obtain rfl:cs= #[_,_,_,_,_,_,_]:=Qal.1 hcs;clear hcs;refine rX H ?_;refine rT 9 H ?_;refine rW 10 H ?_;clear H;intro w _ H;refine rA 11 H ?_;clear H;intro A2 c2 w _ _ H;dsimp only [List.set] at H;refine rT 12 H ?_;refine rL 13 H ?_;clear H;intro w _ H;refine rE ?_;have hpe:RL K3 (pairL (.mk pn (.mk dk dt db di df dln dcl) pl pc)) [.string (str pn),.int .i64 dk,.string (str dt),.bool db,.slice Bi di.length bi,.slice Bf df.length bf,.int .i64 dln,.int .i64 dcl,.int .i64 pl,.int .i64 pc]:=DatL.lit (DatL.app he (DatL.lit (DatL.lit (DatL.nil he.le))))
     go_wp2_with (first|(refine oL H ?_)|(refine oP H ?_;clear H;intro w _ H))
     go_roundw
     case rel=>exact ⟨K3,j+1,_,_,_,by omega,by go_num,hle3.trans hle2,by rw [HY.out,y8h];exact (hvs2.sat hle3).app (by simpa [pairsL] using hpe),H.fin⟩
     case measure=>simp [intOf];omega
    ·obtain rfl:j=na:=by omega
     rw [Qaj (by rw [HNA.out];exact Qab _)] at hvs2;obtain ⟨K3,hle3,H,hd1⟩:=H.freezeRow hvs2;have hde:RL K3 (dirL ⟨dn,args,dl,dc⟩) [.string (str dn),.slice A2 j c2,.int .i64 dl,.int .i64 dc]:=.lit (.cons (by rw [HNA.out];exact hd1) (.lit (.lit (.nil (Qab _)))))
     go_wp2_with (first|(refine oL H ?_)|(refine oP H ?_;clear H;intro w _ H)|(refine oQ H ?_;clear H;intro A' c' w _ _ H;dsimp only [List.set] at H))
     go_roundw
     case rel=>exact ⟨K3,k+1,_,_,_,by omega,by go_num,rfl,hle3.trans (hle2.trans hle),by rw [HT.out,y70];exact (hvs.sat (hle3.trans hle2)).app (q4y (f:=dirL) hde),H.fin⟩
     case measure=>simp [intOf];omega
  ·obtain rfl:k=n:=by omega
   rw [Qaj (by rw [HN.out];exact Qab _)] at hvs
   go_wp2_with fail
   go_ret;exact ⟨K',A',c',vs,rfl,hle,hvs,H⟩
theorem y9l {l:List DirD} {A:Option Addr} {c:Nat} (hm:sumN dirN l≤9000000) (hd:RD K (.list l.length (y24 l)) (.slice A l.length c)) (H:Hp w0 w K M):
  Calls Tryz.prog 109 #[.slice A l.length c] w fun e w'=>∃K' A' c',e= .returned (.slice A' l.length c')∧Sat K' K∧Hp w0 w' K' M∧RD K' (.list l.length (y24 l)) (.slice A' l.length c'):=
 (z18 hm hd H).mono fun e w' ⟨K',A',c',vs,he,hle,hvs,H⟩=>by
   obtain ⟨K2,hle2,H,hd⟩:=H.freezeRow hvs;exact ⟨K2,A',c',he,hle2.trans hle,H,hd⟩
theorem y9b {l:List InputD} {A:Option Addr} {c:Nat} (hm:sumN y2q l≤9000000) (hd:RD K (.list l.length (y0o l)) (.slice A l.length c)) (H:Hp w0 w K M):
  Calls Tryz.prog 110 #[.slice A l.length c] w fun e w'=>∃K' A' c' vs,e= .returned (.slice A' l.length c')∧Sat K' K∧RL K' (y0o l) vs∧Hp w0 w' K' (.row 123 17 (.slice A' l.length c') l.length vs::M):=by
 have hn:=Qah (y0w y5a l) hm;have HX:=hide (show ∀x∈l,y2q x≤9000000 from fun x hx=>by obtain ⟨k,hk⟩:=Qaq hx;have:=y6d (f:=y2q) hk;omega);obtain ⟨n,hn2⟩: ∃x,l.length=x:=⟨_,rfl⟩;rw [hn2] at hd hn ⊢;have HN:=hide hn2;clear hn2 hm;go_enter Tryz.func110,Tryz.ntmps110
 go_wp2_with fail
 replace H:=H.nilRow 123 17
 go_loopw [3,8] (fun v i wr=>∃(K':World) (k:Nat) (A':Option Addr) (c':Nat) (vs:List Value),k≤n∧i= .int .i64 k∧v= .slice A' k c'∧Sat K' K∧RL K' (y0o (l.take k)) vs∧Hp w0 wr K' (.row 123 17 (.slice A' k c') k vs::M)) (fun _ i _=>n - (intOf i).toNat)
 case atStart=>exact ⟨K,0,none,0,[],Qak _,rfl,rfl,Sat.refl _,.nil (Qab _),H⟩
 case round=>
  clear H;obtain ⟨K',k,A',c',vs,hk,rfl,rfl,hle,hvs,H⟩:=hrel;replace hd:=hd.sat hle;by_cases hlt:k<n
  ·obtain ⟨x,ad,us,hx,rfl,hxl,hat⟩:=el_k y8i hd (by rw [HN.out];exact hlt) (by decide);obtain ⟨hkI,hwr⟩:=wr_k hlt hn;have hxn:=HX.out x (Qaf hx);have HT:=hide (y1l hx);obtain ⟨⟨nh,nb,nt⟩,dn,⟨tn,tw⟩,dh,⟨dk,dt,db,di,df,dln,dcl⟩,ds,dl,dc⟩:=x;obtain ⟨ls,Ad,cd,rfl,hvl,hds⟩:=y5j hxl;obtain ⟨Xi,xi,Xf,xf,rfl,-,-⟩:=y0l hvl;simp only [y2q] at hxn;have hc:=fun {w M} (h:Hp w0 w K' M)=>z5v 9000000 _ #[_,_,_,_,_,_,_] w0 w K' M (by omega) (Qab _) hvl h;have hc2:=fun {w K M} (h:Hp w0 w K M) (hd:RD K (.list ds.length (y24 ds)) (.slice Ad ds.length cd))=>y9l (by omega) hd h;simp only [List.cons_append,List.nil_append] at hat;clear hx hxl
   go_wp2_with (first|(refine oL H ?_)|(refine oP H ?_;clear H;intro w _ H)|((with_reducible refine (hc H).mono ?_);clear hc H;rintro e w ⟨K2,cs,rfl,hle2,H,he⟩;obtain ⟨Bi,bi,Bf,bf,hcs,-,-⟩:=y0l he;obtain rfl:cs= #[_,_,_,_,_,_,_]:=Qal.1 hcs;clear hcs;replace hds:=hds.sat hle2)|((with_reducible refine (hc2 H hds).mono ?_);clear hc2 H;rintro e w ⟨K3,Ae,ce,rfl,hle3,H,hde⟩)|(refine oQ H ?_;clear H;intro A' c' w _ _ H;dsimp only [List.set] at H))
   have hpe:=z1f (nh:=nh) (nb:=nb) (nt:=nt) (dn:=dn) (tn:=tn) (tw:=tw) (dh:=dh) (dl:=dl) (dc:=dc) (he.sat hle3) hde;go_roundw
   case rel=>exact ⟨K3,k+1,_,_,_,by omega,by go_num,rfl,hle3.trans (hle2.trans hle),by rw [HT.out,y6x];exact (hvs.sat (hle3.trans hle2)).app (q4y (f:=y4m) hpe),H.fin⟩
   case measure=>simp [intOf];omega
  ·obtain rfl:k=n:=by omega
   rw [Qaj (by rw [HN.out];exact Qab _)] at hvs
   go_wp2_with fail
   go_ret;exact ⟨K',A',c',vs,rfl,hle,hvs,H⟩
theorem z7b {l:List InputD} {A:Option Addr} {c:Nat} (hm:sumN y2q l≤9000000) (hd:RD K (.list l.length (y0o l)) (.slice A l.length c)) (H:Hp w0 w K M):
  Calls Tryz.prog 110 #[.slice A l.length c] w fun e w'=>∃K' A' c',e= .returned (.slice A' l.length c')∧Sat K' K∧Hp w0 w' K' M∧RD K' (.list l.length (y0o l)) (.slice A' l.length c'):=
 (y9b hm hd H).mono fun e w' ⟨K',A',c',vs,he,hle,hvs,H⟩=>by
   obtain ⟨K2,hle2,H,hd⟩:=H.freezeRow hvs;exact ⟨K2,A',c',he,hle2.trans hle,H,hd⟩
end
section
variable {P : Program} {w0 w K : World} {M : List Ent} {ops : Array Oper} {rest : List Oper} {o : Oper} {a : Act} {Q : Exit → Act → World → Prop}
theorem oN {m c:Nat} {A:Option Addr} {ls:List Leaf} (H:Hp w0 w K M) {s x:Operand} {t e:TypeId} {size bytes:Nat} {a':Option Addr→Nat→Act}
  (h: ∀us A' c' w',RL K ls us→m≤c'→c'≤maxLen→Hp w0 w' K (.row e size (.slice A' m c') m us::M)→wpList P ops Q rest (a' A' c') w')
  (ho:o.op= .call {callee:=.builtin .append,args:= #[s,x],argTypes:= #[t,t]}:=by rfl) (hs:a.eval s= .slice none 0 0:=by rfl) (hx:a.eval x= .slice A m c:=by first|rfl|(simp [Act.eval,Act.put];done)|fail) (hsl:Sli P t e size bytes:=by infer_instance)
  (hd:RD K (.list m ls) (.slice A m c):=by assumption) (hlen:ls.length=m*size:=by first|exact y5k _|exact y6c _|fail)
  (hb:m*bytes≤140737488355328:=by omega) (ha: ∀A' c',a.put o.dst (.slice A' m c')=a' A' c':=by (intro A c;simp only [Act.put,List.setIfInBounds_toArray,List.set_cons_zero,List.set_cons_succ];try rfl)) (hgd:o.guard=none:=by rfl):wpList P ops Q (o::rest) a w:=
 oR (H.nilRow e size) (fun us A' c' w' h1 _ h3 h4 H'=>by
  rw [Nat.zero_add] at h3 H' ⊢;rw [ha A' c']
  exact h us A' c' w' h1 h3 h4 H') ho hx hsl hs (i:=0) rfl hd hlen (by rw [Nat.zero_add];exact hb) (fun _ _=>rfl) hgd
end
section
variable {w0 w K : World} {M : List Ent}
theorem z88 (d:FieldD) (cs:Array Value) (H:Hp w0 w K M) (hm:y31 d≤9000000) (hd:RL K (y3z d) cs.toList):
  Calls Tryz.prog 87 #[.agg cs] w fun e w'=>∃K' cs',e= .returned (.agg cs')∧Sat K' K∧Hp w0 w' K' M∧RL K' (y3z d) cs'.toList:=by
 obtain ⟨⟨nh,nb,nt⟩,dn,args,⟨tn,tw⟩,ds,dl,dc⟩:=d;obtain ⟨Aa,ca,Ad,cd,hcs,ha,hds⟩:=y62 hd;obtain rfl:cs= #[_,_,_,_,_,_,_,_,_,_]:=Qal.1 hcs;simp only [y31] at hm;clear hcs hd;have c2:=fun {w K M} (h:Hp w0 w K M) (hd:RD K (.list ds.length (y24 ds)) (.slice Ad ds.length cd))=>y9l (by omega) hd h;go_enter Tryz.func87,Tryz.ntmps87
 go_wp2_with (first|(refine oL H ?_)|(refine oP H ?_;clear H;intro w _ H)|((with_reducible refine (z7b (by omega) ha H).mono ?_);clear H;rintro e w ⟨K2,Ab,cb,rfl,hle2,H,hb⟩;replace hds:=hds.sat hle2)|((with_reducible refine (c2 H hds).mono ?_);clear H;rintro e w ⟨K3,Ae,ce,rfl,hle3,H,he⟩))
 refine oB H ?_;exact ⟨K3,_,rfl,hle3.trans hle2,H.fin,z5t (hb.sat hle3) he⟩
theorem y75 (d:DefD) (cs:Array Value) (H:Hp w0 w K M) (hm:defN d≤9000000) (hd:RL K (defL d) cs.toList):
  Calls Tryz.prog 65 #[.agg cs] w fun e w'=>∃K' V,e= .returned (.agg (DV.cells d V).toArray)∧Sat K' K∧Hp w0 w' K' (DV.rows d V++M)∧V.ok K' d:=by
 obtain ⟨kind,ext,⟨nh,nb,nt⟩,name,li,ld,lf,lp,lm,lv,lr,rep,lq,dl,dc⟩:=d;obtain ⟨A6,c6,A7,c7,A8,c8,A9,c9,A10,c10,A11,c11,A12,c12,A14,c14,hcs,h6,h7,h8,h9,h10,h11,h12,h14⟩:=y0h hd;obtain rfl:cs= #[_,_,_,_,_,_,_,_,_,_,_,_,_,_,_,_,_]:=Qal.1 hcs;dsimp only at h6 h7 h8 h9 h10 h11 h12 h14;simp only [defN] at hm;have s7:=y0w y63 ld;have s8:=y0w y5b lf;have s9:=y0w y5a lp;have s11:=y0w y8k lv;have HF:=hide (show ∀x∈lf,y31 x≤9000000 from fun x hx=>by obtain ⟨k,hk⟩:=Qaq hx;have:=y6d (f:=y31) hk;omega);have HV:=hide (show ∀x∈lv,y4o x≤9000000 from fun x hx=>by obtain ⟨k,hk⟩:=Qaq hx;have:=y6d (f:=y4o) hk;omega)
 have b6:li.length≤9000000∧sumN dirN ld≤9000000∧lf.length≤9000000∧sumN y2q lp≤9000000∧lm.length≤9000000∧lv.length≤9000000∧lr.length≤9000000∧lq.length≤9000000:=by omega
 obtain ⟨b6,b7,b8,b9,b10,b11,b12,b14⟩:=b6;clear hcs hd s7 s8 s9 s11 hm;obtain ⟨nf,hnf⟩: ∃x,lf.length=x:=⟨_,rfl⟩;obtain ⟨nv,hnv⟩: ∃x,lv.length=x:=⟨_,rfl⟩;rw [hnf] at h8 b8;rw [hnv] at h11 b11;have HNF:=hide hnf;have HNV:=hide hnv;dsimp only;rw [hnf,hnv];clear hnf hnv;go_enter Tryz.func65,Tryz.ntmps65
 go_wp2_with (first|(refine oA 1 H ?_;clear H;intro w gd H)|(refine oA 2 H ?_;clear H;intro w gz H))
 refine rB [] H ?_;clear H;intro w H;refine rT 0 H ?_;refine rT 1 H ?_;refine rT 2 H ?_;refine rT 3 H ?_;refine rT 4 H ?_;refine rT 5 H ?_;refine rE ?_
 go_wp2_with (first|(refine oL H ?_)|(refine oP H ?_;clear H;intro w _ H))
 replace H:=H.nilRow 52 10
 go_loopw [17] (fun i wr=>∃(K':World) (k:Nat) (A':Option Addr) (c':Nat) (vs:List Value),k≤nf∧i= .int .i64 k∧Sat K' K∧RL K' (y0u (lf.take k)) vs∧Hp w0 wr K' (.row 52 10 (.slice A' k c') k vs:: .box gz [.int .i64 0,.bool false,.bool false,.bool false,.string ⟨#[]⟩,.string ⟨#[]⟩,.slice none 0 0,.slice none 0 0,.slice none 0 0,.slice none 0 0,.slice none 0 0,.slice none 0 0,.slice none 0 0,.bool false,.slice none 0 0,.int .i64 0,.int .i64 0] 43::
  .box gd [.int .i64 kind,.bool ext,.bool nh,.bool nb,.string (str nt),.string (str name),.slice A6 li.length c6,.slice A7 ld.length c7,.slice A' k c',.slice A9 lp.length c9,.slice A10 lm.length c10,.slice none 0 0,.slice A12 lr.length c12,.bool rep,.slice A14 lq.length c14,.int .i64 dl,.int .i64 dc] 43::M)) (fun i _=>nf - (intOf i).toNat)
 case atStart=>exact ⟨K,0,none,0,[],Qak _,rfl,Sat.refl _,.nil (Qab _),H⟩
 case round=>
  clear H;obtain ⟨K',k,A',c',vs,hk,rfl,hle,hvs,H⟩:=hrel;replace h8:=h8.sat hle;by_cases hlt:k<nf
  ·obtain ⟨x,ad,us,hx,rfl,hxl,hat⟩:=el_k (m:=10) (f:=y3z) (fun _=>rfl) h8 (by rw [HNF.out];exact hlt) (by decide);obtain ⟨hkI,hwr⟩:=wr_k hlt b8;have hxn:=HF.out x (Qaf hx);have HX:=hide (y1l hx);obtain ⟨⟨fnh,fnb,fnt⟩,fn,fas,⟨ftn,ftw⟩,fds,fl,fc⟩:=x;obtain ⟨Xi,xi,Xf,xf,rfl,-,-⟩:=y62 hxl;have hc:=fun {w M} (h:Hp w0 w K' M)=>z88 _ #[_,_,_,_,_,_,_,_,_,_] h hxn hxl;clear hx
   go_wp2_with (first|(refine oL H ?_)|(refine oA 6 H ?_;clear H;intro w gx H)|(refine oP H ?_;clear H;intro w _ H))
   refine rN [.box gd _ _,.box gx _ _] [7] H ?_;clear H;intro w H;refine rT 0 H ?_;refine rT 1 H ?_;refine rT 2 H ?_;refine rC 3 (hc H) ?_;clear H;rintro e w ⟨K2,cs,rfl,hle2,H,he⟩;obtain ⟨Bi,bi,Bf,bf,hcs,-,-⟩:=y62 he;obtain rfl:cs= #[_,_,_,_,_,_,_,_,_,_]:=Qal.1 hcs;clear hcs;refine rX H ?_;refine rW 4 H ?_;clear H;intro w _ H;refine rA 5 H ?_;clear H;intro A' c' w _ _ H;dsimp only [List.set] at H;refine rT 6 H ?_;refine rL 7 H ?_;clear H;intro w _ H;refine rE ?_
   go_wp2_with (first|(refine oL H ?_)|(refine oP H ?_;clear H;intro w _ H))
   go_roundw
   case rel=>exact ⟨K2,k+1,_,_,_,by omega,by go_num,hle2.trans hle,by rw [HX.out,y9j];exact (hvs.sat hle2).app (q4y (f:=y3z) he),H.fin⟩
   case measure=>simp [intOf];omega
  ·obtain rfl:k=nf:=by omega
   rw [Qaj (by rw [HNF.out];exact Qab _)] at hvs;replace h11:=h11.sat hle;clear hlt h8
   go_wp2_with (first|(refine oL H ?_)|(refine oP H ?_;clear H;intro w _ H))
   replace H:=H.nilRow 133 7
   go_loopw [31] (fun i wr=>∃(K2:World) (j:Nat) (A2:Option Addr) (c2:Nat) (vs2:List Value),j≤nv∧i= .int .i64 j∧Sat K2 K'∧RL K2 (y12 (lv.take j)) vs2∧Hp w0 wr K2 (.row 133 7 (.slice A2 j c2) j vs2:: .row 52 10 (.slice A' k c') k vs:: .box gz [.int .i64 0,.bool false,.bool false,.bool false,.string ⟨#[]⟩,.string ⟨#[]⟩,.slice none 0 0,.slice none 0 0,.slice none 0 0,.slice none 0 0,.slice none 0 0,.slice none 0 0,.slice none 0 0,.bool false,.slice none 0 0,.int .i64 0,.int .i64 0] 43::
    .box gd [.int .i64 kind,.bool ext,.bool nh,.bool nb,.string (str nt),.string (str name),.slice A6 li.length c6,.slice A7 ld.length c7,.slice A' k c',.slice A9 lp.length c9,.slice A10 lm.length c10,.slice A2 j c2,.slice A12 lr.length c12,.bool rep,.slice A14 lq.length c14,.int .i64 dl,.int .i64 dc] 43::M)) (fun i _=>nv - (intOf i).toNat)
   case atStart=>exact ⟨K',0,none,0,[],Qak _,rfl,Sat.refl _,.nil (Qab _),H⟩
   case round=>
    clear H;obtain ⟨K2,j,A2,c2,vs2,hj,rfl,hle2,hvs2,H⟩:=hrel;replace h11:=h11.sat hle2;by_cases hlt:j<nv
    ·obtain ⟨x,ad,us,hx,rfl,hxl,hat⟩:=el_k (m:=7) (f:=y7z) (fun _=>rfl) h11 (by rw [HNV.out];exact hlt) (by decide);obtain ⟨hkI,hwr⟩:=wr_k hlt b11;have hxn:=HV.out x (Qaf hx);have HX:=hide (y1l hx);obtain ⟨⟨fnh,fnb,fnt⟩,fn,fds,fl,fc⟩:=x;obtain ⟨Xd,xd,rfl,hxd⟩:=x1p hxl;simp only [y4o] at hxn;have hc:=fun {w M} (h:Hp w0 w K2 M)=>y9l (by omega) hxd h;clear hx hxl
     go_wp2_with (first|(refine oL H ?_)|(refine oP H ?_;clear H;intro w _ H)|((with_reducible refine (hc H).mono ?_);clear H;rintro e w ⟨K3,Ae,ce,rfl,hle3,H,he⟩)|(refine oQ H ?_;clear H;intro A' c' w _ _ H;dsimp only [List.set] at H))
     go_roundw
     case rel=>exact ⟨K3,j+1,_,_,_,by omega,by go_num,hle3.trans hle2,by rw [HX.out,y6z];exact (hvs2.sat hle3).app (q4y (f:=y7z) (z5u he)),H.fin⟩
     case measure=>simp [intOf];omega
    ·obtain rfl:j=nv:=by omega
     rw [Qaj (by rw [HNV.out];exact Qab _)] at hvs2;have q:=hle2.trans hle;replace h6:=h6.sat q;replace h7:=h7.sat q;replace h9:=h9.sat q;replace h10:=h10.sat q;replace h12:=h12.sat q;replace h14:=h14.sat q;have c9:=fun {w K M} (h:Hp w0 w K M) (hd:RD K (.list lp.length (y0o lp)) (.slice A9 lp.length c9))=>y9b b9 hd h;have c7:=fun {w K M} (h:Hp w0 w K M) (hd:RD K (.list ld.length (y24 ld)) (.slice A7 ld.length c7))=>z18 b7 hd h;clear hlt h11
     go_upto_region 15 with (first|(refine oL H ?_)|(refine oP H ?_;clear H;intro w _ H)|(refine oN H ?_;clear H;intro u6 B6 e6 w q6 _ _ H))
     go_upto_region 16 with (first|(refine oL H ?_)|(refine oP H ?_;clear H;intro w _ H)|(refine oN H ?_;clear H;intro u10 B10 e10 w q10 _ _ H))
     go_upto_region 17 with (first|(refine oL H ?_)|(refine oP H ?_;clear H;intro w _ H)|(refine oN H ?_;clear H;intro u14 B14 e14 w q14 _ _ H))
     go_upto_region 18 with (first|(refine oL H ?_)|(refine oP H ?_;clear H;intro w _ H)|(refine oN H ?_;clear H;intro u12 B12 e12 w q12 _ _ H))
     go_wp2_with (first|(refine oL H ?_)|(refine oP H ?_;clear H;intro w _ H)|((with_reducible refine (c9 H h9).mono ?_);clear H;rintro e w ⟨K3,B9,e9,u9,rfl,hle3,q9,H⟩;replace h7:=h7.sat hle3)|((with_reducible refine (c7 H h7).mono ?_);clear H;rintro e w ⟨K4,B7,e7,u7,rfl,hle4,q7,H⟩))
     refine oB H ?_;have q2:=hle4.trans hle3;refine ⟨K4,⟨.slice A' k c',.slice A2 j c2,.slice B6 li.length e6,.slice B10 lm.length e10,.slice B14 lq.length e14,.slice B12 lr.length e12,.slice B9 lp.length e9,.slice B7 ld.length e7,vs,vs2,u6,u10,u14,u12,u9,u7⟩,rfl,(q2.trans hle2).trans hle,?_,hvs.sat (q2.trans hle2),hvs2.sat q2,q6.sat q2,q10.sat q2,q14.sat q2,q12.sat q2,q9.sat hle4,q7⟩;dsimp only [DV.rows];rw [HNF.out,HNV.out];exact H.fin
theorem DV.freeze {d:DefD} {V:DV} (H:Hp w0 w K (DV.rows d V++M)) (hV:V.ok K d): ∃K',Sat K' K∧Hp w0 w K' M∧RL K' (defL d) (DV.cells d V):=by
 obtain ⟨kind,ext,⟨nh,nb,nt⟩,name,li,ld,lf,lp,lm,lv,lr,rep,lq,dl,dc⟩:=d;obtain ⟨K1,e1,H,d8⟩:=H.freezeRow hV.r8;obtain ⟨K2,e2,H,d11⟩:=H.freezeRow (hV.r11.sat e1);have f2:=e2.trans e1;obtain ⟨K3,e3,H,d6⟩:=H.freezeRow (hV.r6.sat f2);have f3:=e3.trans f2;obtain ⟨K4,e4,H,d10⟩:=H.freezeRow (hV.r10.sat f3);have f4:=e4.trans f3;obtain ⟨K5,e5,H,d14⟩:=H.freezeRow (hV.r14.sat f4);have f5:=e5.trans f4;obtain ⟨K6,e6,H,d12⟩:=H.freezeRow (hV.r12.sat f5);have f6:=e6.trans f5;obtain ⟨K7,e7,H,d9⟩:=H.freezeRow (hV.r9.sat f6);have f7:=e7.trans f6;obtain ⟨K8,e8,H,d7⟩:=H.freezeRow (hV.r7.sat f7);have g6:=e8.trans e7;have g5:=g6.trans e6;have g4:=g5.trans e5;have g3:=g4.trans e4;have g2:=g3.trans e3;exact ⟨K8,e8.trans f7,H,y18 (d6.sat g3) d7 (d8.sat (g2.trans e2)) (d9.sat e8) (d10.sat g4) (d11.sat g2) (d12.sat g6) (d14.sat g5)⟩
theorem y6f (d:DefD) (cs:Array Value) (H:Hp w0 w K M) (hm:defN d≤9000000) (hd:RL K (defL d) cs.toList):
  Calls Tryz.prog 65 #[.agg cs] w fun e w'=>∃K' cs',e= .returned (.agg cs')∧Sat K' K∧Hp w0 w' K' M∧RL K' (defL d) cs'.toList:=
 (y75 d cs H hm hd).mono fun e w' ⟨K',V,he,hle,H,hV⟩=>by
   obtain ⟨K2,hle2,H,h⟩:=DV.freeze H hV;exact ⟨K2,_,he,hle2.trans hle,H,h⟩
end
end Go.Proofs.YtbpgkkoeehopjaaGreat.hp
