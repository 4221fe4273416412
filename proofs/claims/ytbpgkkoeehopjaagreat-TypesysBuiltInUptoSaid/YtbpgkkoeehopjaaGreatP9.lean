/- Part 9 of a proof: see the text that holds the statement. -/
import Derived.Test.YtbpgkkoeehopjaaGreatP5
import Derived.Test.YtbpgkkoeehopjaaGreatP7
import Derived.Deep.QuietTactic
import Derived.BigQuiet
set_option linter.unusedVariables false
set_option linter.unusedSimpArgs false
namespace Go.Proofs.YtbpgkkoeehopjaaGreat.hp
open Go.RowKit
theorem z43:((Tryz.prog.info? 43).bind (·.zero)).map (·.cells)=some #[.int .i64 0,.bool false,.bool false,.bool false,.string ⟨#[]⟩,.string ⟨#[]⟩,.slice none 0 0,.slice none 0 0,.slice none 0 0,.slice none 0 0,.slice none 0 0,.slice none 0 0,.slice none 0 0,.bool false,.slice none 0 0,.int .i64 0,.int .i64 0]:=by kernel_rfl
theorem z50:((Tryz.prog.info? 50).bind (·.zero)).map (·.cells)=some #[.string ⟨#[]⟩,.string ⟨#[]⟩]:=by kernel_rfl
theorem z52:((Tryz.prog.info? 52).bind (·.zero)).map (·.cells)=some #[.bool false,.bool false,.string ⟨#[]⟩,.string ⟨#[]⟩,.slice none 0 0,.string ⟨#[]⟩,.string ⟨#[]⟩,.slice none 0 0,.int .i64 0,.int .i64 0]:=by kernel_rfl
theorem z100:((Tryz.prog.info? 100).bind (·.zero)).map (·.cells)=some #[.int .i64 0,.string ⟨#[]⟩,.int .i64 0,.int .i64 0]:=by kernel_rfl
theorem z113:((Tryz.prog.info? 113).bind (·.zero)).map (·.cells)=some #[.string ⟨#[]⟩,.int .i64 0,.int .i64 0]:=by kernel_rfl
theorem z121:((Tryz.prog.info? 121).bind (·.zero)).map (·.cells)=some #[.int .i64 0,.string ⟨#[]⟩,.bool false,.slice none 0 0,.slice none 0 0,.int .i64 0,.int .i64 0]:=by kernel_rfl
theorem z123:((Tryz.prog.info? 123).bind (·.zero)).map (·.cells)=some #[.bool false,.bool false,.string ⟨#[]⟩,.string ⟨#[]⟩,.string ⟨#[]⟩,.string ⟨#[]⟩,.bool false,.int .i64 0,.string ⟨#[]⟩,.bool false,.slice none 0 0,.slice none 0 0,.int .i64 0,.int .i64 0,.slice none 0 0,.int .i64 0,.int .i64 0]:=by kernel_rfl
theorem e22:SlI Tryz.prog 22 43 17 272:=sli Tryz.underlying22 (z:=.agg #[.int .i64 0,.bool false,.bool false,.bool false,.string ⟨#[]⟩,.string ⟨#[]⟩,.slice none 0 0,.slice none 0 0,.slice none 0 0,.slice none 0 0,.slice none 0 0,.slice none 0 0,.slice none 0 0,.bool false,.slice none 0 0,.int .i64 0,.int .i64 0]) (by kernel_rfl)
theorem e27:SlI Tryz.prog 27 9 1 16:=sli Tryz.underlying27 (z:=.string ⟨#[]⟩) (by kernel_rfl)
theorem e34:SlI Tryz.prog 34 113 3 32:=sli Tryz.underlying34 (z:=.agg #[.string ⟨#[]⟩,.int .i64 0,.int .i64 0]) (by kernel_rfl)
theorem e35:SlI Tryz.prog 35 181 4 56:=sli Tryz.underlying35 (z:=.agg #[.string ⟨#[]⟩,.slice none 0 0,.int .i64 0,.int .i64 0]) (by kernel_rfl)
theorem e36:SlI Tryz.prog 36 52 10 136:=sli Tryz.underlying36 (z:=.agg #[.bool false,.bool false,.string ⟨#[]⟩,.string ⟨#[]⟩,.slice none 0 0,.string ⟨#[]⟩,.string ⟨#[]⟩,.slice none 0 0,.int .i64 0,.int .i64 0]) (by kernel_rfl)
theorem e37:SlI Tryz.prog 37 123 17 216:=sli Tryz.underlying37 (z:=.agg #[.bool false,.bool false,.string ⟨#[]⟩,.string ⟨#[]⟩,.string ⟨#[]⟩,.string ⟨#[]⟩,.bool false,.int .i64 0,.string ⟨#[]⟩,.bool false,.slice none 0 0,.slice none 0 0,.int .i64 0,.int .i64 0,.slice none 0 0,.int .i64 0,.int .i64 0]) (by kernel_rfl)
theorem e38:SlI Tryz.prog 38 133 7 80:=sli Tryz.underlying38 (z:=.agg #[.bool false,.bool false,.string ⟨#[]⟩,.string ⟨#[]⟩,.slice none 0 0,.int .i64 0,.int .i64 0]) (by kernel_rfl)
theorem e39:SlI Tryz.prog 39 100 4 40:=sli Tryz.underlying39 (z:=.agg #[.int .i64 0,.string ⟨#[]⟩,.int .i64 0,.int .i64 0]) (by kernel_rfl)
theorem tk {P:Program} {ops:Array Oper} {Q:Exit→Act→World→Prop} {md:Region.Mode} {S:World→Prop} {F:List Nat} (i:Nat) {oi:Oper} {v:Value} {fuel:Nat} {listed:Array Bool} {a a':Act} {w:World} (hS:S w) (h:held.AnyL P md ops Q S F fuel (listed.setIfInBounds i true) a' w) (hi:ops[i]?=some oi:=by (simp only [List.getElem?_toArray,List.getElem?_cons_zero,List.getElem?_cons_succ];try rfl))
  (hd: ∀w,S w→(execOp a.eval oi).run P w= .ok (.value v) w:=by (intro w hSw;(try dsimp only at hSw);go_simp;try with_reducible rfl))
  (ha:a.put oi.dst v=a':=by (simp only [Act.put,List.getElem_toArray,List.getElem_cons_zero,List.getElem_cons_succ,List.setIfInBounds_toArray,List.set_cons_zero,List.set_cons_succ];try rfl))
  (hw:Region.wanted oi (yielded ops a.tmps)=true:=by rfl) (hs:Region.noSelect ops=true:=by kernel_rfl) (hf:Region.free md ops listed i=true:=by kernel_rfl) (hr:(Region.ready md ops listed).contains i=true:=by kernel_rfl) (hF:held.waits md ops F i=true:=by kernel_rfl) (hc:held.closed md ops listed=true:=by kernel_rfl)
  (hQ: ∀c a w,Q (.panic c) (a.put oi.dst v) w→Q (.panic c) a w:=by exact fun _ _ _ h=>h):held.AnyL P md ops Q S F (fuel+1) listed a w:=
 held.take hi hs hf hr hF hc hQ (.inl ⟨hw,hd⟩) hS (ha▸h)
open words enc tree gram lex rd dec dat held
set_option maxRecDepth 100000
attribute [local go_sem ↓] Go.wp_at_zero Go.wp_at_succ
theorem z9c {K:World} {l:List Txt} {x:Txt} {vs:List Value} (h:RL K (y1c l) vs):RL K (y1c (l++[x])) (vs++[.string (str x)]):=by
 unfold y1c at h ⊢;rw [Qas];exact h.app (.lit (.nil (Qab _)))
end Go.Proofs.YtbpgkkoeehopjaaGreat.hp
namespace Go.Proofs.YtbpgkkoeehopjaaGreat.hp
open Go.RowKit words enc tree gram lex rd dec dat held
section
variable {P : Program} {w0 w K K' : World} {M N : List Ent} {ops : Array Oper} {Q : Exit → Act → World → Prop} {F : List Nat} {fuel : Nat} {listed : Array Bool} {a a' : Act} {oi : Oper} {v : Value} {S : World → Prop}
def AtL (P:Program) (ops:Array Oper) (Q:Exit→Act→World→Prop) (S:World→Prop) (F:List Nat) (fuel:Nat) (listed:Array Bool) (i:Nat) (a:Act) (w:World):Prop:=
 wpOp P ops Q i (fun a' w'=>(i∉F→S w')∧AnyL P .any ops Q S F fuel (listed.setIfInBounds i true) a' w') a w
theorem r2 (i j:Nat) (h1:AtL P ops Q S F fuel listed i a w) (h2:AtL P ops Q S F fuel listed j a w) (hr:Region.ready .any ops listed=[i,j]:=by kernel_rfl):AnyL P .any ops Q S F (fuel+1) listed a w:=
 ⟨fun h0=>(by rw [hr] at h0;cases h0),fun k hk=>by
   rw [hr] at hk;simp only [Qbd,List.mem_nil_iff,or_false] at hk;rcases hk with rfl|rfl
   ·exact h1
   ·exact h2⟩
theorem x6m {i:Nat} (ho:ops[i]?=some oi)
  (h: ∀K':Act→World→Prop,Shut (∀a w,(i∉F→S w)→((i∉F→S w)→AnyL P .any ops Q S F fuel (listed.setIfInBounds i true) a w)→K' a w)→if Region.wanted oi (yielded ops a.tmps)=true then Oper.wp P oi a w K' Q else K' (a.put oi.dst undef) w):AtL P ops Q S F fuel listed i a w:=
 wpOp_step ho (fun K' hK=>h K' (fun a w hS hW=>hK a w ⟨hS,hW hS⟩))
theorem aW {i:Nat} (H:Hp w0 w K' N) {v:Nat→Value} {N':Nat→List Ent} {a':Nat→Act} (h: ∀w' g,Hp w0 w' K' (N' g)→AnyL P .any ops Q (Ov w0 K M) F fuel (listed.setIfInBounds i true) (a' g) w') (hi:ops[i]?=some oi:=by (simp only [List.getElem?_toArray,List.getElem?_cons_zero,List.getElem?_cons_succ];try rfl))
  (hd:Does P oi a w0 w K' N v N':=by first|exact ds1|exact dsA|exact da|exact dbA|exact db1|exact dbA1|exact db11|exact dbS|fail)
  (ha: ∀g,a.put oi.dst (v g)=a' g:=by (intro g;simp only [Act.put,List.getElem_toArray,List.getElem_cons_zero,List.getElem_cons_succ,List.setIfInBounds_toArray,List.set_cons_zero,List.set_cons_succ];try rfl))
  (hgd:oi.guard=none:=by rfl) (hle:Sat K' K:=by first|exact Sat.refl _|assumption|fail) (hsf: ∀g,Inc M (N' g):=by (intro g;first|((repeat (first|exact n0|exact nN|apply nD))<;>fail)|((repeat (first|exact n0|exact nN|refine nS (by ((repeat (first|exact u0|apply uS))<;>fail)) ?_|apply nD))<;>fail)|fail)):AtL P ops Q (Ov w0 K M) F fuel listed i a w:=
 x6m hi fun Kq hKq=>by
  rw [if_pos (z5m hgd)];exact hd _ _ H fun w' g H'=>hKq.out _ _ (fun _=>⟨K',_,hle,H',hsf g⟩) (fun _=>by rw [ha g];exact h w' g H')
theorem aC {i:Nat} {f:FuncId} {xs:Array Value} {R:Ending→World→Prop} (hC:Calls P f xs w R) (h: ∀e w',R e w'→ ∃v a',e= .returned v∧a.put oi.dst v=a'∧Ov w0 K M w'∧AnyL P .any ops Q (Ov w0 K M) F fuel (listed.setIfInBounds i true) a' w')
  (hi:ops[i]?=some oi:=by (simp only [List.getElem?_toArray,List.getElem?_cons_zero,List.getElem?_cons_succ];try rfl)) (hrun:(execOp a.eval oi).run P w= .ok (.enter f xs) w:=by (go_simp;try with_reducible rfl)) (hw:Region.wanted oi (yielded ops a.tmps)=true:=by rfl):AtL P ops Q (Ov w0 K M) F fuel listed i a w:=
 x6m hi fun Kq hKq=>by
  rw [if_pos hw];unfold Oper.wp;rw [hrun,Oper.upon_enter];refine hC.mono fun e w' hR=>?_;obtain ⟨v,a',rfl,ha,hS,hW⟩:=h e w' hR;exact hKq.out _ _ (fun _=>hS) (fun _=>by rw [ha];exact hW)
end
set_option maxRecDepth 100000
set_option maxHeartbeats 40000000
attribute [local go_sem ↓] Go.wp_at_zero Go.wp_at_succ
theorem y6c (s t:ByteArray) (w0 w K:World) (M:List Ent) (H:Hp w0 w K M):
  Calls Tryz.prog 104 #[.string s,.string t] w fun e w'=>e= .returned (.agg #[.string s,.string t])∧Hp w0 w' K M:=by
 go_enter Tryz.func104,Tryz.ntmps104
 go_wp2_with (first|(refine oL H ?_)|(refine oP H ?_;clear H;intro w _ H))
 refine oB H ?_;exact ⟨rfl,H.fin⟩
theorem q0p (s t u:ByteArray) (w0 w K:World) (M:List Ent) (H:Hp w0 w K M):
  Calls Tryz.prog 101 #[.string s,.string t,.string u] w fun e w'=>e= .returned (.agg #[.bool false,.bool false,.string ⟨#[]⟩,.string s,.slice none 0 0,.string t,.string u,.slice none 0 0,.int .i64 0,.int .i64 0])∧Hp w0 w' K M:=by
 go_enter Tryz.func101,Tryz.ntmps101
 go_wp2_with (first|(refine oL H ?_)|(refine oP H ?_;clear H;intro w _ H)|((with_reducible refine (y6c t u _ _ _ _ H).mono ?_);clear H;rintro e w ⟨rfl,H⟩))
 refine oB H ?_;exact ⟨rfl,H.fin⟩
theorem x6n (s:ByteArray) (A:Option Addr) (n c:Nat) (w0 w K:World) (M:List Ent) (H:Hp w0 w K M):
  Calls Tryz.prog 100 #[.string s,.slice A n c] w fun e w'=>e= .returned (.agg #[.int .i64 3,.bool false,.bool false,.bool false,.string ⟨#[]⟩,.string s,.slice none 0 0,.slice none 0 0,.slice A n c,.slice none 0 0,.slice none 0 0,.slice none 0 0,.slice none 0 0,.bool false,.slice none 0 0,.int .i64 0,.int .i64 0])∧Hp w0 w' K M:=by
 go_enter Tryz.func100,Tryz.ntmps100
 go_wp2_with (first|(refine oL H ?_)|(refine oP H ?_;clear H;intro w _ H))
 refine oB H ?_;exact ⟨rfl,H.fin⟩
def q5u:Txt:=[102,97,108,115,101]
def x03:Txt:=[66,111,111,108,101,97,110]
def incT:Txt:=[105,110,99,108,117,100,101,68,101,112,114,101,99,97,116,101,100]
def incD:InputD:=⟨y6r,incT,(x03,[]),true,.mk 5 q5u false [] [] 0 0,[],0,0⟩
def AllP (s t:ByteArray) (w0 K:World) (M:List Ent) (e:Ending) (w':World):Prop:=
 ∃K' A,e= .returned (.agg #[.bool false,.bool false,.string ⟨#[]⟩,.string s,.slice (some A) 1 1,.string t,.string ⟨#[33,93]⟩,.slice none 0 0,.int .i64 0,.int .i64 0])∧Sat K' K∧Hp w0 w' K' M∧RD K' (.list 1 (y0p [incD])) (.slice (some A) 1 1)
theorem RL.z {K:World}:RL K [] []:=.nil (Qab _)
theorem RD.z {K:World}:RD K (.list 0 []) (.slice Option.none 0 0):=.nil (Qab _)
theorem q2d (s t:ByteArray) (w0 w K:World) (M:List Ent) (H:Hp w0 w K M):
  Calls Tryz.prog 102 #[.string s,.string t] w (AllP s t w0 K M):=by
 go_enter Tryz.func102,Tryz.ntmps102
 go_upto_region 2 with (first|(refine oL H ?_)|(refine oA 4 H ?_;clear H;intro w g4 H)|(refine oA 5 H ?_;clear H;intro w g5 H)|(refine oP H ?_;clear H;intro w _ H))
 refine rB [4] H ?_;clear H;intro w H;refine rT 1 H ?_;refine r2 0 3 ?_ ?_
 ·refine aC (y6c ⟨#[66,111,111,108,101,97,110]⟩ ⟨#[]⟩ _ _ _ _ H) ?_;clear H;rintro e w ⟨rfl,H⟩;refine rX H ?_;refine rT 2 H ?_;refine rW 3 H ?_;clear H;intro w g6 H;refine rL 4 H ?_;clear H;intro w _ H;refine rE ?_
  go_wp2_with fail
  refine rB [6] H ?_;clear H;intro w H;refine rT 0 H ?_;refine rT 1 H ?_;refine rT 3 H ?_;refine r2 2 4 ?_ ?_
  ·refine aW H ?_;clear H;intro w gs H;refine rC 4 (y6c t ⟨#[33,93]⟩ _ _ _ _ H) ?_;clear H;rintro e w ⟨rfl,H⟩;refine rX H ?_;refine rT 5 H ?_;refine rL 6 H ?_;clear H;intro w _ H;refine rE ?_
   go_wp2_with fail
   refine oB H ?_;replace H:Hp _ _ _ (.box gs _ _::M):=H.fin;obtain ⟨K1,h1,H,hd⟩:=H.freezeBox (n:=1) (ls:=y0p [incD]) (by unfold incD;exact .lit (.lit (.lit (.lit (.lit (.lit (.lit (.lit (.lit (.lit (.cons RD.z (.cons RD.z (.lit (.lit (.cons RD.z (.lit (.lit RL.z))))))))))))))))) (by simp [maxLen]);exact ⟨K1,_,rfl,h1,H,hd⟩
  ·refine aC (y6c t ⟨#[33,93]⟩ _ _ _ _ H) ?_;clear H;rintro e w ⟨rfl,H⟩;refine rX H ?_;refine rW 2 H ?_;clear H;intro w gs H;refine rT 5 H ?_;refine rL 6 H ?_;clear H;intro w _ H;refine rE ?_
   go_wp2_with fail
   refine oB H ?_;replace H:Hp _ _ _ (.box gs _ _::M):=H.fin;obtain ⟨K1,h1,H,hd⟩:=H.freezeBox (n:=1) (ls:=y0p [incD]) (by unfold incD;exact .lit (.lit (.lit (.lit (.lit (.lit (.lit (.lit (.lit (.lit (.cons RD.z (.cons RD.z (.lit (.lit (.cons RD.z (.lit (.lit RL.z))))))))))))))))) (by simp [maxLen]);exact ⟨K1,_,rfl,h1,H,hd⟩
 ·refine aW H ?_;clear H;intro w g6 H;refine rC 0 (y6c ⟨#[66,111,111,108,101,97,110]⟩ ⟨#[]⟩ _ _ _ _ H) ?_;clear H;rintro e w ⟨rfl,H⟩;refine rX H ?_;refine rT 2 H ?_;refine rL 4 H ?_;clear H;intro w _ H;refine rE ?_
  go_wp2_with fail
  refine rB [6] H ?_;clear H;intro w H;refine rT 0 H ?_;refine rT 1 H ?_;refine rT 3 H ?_;refine r2 2 4 ?_ ?_
  ·refine aW H ?_;clear H;intro w gs H;refine rC 4 (y6c t ⟨#[33,93]⟩ _ _ _ _ H) ?_;clear H;rintro e w ⟨rfl,H⟩;refine rX H ?_;refine rT 5 H ?_;refine rL 6 H ?_;clear H;intro w _ H;refine rE ?_
   go_wp2_with fail
   refine oB H ?_;replace H:Hp _ _ _ (.box gs _ _::M):=H.fin;obtain ⟨K1,h1,H,hd⟩:=H.freezeBox (n:=1) (ls:=y0p [incD]) (by unfold incD;exact .lit (.lit (.lit (.lit (.lit (.lit (.lit (.lit (.lit (.lit (.cons RD.z (.cons RD.z (.lit (.lit (.cons RD.z (.lit (.lit RL.z))))))))))))))))) (by simp [maxLen]);exact ⟨K1,_,rfl,h1,H,hd⟩
  ·refine aC (y6c t ⟨#[33,93]⟩ _ _ _ _ H) ?_;clear H;rintro e w ⟨rfl,H⟩;refine rX H ?_;refine rW 2 H ?_;clear H;intro w gs H;refine rT 5 H ?_;refine rL 6 H ?_;clear H;intro w _ H;refine rE ?_
   go_wp2_with fail
   refine oB H ?_;replace H:Hp _ _ _ (.box gs _ _::M):=H.fin;obtain ⟨K1,h1,H,hd⟩:=H.freezeBox (n:=1) (ls:=y0p [incD]) (by unfold incD;exact .lit (.lit (.lit (.lit (.lit (.lit (.lit (.lit (.lit (.lit (.cons RD.z (.cons RD.z (.lit (.lit (.cons RD.z (.lit (.lit RL.z))))))))))))))))) (by simp [maxLen]);exact ⟨K1,_,rfl,h1,H,hd⟩
end Go.Proofs.YtbpgkkoeehopjaaGreat.hp
namespace Go.Proofs.YtbpgkkoeehopjaaGreat.hp
open Go.RowKit words enc tree gram lex rd dec dat held
set_option maxRecDepth 100000
attribute [local go_sem ↓] Go.wp_at_zero Go.wp_at_succ
theorem y4n (l:List Txt):y1c l=l.flatMap fun x=>[str' x]:=by
 induction l with
 |nil=>rfl
 |cons x r ih=>rw [List.flatMap_cons,←ih];rfl
theorem z2i {w0 w K:World} {M:List Ent} {l:List Txt} {n c k:Nat} {A:Option Addr} {x:Txt} (H:Hp w0 w K M) (hd:RD K (.list n (y1c l)) (.slice A n c)) (hk:l[k]?=some x): ∃ad,A=some ad∧w.cell? (ad.add k)=some (.string (str x)):=by
 rw [y4n] at hd;obtain ⟨ad,vs,h1,h2,_,h4⟩:=y5y (m:=1) (f:=fun x=>[str' x]) (fun _=>rfl) H hd hk (by omega);obtain ⟨r,rfl,_⟩:=h2.lit_inv;exact ⟨ad,h1,by simpa using h4.1 _ rfl⟩
def valD (x:Txt):ValueD:=⟨y6r,x,[],0,0⟩
def plD (x:Txt):NamedD:=⟨x,0,0⟩
theorem x6o {K:World} {l:List Txt} {x:Txt} {vs:List Value} (h:RL K (y1q (l.map valD)) vs):RL K (y1q ((l++[x]).map valD)) (vs++[.bool false,.bool false,.string ⟨#[]⟩,.string (str x),.slice none 0 0,.int .i64 0,.int .i64 0]):=by
 rw [Qas,y5t];exact h.app (by simp only [List.map_cons,List.map_nil,y1q,List.flatMap_cons,List.flatMap_nil,List.append_nil];exact .lit (.lit (.lit (.lit (.cons RD.z (.lit (.lit RL.z)))))))
theorem q0q {K:World} {l:List Txt} {x:Txt} {vs:List Value} (h:RL K (y0v (l.map plD)) vs):RL K (y0v ((l++[x]).map plD)) (vs++[.string (str x),.int .i64 0,.int .i64 0]):=by
 rw [Qas,y5x];exact h.app (by simp only [List.map_cons,List.map_nil,y0v,List.flatMap_cons,List.flatMap_nil,List.append_nil];exact .lit (.lit (.lit RL.z)))
def q6y (s:ByteArray) (l:List Txt) (w0 K:World) (M:List Ent) (e:Ending) (w':World):Prop:=
 ∃K' A c,e= .returned (.agg #[.int .i64 6,.bool false,.bool false,.bool false,.string ⟨#[]⟩,.string s,.slice none 0 0,.slice none 0 0,.slice none 0 0,.slice none 0 0,.slice none 0 0,.slice A l.length c,.slice none 0 0,.bool false,.slice none 0 0,.int .i64 0,.int .i64 0])∧Sat K' K∧Hp w0 w' K' M∧RD K' (.list l.length (y1q (l.map valD))) (.slice A l.length c)
set_option maxHeartbeats 4000000 in
theorem x6p (s:ByteArray) (l:List Txt) (n c:Nat) (A:Option Addr) (w0 w K:World) (M:List Ent) (H:Hp w0 w K M) (hl:l.length=n) (hn:n≤1000000) (hd:RD K (.list n (y1c l)) (.slice A n c)):
  Calls Tryz.prog 103 #[.string s,.slice A n c] w (q6y s l w0 K M):=by
 obtain ⟨k0,hk0,k0z,k0s,k0b⟩:=info_parts z31;have HL:=hide hl;clear hl;go_enter Tryz.func103,Tryz.ntmps103
 go_upto_region 3 with (first
  |((with_reducible refine isL ?_);first
   |(refine al z43 4 H ?_;clear H;intro w1 g4 H)
   |(refine al z43 5 H ?_;clear H;intro w3 g5 H)
   |(refine sA 5 0 H ?_;clear H;intro w5 H)))
 go_wp2_with fail
 go_loopw [12] (fun i wr=>∃(k:Nat) (V:Value) (vs:List Value),k≤n∧i= .int .i64 k∧Hp w0 wr K (.row 133 7 V k vs:: .box g5 [.int .i64 6,.bool false,.bool false,.bool false,.string ⟨#[]⟩,.string s,.slice none 0 0,.slice none 0 0,.slice none 0 0,.slice none 0 0,.slice none 0 0,V,.slice none 0 0,.bool false,.slice none 0 0,.int .i64 0,.int .i64 0] 43:: .box g4 [.int .i64 0,.bool false,.bool false,.bool false,.string ⟨#[]⟩,.string ⟨#[]⟩,.slice none 0 0,.slice none 0 0,.slice none 0 0,.slice none 0 0,.slice none 0 0,.slice none 0 0,.slice none 0 0,.bool false,.slice none 0 0,.int .i64 0,.int .i64 0] 43::M)∧RL K (y1q ((l.take k).map valD)) vs) (fun i _=>n - (intOf i).toNat)
 case atStart=>exact ⟨0,_,[],Qak _,rfl,H.nilRow 133 7,RL.z⟩
 case round=>
  clear H;obtain ⟨k,V,vs,hk,rfl,H,hvs⟩:=hrel;obtain ⟨Av,cv,rfl,_,_⟩:=H.slice (i:=0) rfl;by_cases hlt:k<n
  ·have hkI:(k:Int)<(n:Int):=by omega
   obtain ⟨x,hx⟩: ∃x,l[k]?=some x:=⟨_,Qad (by rw [HL.out];exact hlt)⟩;have HE:=hide (y1j hx);obtain ⟨ad,rfl,hc⟩:=z2i H hd hx;clear hx
   go_upto_region 5 with (fail)
   have:=H.c 1 11
   go_upto_region 6 with (first
    |(refine y2a (by rfl) 38 133 1 _ (by rfl) (some 20) (by rfl) Tryz.underlying38 [.bool false,.bool false,.string ⟨#[]⟩,.string (str x),.slice none 0 0,.int .i64 0,.int .i64 0] (by kernel_rfl) H ?_;clear H;intro w6 g20 H;have:=H.c 2 11)
    |(at_builtin;refine y3y (by rfl) _ _ 38 (by rfl) 133 k0 _ 7 80 Tryz.underlying38 hk0 k0z k0s k0b (by rfl) (by decide) H 1 (.slice Av k cv) (k) (vs) (by rfl) (by first|rfl|simp [Act.eval,Act.put]) (some ⟨g20,0,none⟩) 1 1 [.bool false,.bool false,.string ⟨#[]⟩,.string (str x),.slice none 0 0,.int .i64 0,.int .i64 0] (by first|rfl|simp [Act.eval,Act.put]) (by rfl) (H.rd (i:=0) rfl) (by simp [Value.oneCell']) (by simp only [maxLen];omega) (by omega) ?_;clear H;intro V2 w2 H;replace H:Hp w0 w2 K (.box g20 [.bool false,.bool false,.string ⟨#[]⟩,.string (str x),.slice none 0 0,.int .i64 0,.int .i64 0] 133:: .row 133 7 (V2) (k+1) (vs++[.bool false,.bool false,.string ⟨#[]⟩,.string (str x),.slice none 0 0,.int .i64 0,.int .i64 0]):: .box g5 [.int .i64 6,.bool false,.bool false,.bool false,.string ⟨#[]⟩,.string s,.slice none 0 0,.slice none 0 0,.slice none 0 0,.slice none 0 0,.slice none 0 0,.slice Av k cv,.slice none 0 0,.bool false,.slice none 0 0,.int .i64 0,.int .i64 0] 43:: .box g4 [.int .i64 0,.bool false,.bool false,.bool false,.string ⟨#[]⟩,.string ⟨#[]⟩,.slice none 0 0,.slice none 0 0,.slice none 0 0,.slice none 0 0,.slice none 0 0,.slice none 0 0,.slice none 0 0,.bool false,.slice none 0 0,.int .i64 0,.int .i64 0] 43::M):=H;obtain ⟨V2A,V2c,rfl,V2l,V2m⟩:=H.slice (i:=1) rfl;have:=H.c 2 11)
    |((with_reducible refine isL ?_);first
     |(refine s1 22 2 (.slice V2A (k+1) V2c) H ?_;clear H;intro w7 H;have:=H.c 2 11)))
   replace H:=H.sub (Qai _ (Qaa _ (Qaa _ (Qaa _ (Qam _)))))
   go_wp2_with fail
   go_roundw
   case rel=>exact ⟨k+1,_,_,by omega,by go_num,H,by rw [HE.out];exact x6o hvs⟩
   case measure=>simp [intOf];omega
  ·obtain rfl:n=k:=by omega
   have htk:l.take n=l:=by rw [←HL.out];exact List.take_length
   rw [htk] at hvs;clear htk
   go_upto_region 7 with (fail)
   go_wp2_with (first
    |((with_reducible refine isL ?_);first
     |(refine ld 5 1 17 Tryz.underlying43 H ?_)
     |(refine sA 4 2 H ?_;clear H;intro w8 H)))
   refine bodyPost_ret (v:=.agg #[.int .i64 6,.bool false,.bool false,.bool false,.string ⟨#[]⟩,.string s,.slice none 0 0,.slice none 0 0,.slice none 0 0,.slice none 0 0,.slice none 0 0,.slice Av n cv,.slice none 0 0,.bool false,.slice none 0 0,.int .i64 0,.int .i64 0]) (results_cell_row rfl _ _ g4 43 _ (0,0) _ (by rfl) (H.blkAt (i:=2) rfl) Tryz.underlying43 rfl (by kernel_rfl)) rfl ?_;replace H:=H.sub (Qaa _ (Qai _ (Qai _ (Qam _))));obtain ⟨K',hle,H,hv⟩:=H.freezeRow hvs;have hl':=HL.out;exact ⟨K',Av,cv,by rw [hl'],hle,H,by rw [hl'];exact hv⟩
def DirP (s:ByteArray) (arg:InputD) (l:List Txt) (w0 K:World) (M:List Ent) (e:Ending) (w':World):Prop:=
 ∃K' g A c,e= .returned (.agg #[.int .i64 8,.bool false,.bool false,.bool false,.string ⟨#[]⟩,.string s,.slice none 0 0,.slice none 0 0,.slice none 0 0,.slice (some ⟨g,0,none⟩) 1 1,.slice none 0 0,.slice none 0 0,.slice none 0 0,.bool false,.slice A l.length c,.int .i64 0,.int .i64 0])∧Sat K' K∧Hp w0 w' K' M∧RD K' (.list l.length (y0v (l.map plD))) (.slice A l.length c)∧RD K' (.list 1 (y0p [arg])) (.slice (some ⟨g,0,none⟩) 1 1)
set_option maxHeartbeats 4000000 in
theorem y1x (s:ByteArray) (arg:InputD) (a0 a1 a2 a3 a4 a5 a6 a7 a8 a9 a10 a11 a12 a13 a14 a15 a16:Value) (l:List Txt) (n c:Nat) (A:Option Addr) (w0 w K:World) (M:List Ent) (H:Hp w0 w K M) (hl:l.length=n) (hn:n≤1000000) (hd:RD K (.list n (y1c l)) (.slice A n c)) (ha:RL K (y3v arg) [a0,a1,a2,a3,a4,a5,a6,a7,a8,a9,a10,a11,a12,a13,a14,a15,a16]):
  Calls Tryz.prog 105 #[.string s,.agg #[a0,a1,a2,a3,a4,a5,a6,a7,a8,a9,a10,a11,a12,a13,a14,a15,a16],.slice A n c] w (DirP s arg l w0 K M):=by
 obtain ⟨k0,hk0,k0z,k0s,k0b⟩:=info_parts Go.Proofs.YtbpgkkoeehopjaaGreat.dat.named_info;have HL:=hide hl;clear hl;have hone:=ha.one;go_enter Tryz.func105,Tryz.ntmps105;have hK:=Sat.refl K
 go_upto_region 3 with (first
  |(refine z0y (by rfl) 123 (.tmp 1) (by rfl) [a0,a1,a2,a3,a4,a5,a6,a7,a8,a9,a10,a11,a12,a13,a14,a15,a16] _ (by rfl) (by rfl) (some 4) (by rfl) H ?_;clear H;intro w9 g4 H hg10;clear hg10)
  |(refine y2a (by rfl) 37 123 1 _ (by rfl) (some 12) (by rfl) Tryz.underlying37 [a0,a1,a2,a3,a4,a5,a6,a7,a8,a9,a10,a11,a12,a13,a14,a15,a16] (by kernel_rfl) H ?_;clear H;intro w13 g12 H;obtain ⟨K2,hle14,H,hin⟩:=H.freezeBox (n:=1) (ls:=y0p [arg]) ((by simpa [y0p] using ha)) (by simp only [maxLen];omega);replace hd:=hd.sat hle14;replace ha:=ha.sat hle14;replace hK:=hle14.trans hK)
  |((with_reducible refine isL ?_);first
   |(refine al z43 6 H ?_;clear H;intro w11 g6 H)
   |(refine ld 4 1 17 Tryz.underlying123 H ?_)
   |(refine al z43 7 H ?_;clear H;intro w15 g7 H)
   |(refine sA 7 0 H ?_;clear H;intro w17 H)))
 go_wp2_with fail
 go_loopw [16] (fun i wr=>∃(k:Nat) (V:Value) (vs:List Value),k≤n∧i= .int .i64 k∧Hp w0 wr K2 (.row 113 3 V k vs:: .box g7 [.int .i64 8,.bool false,.bool false,.bool false,.string ⟨#[]⟩,.string s,.slice none 0 0,.slice none 0 0,.slice none 0 0,.slice (some ⟨g12,0,none⟩) 1 1,.slice none 0 0,.slice none 0 0,.slice none 0 0,.bool false,V,.int .i64 0,.int .i64 0] 43:: .box g6 [.int .i64 0,.bool false,.bool false,.bool false,.string ⟨#[]⟩,.string ⟨#[]⟩,.slice none 0 0,.slice none 0 0,.slice none 0 0,.slice none 0 0,.slice none 0 0,.slice none 0 0,.slice none 0 0,.bool false,.slice none 0 0,.int .i64 0,.int .i64 0] 43::M)∧RL K2 (y0v ((l.take k).map plD)) vs) (fun i _=>n - (intOf i).toNat)
 case atStart=>exact ⟨0,_,[],Qak _,rfl,(H.sub (Qaa _ (Qaa _ (Qai _ (Qam _))))).nilRow 113 3,RL.z⟩
 case round=>
  clear H;obtain ⟨k,V,vs,hk,rfl,H,hvs⟩:=hrel;obtain ⟨Av,cv,rfl,_,_⟩:=H.slice (i:=0) rfl;by_cases hlt:k<n
  ·have hkI:(k:Int)<(n:Int):=by omega
   obtain ⟨x,hx⟩: ∃x,l[k]?=some x:=⟨_,Qad (by rw [HL.out];exact hlt)⟩;have HE:=hide (y1j hx);obtain ⟨ad,rfl,hc⟩:=z2i H hd hx;clear hx
   go_upto_region 5 with (fail)
   have:=H.c 1 14
   go_upto_region 6 with (first
    |(refine y2a (by rfl) 34 113 1 _ (by rfl) (some 24) (by rfl) Tryz.underlying34 [.string (str x),.int .i64 0,.int .i64 0] (by kernel_rfl) H ?_;clear H;intro w18 g24 H;have:=H.c 2 14)
    |(at_builtin;refine y3y (by rfl) _ _ 34 (by rfl) 113 k0 _ 3 32 Tryz.underlying34 hk0 k0z k0s k0b (by rfl) (by decide) H 1 (.slice Av k cv) (k) (vs) (by rfl) (by first|rfl|simp [Act.eval,Act.put]) (some ⟨g24,0,none⟩) 1 1 [.string (str x),.int .i64 0,.int .i64 0] (by first|rfl|simp [Act.eval,Act.put]) (by rfl) (H.rd (i:=0) rfl) (by simp [Value.oneCell']) (by simp only [maxLen];omega) (by omega) ?_;clear H;intro V2 w2 H;replace H:Hp w0 w2 K2 (.box g24 [.string (str x),.int .i64 0,.int .i64 0] 113:: .row 113 3 (V2) (k+1) (vs++[.string (str x),.int .i64 0,.int .i64 0]):: .box g7 [.int .i64 8,.bool false,.bool false,.bool false,.string ⟨#[]⟩,.string s,.slice none 0 0,.slice none 0 0,.slice none 0 0,.slice (some ⟨g12,0,none⟩) 1 1,.slice none 0 0,.slice none 0 0,.slice none 0 0,.bool false,.slice Av k cv,.int .i64 0,.int .i64 0] 43:: .box g6 [.int .i64 0,.bool false,.bool false,.bool false,.string ⟨#[]⟩,.string ⟨#[]⟩,.slice none 0 0,.slice none 0 0,.slice none 0 0,.slice none 0 0,.slice none 0 0,.slice none 0 0,.slice none 0 0,.bool false,.slice none 0 0,.int .i64 0,.int .i64 0] 43::M):=H;obtain ⟨V2A,V2c,rfl,V2l,V2m⟩:=H.slice (i:=1) rfl;have:=H.c 2 14)
    |((with_reducible refine isL ?_);first
     |(refine s1 26 2 (.slice V2A (k+1) V2c) H ?_;clear H;intro w19 H;have:=H.c 2 14)))
   replace H:=H.sub (Qai _ (Qaa _ (Qaa _ (Qaa _ (Qam _)))))
   go_wp2_with fail
   go_roundw
   case rel=>exact ⟨k+1,_,_,by omega,by go_num,H,by rw [HE.out];exact q0q hvs⟩
   case measure=>simp [intOf];omega
  ·obtain rfl:n=k:=by omega
   have htk:l.take n=l:=by rw [←HL.out];exact List.take_length
   rw [htk] at hvs;clear htk
   go_upto_region 7 with (fail)
   go_wp2_with (first
    |((with_reducible refine isL ?_);first
     |(refine ld 7 1 17 Tryz.underlying43 H ?_)
     |(refine sA 6 2 H ?_;clear H;intro w20 H)))
   refine bodyPost_ret (v:=.agg #[.int .i64 8,.bool false,.bool false,.bool false,.string ⟨#[]⟩,.string s,.slice none 0 0,.slice none 0 0,.slice none 0 0,.slice (some ⟨g12,0,none⟩) 1 1,.slice none 0 0,.slice none 0 0,.slice none 0 0,.bool false,.slice Av n cv,.int .i64 0,.int .i64 0]) (results_cell_row rfl _ _ g6 43 _ (0,0) _ (by rfl) (H.blkAt (i:=2) rfl) Tryz.underlying43 rfl (by kernel_rfl)) rfl ?_;replace H:=H.sub (Qaa _ (Qai _ (Qai _ (Qam _))));obtain ⟨K',hle,H,hv⟩:=H.freezeRow hvs;have hl':=HL.out;exact ⟨K',g12,Av,cv,by rw [hl'],hle.trans hK,H,by rw [hl'];exact hv,hin.sat hle⟩
set_option maxHeartbeats 40000000
def fD (s t u:Txt):FieldD:=⟨y6r,s,[],(t,u),[],0,0⟩
def aD (s t:Txt):FieldD:=⟨y6r,s,[incD],(t,[33,93]),[],0,0⟩
def scD (s:Txt):DefD:=⟨2,false,y6r,s,[],[],[],[],[],[],[],false,[],0,0⟩
def obD (s:Txt) (l:List FieldD):DefD:=⟨3,false,y6r,s,[],[],l,[],[],[],[],false,[],0,0⟩
def enD (s:Txt) (l:List Txt):DefD:=⟨6,false,y6r,s,[],[],[],[],[],l.map valD,[],false,[],0,0⟩
section
variable {K : World}
theorem rf_f {s t u:Txt} {r:List FieldD} {ys:List Value} (h:RL K (y0u r) ys):RL K (y0u (fD s t u::r)) (.bool false:: .bool false:: .string ⟨#[]⟩:: .string (str s):: .slice none 0 0:: .string (str t):: .string (str u):: .slice none 0 0:: .int .i64 0:: .int .i64 0::ys):=
 .lit (.lit (.lit (.lit (.cons RD.z (.lit (.lit (.cons RD.z (.lit (.lit h)))))))))
theorem rf_a {s t:Txt} {r:List FieldD} {ys:List Value} {v:Value} (h:RL K (y0u r) ys) (hi:RD K (.list 1 (y0p [incD])) v):RL K (y0u (aD s t::r)) (.bool false:: .bool false:: .string ⟨#[]⟩:: .string (str s)::v:: .string (str t):: .string ⟨#[33,93]⟩:: .slice none 0 0:: .int .i64 0:: .int .i64 0::ys):=
 .lit (.lit (.lit (.lit (.cons hi (.lit (.lit (.cons RD.z (.lit (.lit h)))))))))
theorem rt_s {x:Txt} {r:List Txt} {ys:List Value} (h:RL K (y1c r) ys):RL K (y1c (x::r)) (.string (str x)::ys):=.lit h
theorem q5v:RL K (y0s []) []:=RL.z
theorem q6z {s:Txt}:RL K (defL (scD s)) [.int .i64 2,.bool false,.bool false,.bool false,.string ⟨#[]⟩,.string (str s),.slice none 0 0,.slice none 0 0,.slice none 0 0,.slice none 0 0,.slice none 0 0,.slice none 0 0,.slice none 0 0,.bool false,.slice none 0 0,.int .i64 0,.int .i64 0]:=
 y1r RD.z RD.z RD.z RD.z RD.z RD.z RD.z RD.z
theorem x3e {s:Txt} {l:List FieldD} {v:Value} {r:List DefD} {ys:List Value} (h:RL K (y0s r) ys) (hl:RD K (.list l.length (y0u l)) v):RL K (y0s (obD s l::r)) (.int .i64 3:: .bool false:: .bool false:: .bool false:: .string ⟨#[]⟩:: .string (str s):: .slice none 0 0:: .slice none 0 0::v:: .slice none 0 0:: .slice none 0 0:: .slice none 0 0:: .slice none 0 0:: .bool false:: .slice none 0 0:: .int .i64 0:: .int .i64 0::ys):=
 DatL.app (y1r RD.z RD.z hl RD.z RD.z RD.z RD.z RD.z) h
theorem q5w {s:Txt} {l:List Txt} {v:Value} {r:List DefD} {ys:List Value} (h:RL K (y0s r) ys) (hl:RD K (.list l.length (y1q (l.map valD))) v):RL K (y0s (enD s l::r)) (.int .i64 6:: .bool false:: .bool false:: .bool false:: .string ⟨#[]⟩:: .string (str s):: .slice none 0 0:: .slice none 0 0:: .slice none 0 0:: .slice none 0 0:: .slice none 0 0::v:: .slice none 0 0:: .bool false:: .slice none 0 0:: .int .i64 0:: .int .i64 0::ys):=
 DatL.app (y1r RD.z RD.z RD.z RD.z RD.z (by simpa using hl) RD.z RD.z) h
theorem q0r {l:List Txt} {x:Txt} {vs:List Value} (h:RL K (y0s (l.map scD)) vs):RL K (y0s ((l++[x]).map scD)) (vs++[.int .i64 2,.bool false,.bool false,.bool false,.string ⟨#[]⟩,.string (str x),.slice none 0 0,.slice none 0 0,.slice none 0 0,.slice none 0 0,.slice none 0 0,.slice none 0 0,.slice none 0 0,.bool false,.slice none 0 0,.int .i64 0,.int .i64 0]):=by
 rw [Qas];unfold y0s at h ⊢;rw [Qbu];exact h.app (by simpa using q6z)
end
def scalT:List Txt:=[[73,110,116],[70,108,111,97,116],[83,116,114,105,110,103],[66,111,111,108,101,97,110],[73,68]]
def gf0:List FieldD:=[fD [100,101,115,99,114,105,112,116,105,111,110] [83,116,114,105,110,103] [],fD [116,121,112,101,115] [95,95,84,121,112,101] [33,93,33],fD [113,117,101,114,121,84,121,112,101] [95,95,84,121,112,101] [33],fD [109,117,116,97,116,105,111,110,84,121,112,101] [95,95,84,121,112,101] [],fD [115,117,98,115,99,114,105,112,116,105,111,110,84,121,112,101] [95,95,84,121,112,101] [],fD [100,105,114,101,99,116,105,118,101,115] [95,95,68,105,114,101,99,116,105,118,101] [33,93,33]]
def gd0:DefD:=obD [95,95,83,99,104,101,109,97] gf0
def gf1:List FieldD:=[fD [107,105,110,100] [95,95,84,121,112,101,75,105,110,100] [33],fD [110,97,109,101] [83,116,114,105,110,103] [],fD [100,101,115,99,114,105,112,116,105,111,110] [83,116,114,105,110,103] [],fD [115,112,101,99,105,102,105,101,100,66,121,85,82,76] [83,116,114,105,110,103] [],aD [102,105,101,108,100,115] [95,95,70,105,101,108,100],fD [105,110,116,101,114,102,97,99,101,115] [95,95,84,121,112,101] [33,93],fD [112,111,115,115,105,98,108,101,84,121,112,101,115] [95,95,84,121,112,101] [33,93],aD [101,110,117,109,86,97,108,117,101,115] [95,95,69,110,117,109,86,97,108,117,101],fD [105,110,112,117,116,70,105,101,108,100,115] [95,95,73,110,112,117,116,86,97,108,117,101] [33,93],fD [111,102,84,121,112,101] [95,95,84,121,112,101] []]
def gd1:DefD:=obD [95,95,84,121,112,101] gf1
def ge2:List Txt:=[[83,67,65,76,65,82],[79,66,74,69,67,84],[73,78,84,69,82,70,65,67,69],[85,78,73,79,78],[69,78,85,77],[73,78,80,85,84,95,79,66,74,69,67,84],[76,73,83,84],[78,79,78,95,78,85,76,76]]
def gd2:DefD:=enD [95,95,84,121,112,101,75,105,110,100] ge2
def gf3:List FieldD:=[fD [110,97,109,101] [83,116,114,105,110,103] [33],fD [100,101,115,99,114,105,112,116,105,111,110] [83,116,114,105,110,103] [],fD [97,114,103,115] [95,95,73,110,112,117,116,86,97,108,117,101] [33,93,33],fD [116,121,112,101] [95,95,84,121,112,101] [33],fD [105,115,68,101,112,114,101,99,97,116,101,100] [66,111,111,108,101,97,110] [33],fD [100,101,112,114,101,99,97,116,105,111,110,82,101,97,115,111,110] [83,116,114,105,110,103] []]
def gd3:DefD:=obD [95,95,70,105,101,108,100] gf3
def gf4:List FieldD:=[fD [110,97,109,101] [83,116,114,105,110,103] [33],fD [100,101,115,99,114,105,112,116,105,111,110] [83,116,114,105,110,103] [],fD [116,121,112,101] [95,95,84,121,112,101] [33],fD [100,101,102,97,117,108,116,86,97,108,117,101] [83,116,114,105,110,103] []]
def gd4:DefD:=obD [95,95,73,110,112,117,116,86,97,108,117,101] gf4
def gf5:List FieldD:=[fD [110,97,109,101] [83,116,114,105,110,103] [33],fD [100,101,115,99,114,105,112,116,105,111,110] [83,116,114,105,110,103] [],fD [105,115,68,101,112,114,101,99,97,116,101,100] [66,111,111,108,101,97,110] [33],fD [100,101,112,114,101,99,97,116,105,111,110,82,101,97,115,111,110] [83,116,114,105,110,103] []]
def gd5:DefD:=obD [95,95,69,110,117,109,86,97,108,117,101] gf5
def gf6:List FieldD:=[fD [110,97,109,101] [83,116,114,105,110,103] [33],fD [100,101,115,99,114,105,112,116,105,111,110] [83,116,114,105,110,103] [],fD [108,111,99,97,116,105,111,110,115] [95,95,68,105,114,101,99,116,105,118,101,76,111,99,97,116,105,111,110] [33,93,33],fD [97,114,103,115] [95,95,73,110,112,117,116,86,97,108,117,101] [33,93,33],fD [105,115,82,101,112,101,97,116,97,98,108,101] [66,111,111,108,101,97,110] [33]]
def gd6:DefD:=obD [95,95,68,105,114,101,99,116,105,118,101] gf6
def ge7:List Txt:=[[81,85,69,82,89],[77,85,84,65,84,73,79,78],[83,85,66,83,67,82,73,80,84,73,79,78],[70,73,69,76,68],[70,82,65,71,77,69,78,84,95,68,69,70,73,78,73,84,73,79,78],[70,82,65,71,77,69,78,84,95,83,80,82,69,65,68],[73,78,76,73,78,69,95,70,82,65,71,77,69,78,84],[86,65,82,73,65,66,76,69,95,68,69,70,73,78,73,84,73,79,78],[83,67,72,69,77,65],[83,67,65,76,65,82],[79,66,74,69,67,84],[70,73,69,76,68,95,68,69,70,73,78,73,84,73,79,78],[65,82,71,85,77,69,78,84,95,68,69,70,73,78,73,84,73,79,78],[73,78,84,69,82,70,65,67,69],[85,78,73,79,78],[69,78,85,77],[69,78,85,77,95,86,65,76,85,69],[73,78,80,85,84,95,79,66,74,69,67,84],[73,78,80,85,84,95,70,73,69,76,68,95,68,69,70,73,78,73,84,73,79,78]]
def gd7:DefD:=enD [95,95,68,105,114,101,99,116,105,118,101,76,111,99,97,116,105,111,110] ge7
def givenT:List DefD:=scalT.map scD++[gd0,gd1,gd2,gd3,gd4,gd5,gd6,gd7]
theorem q60 {K:World} {v:Value} (h:RD K (.list (5+8) (y0s (scalT.map scD)++y0s [gd0,gd1,gd2,gd3,gd4,gd5,gd6,gd7])) v):RD K (.list givenT.length (y0s givenT)) v:=by
 rw [show givenT.length=5+8 from rfl,show y0s givenT=y0s (scalT.map scD)++y0s [gd0,gd1,gd2,gd3,gd4,gd5,gd6,gd7] from by unfold givenT y0s;rw [Qbu]];exact h
def BtP (l:List DefD) (w0 K:World) (M:List Ent) (e:Ending) (w':World):Prop:=
 ∃K' A c,e= .returned (.slice A l.length c)∧Sat K' K∧Hp w0 w' K' M∧RD K' (.list l.length (y0s l)) (.slice A l.length c)
def fV (f:FieldD) (v:Value):List Value:=[.bool false,.bool false,.string ⟨#[]⟩,.string (str f.name),v,.string (str f.ty.1),.string (str f.ty.2),.slice none 0 0,.int .i64 0,.int .i64 0]
def fVs (l:List FieldD):List Value:=l.flatMap fun f=>fV f (.slice none 0 0)
def z38 (f:FieldD):Prop:=f=fD f.name f.ty.1 f.ty.2
theorem z4a {K:World}: ∀{l:List FieldD},(∀f∈l,z38 f)→RL K (y0u l) (fVs l)
 |[],_=>RL.z
 |f::r,h=>by
  have e:f=fD f.name f.ty.1 f.ty.2:=h f (Qaz ..);rw [e];exact rf_f (z4a fun f hf=>h f (Qa2 _ hf))
theorem x6q {K:World}: ∀l:List Txt,RL K (y1c l) (l.map fun x=>.string (str x))
 |[]=>RL.z
 |x::r=>.lit (x6q r)
theorem q5x: ∀f∈gf0,z38 f:=by intro f hf;simp only [gf0,Qbd,List.mem_nil_iff,or_false] at hf;rcases hf with rfl|rfl|rfl|rfl|rfl|rfl<;>rfl
theorem q5y: ∀f∈gf3,z38 f:=by intro f hf;simp only [gf3,Qbd,List.mem_nil_iff,or_false] at hf;rcases hf with rfl|rfl|rfl|rfl|rfl|rfl<;>rfl
theorem q5z: ∀f∈gf4,z38 f:=by intro f hf;simp only [gf4,Qbd,List.mem_nil_iff,or_false] at hf;rcases hf with rfl|rfl|rfl|rfl<;>rfl
theorem q50: ∀f∈gf5,z38 f:=by intro f hf;simp only [gf5,Qbd,List.mem_nil_iff,or_false] at hf;rcases hf with rfl|rfl|rfl|rfl<;>rfl
theorem q51: ∀f∈gf6,z38 f:=by intro f hf;simp only [gf6,Qbd,List.mem_nil_iff,or_false] at hf;rcases hf with rfl|rfl|rfl|rfl|rfl<;>rfl
def fV1 (v1 v2:Value):List Value:=fVs (gf1.take 4)++(fV (aD [102,105,101,108,100,115] [95,95,70,105,101,108,100]) v1++(fVs ((gf1.drop 5).take 2)++(fV (aD [101,110,117,109,86,97,108,117,101,115] [95,95,69,110,117,109,86,97,108,117,101]) v2++fVs (gf1.drop 8))))
theorem q52 {K:World} {v1 v2:Value} (h1:RD K (.list 1 (y0p [incD])) v1) (h2:RD K (.list 1 (y0p [incD])) v2):RL K (y0u gf1) (fV1 v1 v2):=rf_f (rf_f (rf_f (rf_f (rf_a (rf_f (rf_f (rf_a (rf_f (rf_f RL.z)) h2))) h1))))
def obC (s:Txt) (v:Value):List Value:=[.int .i64 3,.bool false,.bool false,.bool false,.string ⟨#[]⟩,.string (str s),.slice none 0 0,.slice none 0 0,v,.slice none 0 0,.slice none 0 0,.slice none 0 0,.slice none 0 0,.bool false,.slice none 0 0,.int .i64 0,.int .i64 0]
def enC (s:Txt) (v:Value):List Value:=[.int .i64 6,.bool false,.bool false,.bool false,.string ⟨#[]⟩,.string (str s),.slice none 0 0,.slice none 0 0,.slice none 0 0,.slice none 0 0,.slice none 0 0,v,.slice none 0 0,.bool false,.slice none 0 0,.int .i64 0,.int .i64 0]
def gV (v0 v1 v2 v3 v4 v5 v6 v7:Value):List Value:=obC [95,95,83,99,104,101,109,97] v0++(obC [95,95,84,121,112,101] v1++(enC [95,95,84,121,112,101,75,105,110,100] v2++(obC [95,95,70,105,101,108,100] v3++(obC [95,95,73,110,112,117,116,86,97,108,117,101] v4++(obC [95,95,69,110,117,109,86,97,108,117,101] v5++(obC [95,95,68,105,114,101,99,116,105,118,101] v6++(enC [95,95,68,105,114,101,99,116,105,118,101,76,111,99,97,116,105,111,110] v7)))))))
theorem q61 {K:World} {v0 v1 v2 v3 v4 v5 v6 v7:Value} (h0:RD K (.list gf0.length (y0u gf0)) v0) (h1:RD K (.list gf1.length (y0u gf1)) v1) (h2:RD K (.list ge2.length (y1q (ge2.map valD))) v2) (h3:RD K (.list gf3.length (y0u gf3)) v3) (h4:RD K (.list gf4.length (y0u gf4)) v4) (h5:RD K (.list gf5.length (y0u gf5)) v5) (h6:RD K (.list gf6.length (y0u gf6)) v6) (h7:RD K (.list ge7.length (y1q (ge7.map valD))) v7):RL K (y0s [gd0,gd1,gd2,gd3,gd4,gd5,gd6,gd7]) (gV v0 v1 v2 v3 v4 v5 v6 v7):=x3e (x3e (q5w (x3e (x3e (x3e (x3e (q5w (RL.z) h7) h6) h5) h4) h3) h2) h1) h0
section
variable {w0 w K : World} {M : List Ent}
theorem q62 {l:List Txt} {n c k:Nat} {A:Option Addr} (h:RD K (.list n (y1c l)) (.slice A n c)) (hk:k<l.length): ∃ad x,A=some ad∧l[k]?=some x∧At K (ad.add k) [.string (str x)]:=by
 obtain ⟨ad,vs,h1,h2,_,_,h5,h6⟩:=y43 (m:=1) (f:=fun x=>[str' x]) (fun _=>rfl) (y4n l▸h) (Qad hk) (by omega);obtain ⟨r0,rfl,h0⟩:=h2.lit_inv;obtain rfl:=h0.nil_inv;rw [Nat.mul_one] at h5 h6;exact ⟨ad,_,h1,Qad hk,h5,h6⟩
theorem z5p (w0 w K:World) (M:List Ent) (H:Hp w0 w K M):
  Calls Tryz.prog 56 #[] w (BtP givenT w0 K M):=by
 have hK:=Sat.refl K;go_enter Tryz.func56,Tryz.ntmps56
 go_upto_region 3 with (refine oA 4 H ?_ (hd:=dbS (cs:=scalT.map fun x=>.string (str x)) (hcs:=by kernel_rfl));clear H;intro w g4 H;have hq9:=H.freezeBox (n:=5) (ls:=y1c scalT) (x6q scalT) (by simp [maxLen]);clear H;obtain ⟨K1,hle1,H,h4⟩:=hq9)
 obtain ⟨A4,hA4⟩: ∃A:Option Addr,some ⟨g4,0,none⟩=A:=⟨_,rfl⟩;rw [hA4] at h4 ⊢;clear hA4;replace hK:=hle1.trans hK
 go_wp2_with fail
 replace H:=H.nilRow 43 17
 go_loopw [1,6] (fun v i wr=>∃(k:Nat) (A':Option Addr) (c':Nat) (vs:List Value),k≤5∧i= .int .i64 k∧v= .slice A' k c'∧RL K1 (y0s ((scalT.take k).map scD)) vs∧Hp w0 wr K1 (.row 43 17 (.slice A' k c') k vs::M)) (fun _ i _=>5 - (intOf i).toNat)
 case atStart=>exact ⟨0,none,0,[],Qak _,rfl,rfl,RL.z,H⟩
 case round=>
  clear H;obtain ⟨k,A',c',vs,hk,rfl,rfl,hvs,H⟩:=hrel;have h5:scalT.length=5:=rfl;by_cases hlt:k<5
  ·obtain ⟨ad,x,rfl,hx,hat⟩:=q62 h4 (k:=k) (by rw [h5];exact hlt)
   have hkI:(k:Int)<5:=by omega
   have hkJ:(k:Int)<((5:Nat):Int):=by omega
   have hwr:IntKind.i64.wrap ((k:Int)+1)=k+1:=IntWalk.i64_in _ (by omega);have HX:=hide (y1j hx);clear hx h5
   go_wp2_with (first|(refine oL H ?_)|(refine oP H ?_;clear H;intro w _ H)|(refine oQ H ?_;clear H;intro A' c' w _ _ H;dsimp only [List.set] at H))
   go_roundw
   case rel=>exact ⟨k+1,_,_,_,by omega,by go_num,rfl,by rw [HX.out];exact q0r hvs,H.fin⟩
   case measure=>simp [intOf];omega
  ·obtain rfl:k=5:=by omega
   rw [Qaj (by rw [h5];exact Qab _)] at hvs;clear h4 h5;have m1:True:=trivial;have m2:True:=trivial
   go_wp2_with (first|(go_at_call 101;refine (q0p _ _ _ _ _ _ _ H).mono ?_;clear H;rintro e w ⟨rfl,H⟩)|(go_at_call 100;refine (x6n _ _ _ _ _ _ _ _ H).mono ?_;clear H;rintro e w ⟨rfl,H⟩)|(go_at_call 102;clear m1;refine (q2d _ _ _ _ _ _ H).mono ?_;clear H;rintro e w ⟨K2,Aa,rfl,hle,H,ha1⟩;replace hK:=hle.trans hK;replace hvs:=hvs.sat hle;(try replace h23:=h23.sat hle);(try replace h35:=h35.sat hle);(try replace h37:=h37.sat hle);(try replace h45:=h45.sat hle);(try replace h51:=h51.sat hle);(try replace h57:=h57.sat hle);(try replace h64:=h64.sat hle);(try replace h66:=h66.sat hle);(try replace ha1:=ha1.sat hle);(try replace ha2:=ha2.sat hle);clear hle)|(go_at_call 102;clear m2;refine (q2d _ _ _ _ _ _ H).mono ?_;clear H;rintro e w ⟨K2,Ab,rfl,hle,H,ha2⟩;replace hK:=hle.trans hK;replace hvs:=hvs.sat hle;(try replace h23:=h23.sat hle);(try replace h35:=h35.sat hle);(try replace h37:=h37.sat hle);(try replace h45:=h45.sat hle);(try replace h51:=h51.sat hle);(try replace h57:=h57.sat hle);(try replace h64:=h64.sat hle);(try replace h66:=h66.sat hle);(try replace ha1:=ha1.sat hle);(try replace ha2:=ha2.sat hle);clear hle)|(refine oA 23 H ?_ (hd:=dbS (cs:=fVs gf0) (hcs:=by kernel_rfl));clear H;intro w g23 H;have hq9:=H.freezeBox (n:=6) (ls:=y0u gf0) (z4a q5x) (by simp [maxLen]);clear H;obtain ⟨K2,hle,H,h23⟩:=hq9;replace hK:=hle.trans hK;replace hvs:=hvs.sat hle;(try replace h23:=h23.sat hle);(try replace h35:=h35.sat hle);(try replace h37:=h37.sat hle);(try replace h45:=h45.sat hle);(try replace h51:=h51.sat hle);(try replace h57:=h57.sat hle);(try replace h64:=h64.sat hle);(try replace h66:=h66.sat hle);(try replace ha1:=ha1.sat hle);(try replace ha2:=ha2.sat hle);clear hle)|(refine oA 35 H ?_ (hd:=dbS (cs:=fV1 (.slice (some Aa) 1 1) (.slice (some Ab) 1 1)) (hcs:=by kernel_rfl));clear H;intro w g35 H;have hq9:=H.freezeBox (n:=10) (ls:=y0u gf1) (q52 ha1 ha2) (by simp [maxLen]);clear H;obtain ⟨K2,hle,H,h35⟩:=hq9;replace hK:=hle.trans hK;replace hvs:=hvs.sat hle;(try replace h23:=h23.sat hle);(try replace h35:=h35.sat hle);(try replace h37:=h37.sat hle);(try replace h45:=h45.sat hle);(try replace h51:=h51.sat hle);(try replace h57:=h57.sat hle);(try replace h64:=h64.sat hle);(try replace h66:=h66.sat hle);(try replace ha1:=ha1.sat hle);(try replace ha2:=ha2.sat hle);clear hle)|(refine oA 45 H ?_ (hd:=dbS (cs:=fVs gf3) (hcs:=by kernel_rfl));clear H;intro w g45 H;have hq9:=H.freezeBox (n:=6) (ls:=y0u gf3) (z4a q5y) (by simp [maxLen]);clear H;obtain ⟨K2,hle,H,h45⟩:=hq9;replace hK:=hle.trans hK;replace hvs:=hvs.sat hle;(try replace h23:=h23.sat hle);(try replace h35:=h35.sat hle);(try replace h37:=h37.sat hle);(try replace h45:=h45.sat hle);(try replace h51:=h51.sat hle);(try replace h57:=h57.sat hle);(try replace h64:=h64.sat hle);(try replace h66:=h66.sat hle);(try replace ha1:=ha1.sat hle);(try replace ha2:=ha2.sat hle);clear hle)|(refine oA 51 H ?_ (hd:=dbS (cs:=fVs gf4) (hcs:=by kernel_rfl));clear H;intro w g51 H;have hq9:=H.freezeBox (n:=4) (ls:=y0u gf4) (z4a q5z) (by simp [maxLen]);clear H;obtain ⟨K2,hle,H,h51⟩:=hq9;replace hK:=hle.trans hK;replace hvs:=hvs.sat hle;(try replace h23:=h23.sat hle);(try replace h35:=h35.sat hle);(try replace h37:=h37.sat hle);(try replace h45:=h45.sat hle);(try replace h51:=h51.sat hle);(try replace h57:=h57.sat hle);(try replace h64:=h64.sat hle);(try replace h66:=h66.sat hle);(try replace ha1:=ha1.sat hle);(try replace ha2:=ha2.sat hle);clear hle)|(refine oA 57 H ?_ (hd:=dbS (cs:=fVs gf5) (hcs:=by kernel_rfl));clear H;intro w g57 H;have hq9:=H.freezeBox (n:=4) (ls:=y0u gf5) (z4a q50) (by simp [maxLen]);clear H;obtain ⟨K2,hle,H,h57⟩:=hq9;replace hK:=hle.trans hK;replace hvs:=hvs.sat hle;(try replace h23:=h23.sat hle);(try replace h35:=h35.sat hle);(try replace h37:=h37.sat hle);(try replace h45:=h45.sat hle);(try replace h51:=h51.sat hle);(try replace h57:=h57.sat hle);(try replace h64:=h64.sat hle);(try replace h66:=h66.sat hle);(try replace ha1:=ha1.sat hle);(try replace ha2:=ha2.sat hle);clear hle)|(refine oA 64 H ?_ (hd:=dbS (cs:=fVs gf6) (hcs:=by kernel_rfl));clear H;intro w g64 H;have hq9:=H.freezeBox (n:=5) (ls:=y0u gf6) (z4a q51) (by simp [maxLen]);clear H;obtain ⟨K2,hle,H,h64⟩:=hq9;replace hK:=hle.trans hK;replace hvs:=hvs.sat hle;(try replace h23:=h23.sat hle);(try replace h35:=h35.sat hle);(try replace h37:=h37.sat hle);(try replace h45:=h45.sat hle);(try replace h51:=h51.sat hle);(try replace h57:=h57.sat hle);(try replace h64:=h64.sat hle);(try replace h66:=h66.sat hle);(try replace ha1:=ha1.sat hle);(try replace ha2:=ha2.sat hle);clear hle)|(refine oA 37 H ?_ (hd:=dbS (cs:=ge2.map fun x=>.string (str x)) (hcs:=by kernel_rfl));clear H;intro w g37 H;have hq9:=H.freezeBox (n:=8) (ls:=y1c ge2) (x6q ge2) (by simp [maxLen]);clear H;obtain ⟨K2,hle,H,e37⟩:=hq9;replace hK:=hle.trans hK;replace hvs:=hvs.sat hle;(try replace h23:=h23.sat hle);(try replace h35:=h35.sat hle);(try replace h37:=h37.sat hle);(try replace h45:=h45.sat hle);(try replace h51:=h51.sat hle);(try replace h57:=h57.sat hle);(try replace h64:=h64.sat hle);(try replace h66:=h66.sat hle);(try replace ha1:=ha1.sat hle);(try replace ha2:=ha2.sat hle);clear hle)|(refine oA 66 H ?_ (hd:=dbS (cs:=ge7.map fun x=>.string (str x)) (hcs:=by kernel_rfl));clear H;intro w g66 H;have hq9:=H.freezeBox (n:=19) (ls:=y1c ge7) (x6q ge7) (by simp [maxLen]);clear H;obtain ⟨K2,hle,H,e66⟩:=hq9;replace hK:=hle.trans hK;replace hvs:=hvs.sat hle;(try replace h23:=h23.sat hle);(try replace h35:=h35.sat hle);(try replace h37:=h37.sat hle);(try replace h45:=h45.sat hle);(try replace h51:=h51.sat hle);(try replace h57:=h57.sat hle);(try replace h64:=h64.sat hle);(try replace h66:=h66.sat hle);(try replace ha1:=ha1.sat hle);(try replace ha2:=ha2.sat hle);clear hle)|(go_at_call 103;refine (x6p _ ge2 8 _ _ _ _ _ _ H rfl (by decide) e37).mono ?_;clear H e37;rintro e w ⟨K2,A37,c37,rfl,hle,H,h37⟩;replace hK:=hle.trans hK;replace hvs:=hvs.sat hle;(try replace h23:=h23.sat hle);(try replace h35:=h35.sat hle);(try replace h37:=h37.sat hle);(try replace h45:=h45.sat hle);(try replace h51:=h51.sat hle);(try replace h57:=h57.sat hle);(try replace h64:=h64.sat hle);(try replace h66:=h66.sat hle);(try replace ha1:=ha1.sat hle);(try replace ha2:=ha2.sat hle);clear hle)|(go_at_call 103;refine (x6p _ ge7 19 _ _ _ _ _ _ H rfl (by decide) e66).mono ?_;clear H e66;rintro e w ⟨K2,A66,c66,rfl,hle,H,h66⟩;replace hK:=hle.trans hK;replace hvs:=hvs.sat hle;(try replace h23:=h23.sat hle);(try replace h35:=h35.sat hle);(try replace h37:=h37.sat hle);(try replace h45:=h45.sat hle);(try replace h51:=h51.sat hle);(try replace h57:=h57.sat hle);(try replace h64:=h64.sat hle);(try replace h66:=h66.sat hle);(try replace ha1:=ha1.sat hle);(try replace ha2:=ha2.sat hle);clear hle)|(refine oA 68 H ?_ (hd:=dbS (cs:=gV (.slice (some ⟨g23,0,none⟩) 6 6) (.slice (some ⟨g35,0,none⟩) 10 10) (.slice A37 8 c37) (.slice (some ⟨g45,0,none⟩) 6 6) (.slice (some ⟨g51,0,none⟩) 4 4) (.slice (some ⟨g57,0,none⟩) 4 4) (.slice (some ⟨g64,0,none⟩) 5 5) (.slice A66 19 c66)) (hcs:=by kernel_rfl));clear H;intro w g68 H;have hq9:=H.freezeBox (n:=8) (ls:=y0s [gd0,gd1,gd2,gd3,gd4,gd5,gd6,gd7]) (q61 h23 h35 h37 h45 h51 h57 h64 h66) (by simp [maxLen]);clear H;obtain ⟨K2,hle,H,hg⟩:=hq9;replace hK:=hle.trans hK;replace hvs:=hvs.sat hle)|(refine oR H ?_ (ls:=y0s [gd0,gd1,gd2,gd3,gd4,gd5,gd6,gd7]) (hlen:=rfl);clear H;intro us A5 c5 w hus _ _ _ H;dsimp only [List.set] at H))
   go_ret;obtain ⟨K3,hle3,H,hd⟩:=H.freezeRow (hvs.app hus);exact ⟨K3,_,_,rfl,hle3.trans hK,H,q60 hd⟩
end
end Go.Proofs.YtbpgkkoeehopjaaGreat.hp
namespace Go.Proofs.YtbpgkkoeehopjaaGreat.hp
open Go.RowKit words tree dat held
section
variable {P : Program} {w0 K0 : World} {M : List Ent} {Q : Exit → Act → World → Prop} {l : List Oper} {a0 : Act} {R : Tmp → World → Value → Prop}
def Has (l:List Oper) (listed:Array Bool) (t:Tmp):Prop:=∃j o,l[j]?=some o∧o.dst=some t∧listed.getD j false=true
structure Inv (w0 K0:World) (M:List Ent) (l:List Oper) (a0:Act) (R:Tmp→World→Value→Prop) (listed:Array Bool) (a:Act) (w K:World):Prop where
 le:Sat K K0
 hp:Hp w0 w K M
 defers:a.defers=a0.defers
 size:a.tmps.size=a0.tmps.size
 has: ∀t,Has l listed t→R t K (a.tmps.getD t undef)
 old: ∀t,¬Has l listed t→a.tmps.getD t undef=a0.tmps.getD t undef
def Law (P:Program) (w0 K0:World) (M:List Ent) (Q:Exit→Act→World→Prop) (l:List Oper) (a0:Act) (R:Tmp→World→Value→Prop) (o:Oper):Prop:=
 ∀(a:Act) (w K:World),Sat K K0→Hp w0 w K M→(∀j t,(o.after.toList.any fun e=>e.on==j&&Region.binds .any e)=true→(l[j]?).bind (·.dst)=some t→R t K (a.tmps.getD t undef))→(∀t,(l.all fun p=>p.dst !=some t)=true→a.tmps.getD t undef=a0.tmps.getD t undef)→
  ∀Kc:Act→World→Prop,(∀v w' K',Sat K' K→Hp w0 w' K' M→(∀t,o.dst=some t→R t K' v)→Kc (a.put o.dst v) w')→if Region.wanted o (yielded l.toArray a.tmps)=true then Oper.wp P o a w Kc Q else Kc (a.put o.dst undef) w
def q53 (l:List Oper):Bool:=l.zipIdx.all fun p=>p.1.after.toList.all fun e=>decide (e.on<p.2)
def dstB (l:List Oper) (n:Nat):Bool:=l.all fun o=>match o.dst with|some t=>decide (t<n)|none=>true
def unB:List Oper→Bool
 |[]=>true
 |o::r=>(r.all fun p=>match o.dst with|some t=>p.dst !=some t|none=>true)&&unB r
theorem x6r (h:q53 l=true): ∀(j:Nat) (o:Oper),l[j]?=some o→ ∀e∈o.after,Region.binds .any e=true→e.on<j:=fun j o hj e he _=>by
 have:=Qbi.1 h (o,j) (Qb0.2 hj);have:=Qbi.1 this e (by simpa using he);exact Qa6 this
theorem q0s {n:Nat} (h:dstB l n=true): ∀o∈l,∀t,o.dst=some t→t<n:=fun o ho t ht=>by
 have:=Qbi.1 h o ho;simpa [ht] using this
theorem x6s: ∀{l:List Oper},unB l=true→ ∀(i j:Nat) (o p:Oper) (t:Tmp),l[i]?=some o→l[j]?=some p→o.dst=some t→p.dst=some t→i=j
 |[],_,i,j,o,p,t,h1,_,_,_=>by simp at h1
 |q::r,h,i,j,o,p,t,h1,h2,h3,h4=>by
  simp only [unB,Qao] at h
  have far: ∀(x:Oper),x∈r→q.dst=some t→x.dst≠some t:=fun x hx hq he=>by
   have:=Qbi.1 h.1 x hx;simp [hq,he] at this
  cases i with
  |zero=>
   simp only [List.getElem?_cons_zero,Option.some.injEq] at h1;subst h1
   cases j with
   |zero=>rfl
   |succ j=>exact absurd h4 (far p (Qaf (by simpa using h2)) h3)
  |succ i=>
   cases j with
   |zero=>
    simp only [List.getElem?_cons_zero,Option.some.injEq] at h2;subst h2;exact absurd h3 (far o (Qaf (by simpa using h1)) h4)
   |succ j=>rw [x6s h.2 i j o p t (by simpa using h1) (by simpa using h2) h3 h4]
theorem x6t (hm:P.follows .mixedOrders=true) (hac:q53 l=true) (hdst:dstB l a0.tmps.size=true) (hun:unB l=true)
  (hR: ∀t K K' v,Sat K' K→R t K v→R t K' v) (laws: ∀o∈l,Law P w0 K0 M Q l a0 R o) {w:World} {id:Nat} (H:Hp w0 w K0 M)
  (hend: ∀a' w' K',Sat K' K0→Hp w0 w' K' M→a'.defers=a0.defers→a'.tmps.size=a0.tmps.size→(∀t,(l.any fun p=>p.dst==some t)=true→R t K' (a'.tmps.getD t undef))→(∀t,(l.all fun p=>p.dst !=some t)=true→a'.tmps.getD t undef=a0.tmps.getD t undef)→Q .normal a' w'):
  (Code.region id l.toArray true).wp P Q a0 w:=by
 refine wp_region_any hm ?_;have hac:=x6r hac;have hdst:=q0s hdst;have hun:=x6s hun
 have fin: ∀listed a w K,Inv w0 K0 M l a0 R listed a w K→(∀j,j<l.length→listed.getD j false=true)→Q .normal a w:=fun listed a w K h hall=>by
  refine hend a w K h.le h.hp h.defers h.size (fun t ht=>?_) (fun t ht=>h.old t (fun ⟨j,p,h1,h2,_⟩=>by have:=Qbi.1 ht p (Qaf h1);simp [h2] at this));obtain ⟨o,ho,ht⟩:=Qbh.1 ht;obtain ⟨j,hj,rfl⟩:=List.getElem_of_mem ho;exact h.has t ⟨j,_,Qad hj,by simpa using ht,hall j hj⟩
 have none_ready: ∀listed:Array Bool,listed.size=l.length→Region.ready .any l.toArray listed=[]→ ∀j,j<l.length→listed.getD j false=true:=by
  intro listed hs hr j
  induction j using Nat.strongRecOn with
  |_ j ih=>
   intro hj
   cases hb:listed.getD j false with
   |true=>rfl
   |false=>
    have hmem:j∈Region.ready .any l.toArray listed:=by
     refine mem_ready.2 ⟨?_,l[j],by simp [hj],fun e he hbd=>?_⟩
     ·rw [Qar] at hb ⊢;rw [Qbq (by omega)] at hb ⊢;exact hb
     ·have hlt:=hac j _ (Qad hj) e he hbd;exact ih e.on hlt (by omega)
    rw [hr] at hmem;cases hmem
 have main: ∀(fuel:Nat) (listed:Array Bool) (a:Act) (w K:World),listed.size=l.length→(listed.toList.filter (· =false)).length≤fuel→Inv w0 K0 M l a0 R listed a w K→wpAny P .any l.toArray Q fuel listed a w:=by
  intro fuel
  induction fuel with
  |zero=>
   intro listed a w K hs hc h
   have hall: ∀j,j<l.length→listed.getD j false=true:=by
    intro j hj;have h0:listed.toList.filter (· =false)=[]:=Qa0 (by omega);rw [List.filter_eq_nil_iff] at h0
    have hm:listed[j]'(by omega)∈listed.toList:=by simp
    have:=h0 _ hm;rw [Qar,Qbq (by omega)];simpa using this
   refine ⟨?_,fin listed a w K h hall⟩
   cases hr:Region.ready .any l.toArray listed with
   |nil=>rfl
   |cons i r=>
    obtain ⟨hun,o,ho,_⟩:=mem_ready.1 (show i∈Region.ready .any l.toArray listed by rw [hr];exact Qaz ..)
    have hil:i<l.length:=by have:=(Qan.1 ho).1;simpa using this
    have:=hall i hil;rw [Qar,Qbq (by omega)] at this hun;simp at this hun;rw [this] at hun;cases hun
  |succ fuel ih=>
   intro listed a w K hs hc h;refine ⟨fun hr=>fin listed a w K h (none_ready listed hs hr),fun i hi=>?_⟩;obtain ⟨hil,o,ho,hall⟩:=mem_ready.1 hi
   have hlt:i<l.length:=by have:=(Qan.1 ho).1;simpa using this
   have ho':l[i]?=some o:=by simpa using ho
   refine wpOp_step ho (fun K' hK=>?_);refine laws o (Qaf ho') a w K h.le h.hp (fun j t hany ht=>?_) (fun t ht=>h.old t (fun ⟨j,p,h1,h2,_⟩=>by have:=Qbi.1 ht p (Qaf h1);simp [h2] at this)) K' (fun v w' K1 hle H1 hv=>hK _ _ ?_)
   ·obtain ⟨e,he,hb⟩:=Qbh.1 hany;simp only [Qao,Qa7] at hb;obtain ⟨rfl,hb⟩:=hb;have hl:=hall e (by simpa using he) hb
    cases hq:l[e.on]? with
    |none=>rw [hq] at ht;cases ht
    |some p=>rw [hq] at ht;exact h.has t ⟨e.on,p,hq,ht,hl⟩
   ·refine ih (listed.setIfInBounds i true) _ _ K1 (by simpa using hs) ?_ ⟨hle.trans h.le,H1,?_,?_,?_,?_⟩
    ·have hi2:i<listed.size:=by omega
     have hf:listed[i]=false:=by
      rw [Qar,Qbq hi2] at hil;simpa using hil
     have hsp:listed.toList=listed.toList.take i++false::listed.toList.drop (i+1):=by
      have h1:listed.toList[i]'(by simpa using hi2)=false:=by simpa using hf
      conv=>lhs;rw [←List.take_append_drop i listed.toList,Qa1 (by simpa using hi2),h1]
     have hset:(listed.setIfInBounds i true).toList=listed.toList.take i++true::listed.toList.drop (i+1):=by
      rw [Array.toList_setIfInBounds,List.set_eq_take_append_cons_drop,if_pos (by simpa using hi2)]
     rw [hset];rw [hsp] at hc;simp only [List.filter_append,Qae,List.filter_cons] at hc ⊢;simp at hc ⊢;omega
    ·cases o.dst<;>exact h.defers
    ·cases o.dst with
     |none=>exact h.size
     |some d=>simp only [Act.put];rw [Array.size_setIfInBounds];exact h.size
    ·rintro t ⟨j,p,h1,h2,h3⟩;by_cases hji:i=j
     ·subst hji;rw [ho'] at h1;injection h1 with h1;subst h1;have hts:=hdst o (Qaf ho') t h2
      have hget:(a.put o.dst v).tmps.getD t undef=v:=by
       rw [h2];simp only [Act.put];rw [Qar,Array.getElem?_setIfInBounds_self_of_lt (by rw [h.size];exact hts)];rfl
      rw [hget];exact hv t h2
     ·have hne:o.dst≠some t:=fun e=>hji (hun i j o p t ho' h1 e h2)
      have hget:(a.put o.dst v).tmps.getD t undef=a.tmps.getD t undef:=by
       cases hd:o.dst with
       |none=>rfl
       |some d=>
        have hdt:d≠t:=fun e=>hne (by rw [hd,e]);simp only [Act.put];rw [Qar,Array.getElem?_setIfInBounds_ne hdt,←Qar]
      rw [hget];refine hR t K K1 _ hle (h.has t ⟨j,p,h1,h2,?_⟩);rw [getD_set_ne false hji] at h3;exact h3
    ·intro t ht;have hne:o.dst≠some t:=fun e=>ht ⟨i,o,ho',e,by rw [Qar,Array.getElem?_setIfInBounds_self_of_lt (by omega)];rfl⟩
     have hget:(a.put o.dst v).tmps.getD t undef=a.tmps.getD t undef:=by
      cases hd:o.dst with
      |none=>rfl
      |some d=>
       have hdt:d≠t:=fun e=>hne (by rw [hd,e]);simp only [Act.put];rw [Qar,Array.getElem?_setIfInBounds_ne hdt,←Qar]
     rw [hget];refine h.old t (fun ⟨j,p,h1,h2,h3⟩=>ht ⟨j,p,h1,h2,?_⟩);by_cases hji:i=j
     ·subst hji;rw [Qar,Array.getElem?_setIfInBounds_self_of_lt (by omega)];rfl
     ·rw [getD_set_ne false hji];exact h3
 refine main _ _ a0 w.drew K0 (by simp) ?_ ⟨Sat.refl _,H.drew1,rfl,rfl,?_,fun _ _=>rfl⟩
 ·exact Qah (Qb3 _ _) (by simp)
 ·rintro t ⟨j,o,_,_,h3⟩;rw [getD_replicate_false] at h3;cases h3
end
open enc gram lex rd dec
set_option maxRecDepth 100000
attribute [local go_sem ↓] Go.wp_at_zero Go.wp_at_succ
def ifT:Txt:=[105,102]
def x6u:Txt:=[83,116,114,105,110,103]
def z09:InputD:=⟨y6r,ifT,(x03,[33]),false,litZ,[],0,0⟩
def whyT:Txt:=[78,111,32,108,111,110,103,101,114,32,115,117,112,112,111,114,116,101,100]
def y8o:InputD:=⟨y6r,[114,101,97,115,111,110],(x6u,[]),true,.mk 4 whyT false [] [] 0 0,[],0,0⟩
def urlD:InputD:=⟨y6r,[117,114,108],(x6u,[33]),false,litZ,[],0,0⟩
def dirD (s:Txt) (arg:InputD) (l:List Txt):DefD:=⟨8,false,y6r,s,[],[],[],[arg],[],[],[],false,l.map plD,0,0⟩
def pl3:List Txt:=[[70,73,69,76,68],[70,82,65,71,77,69,78,84,95,83,80,82,69,65,68],[73,78,76,73,78,69,95,70,82,65,71,77,69,78,84]]
def pl2:List Txt:=[[70,73,69,76,68,95,68,69,70,73,78,73,84,73,79,78],[69,78,85,77,95,86,65,76,85,69]]
def pl1:List Txt:=[[83,67,65,76,65,82]]
def givenDirsD:List DefD:=[dirD [115,107,105,112] z09 pl3,dirD [105,110,99,108,117,100,101] z09 pl3,dirD [100,101,112,114,101,99,97,116,101,100] y8o pl2,dirD [115,112,101,99,105,102,105,101,100,66,121] urlD pl1]
abbrev condV:List Value:=[.bool false,.bool false,.string ⟨#[]⟩,.string ⟨#[105,102]⟩,.string ⟨#[66,111,111,108,101,97,110]⟩,.string ⟨#[33]⟩,.bool false,.int .i64 0,.string ⟨#[]⟩,.bool false,.slice none 0 0,.slice none 0 0,.int .i64 0,.int .i64 0,.slice none 0 0,.int .i64 0,.int .i64 0]
abbrev urlV:List Value:=[.bool false,.bool false,.string ⟨#[]⟩,.string ⟨#[117,114,108]⟩,.string ⟨#[83,116,114,105,110,103]⟩,.string ⟨#[33]⟩,.bool false,.int .i64 0,.string ⟨#[]⟩,.bool false,.slice none 0 0,.slice none 0 0,.int .i64 0,.int .i64 0,.slice none 0 0,.int .i64 0,.int .i64 0]
abbrev reasonV:List Value:=[.bool false,.bool false,.string ⟨#[]⟩,.string ⟨#[114,101,97,115,111,110]⟩,.string ⟨#[83,116,114,105,110,103]⟩,.string ⟨#[]⟩,.bool true,.int .i64 4,.string ⟨#[78,111,32,108,111,110,103,101,114,32,115,117,112,112,111,114,116,101,100]⟩,.bool false,.slice none 0 0,.slice none 0 0,.int .i64 0,.int .i64 0,.slice none 0 0,.int .i64 0,.int .i64 0]
theorem z1d {K:World}:RL K (y3v z09) condV:=by unfold z09;exact .lit (.lit (.lit (.lit (.lit (.lit (.lit (.lit (.lit (.lit (.cons RD.z (.cons RD.z (.lit (.lit (.cons RD.z (.lit (.lit RL.z))))))))))))))))
theorem x6v {K:World}:RL K (y3v urlD) urlV:=by unfold urlD;exact .lit (.lit (.lit (.lit (.lit (.lit (.lit (.lit (.lit (.lit (.cons RD.z (.cons RD.z (.lit (.lit (.cons RD.z (.lit (.lit RL.z))))))))))))))))
theorem z4b {K:World}:RL K (y3v y8o) reasonV:=by unfold y8o;exact .lit (.lit (.lit (.lit (.lit (.lit (.lit (.lit (.lit (.lit (.cons RD.z (.cons RD.z (.lit (.lit (.cons RD.z (.lit (.lit RL.z))))))))))))))))
def DirR (s:ByteArray) (arg:InputD) (n:Nat) (l:List Txt) (K:World) (v:Value):Prop:=
 ∃g A c,v= .agg #[.int .i64 8,.bool false,.bool false,.bool false,.string ⟨#[]⟩,.string s,.slice none 0 0,.slice none 0 0,.slice none 0 0,.slice (some ⟨g,0,none⟩) 1 1,.slice none 0 0,.slice none 0 0,.slice none 0 0,.bool false,.slice A n c,.int .i64 0,.int .i64 0]∧RD K (.list n (y0v (l.map plD))) (.slice A n c)∧RD K (.list 1 (y0p [arg])) (.slice (some ⟨g,0,none⟩) 1 1)
theorem DirR.sat {s:ByteArray} {arg:InputD} {n:Nat} {l:List Txt} {K K':World} {v:Value} (h:DirR s arg n l K v) (hs:Sat K' K):DirR s arg n l K' v:=by
 obtain ⟨g,A,c,h1,h2,h3⟩:=h;exact ⟨g,A,c,h1,h2.sat hs,h3.sat hs⟩
def SlR (n:Nat) (l:List Txt) (K:World) (v:Value):Prop:=∃g,v= .slice (some ⟨g,0,none⟩) n n∧RD K (.list n (y1c l)) v
theorem SlR.sat {n:Nat} {l:List Txt} {K K':World} {v:Value} (h:SlR n l K v) (hs:Sat K' K):SlR n l K' v:=h.imp fun _ h=>⟨h.1,h.2.sat hs⟩
def EndR (K:World) (v:Value):Prop:=∃g,v= .slice (some ⟨g,0,none⟩) 4 4∧RD K (.list 4 (y0s givenDirsD)) v
theorem EndR.sat {K K':World} {v:Value} (h:EndR K v) (hs:Sat K' K):EndR K' v:=h.imp fun _ h=>⟨h.1,h.2.sat hs⟩
def BdR (t:Nat) (K:World) (v:Value):Prop:=
 match t with
 |10=>v= .agg condV.toArray
 |13=>v= .agg condV.toArray
 |16=>v= .agg reasonV.toArray
 |20=>v= .agg urlV.toArray
 |19=>v= .agg #[.string ⟨#[83,116,114,105,110,103]⟩,.string ⟨#[33]⟩]
 |11=>SlR 3 pl3 K v
 |14=>SlR 3 pl3 K v
 |17=>SlR 2 pl2 K v
 |21=>SlR 1 pl1 K v
 |12=>DirR ⟨#[115,107,105,112]⟩ z09 3 pl3 K v
 |15=>DirR ⟨#[105,110,99,108,117,100,101]⟩ z09 3 pl3 K v
 |18=>DirR ⟨#[100,101,112,114,101,99,97,116,101,100]⟩ y8o 2 pl2 K v
 |22=>DirR ⟨#[115,112,101,99,105,102,105,101,100,66,121]⟩ urlD 1 pl1 K v
 |23=>EndR K v
 |0=>EndR K v
 |_=>True
theorem BdR.sat (t:Nat) (K K':World) (v:Value) (hs:Sat K' K) (h:BdR t K v):BdR t K' v:=by
 unfold BdR at h ⊢;split
 all_goals first|exact h|exact SlR.sat h hs|exact DirR.sat h hs|exact EndR.sat h hs|trivial
theorem x04 {K:World} {s:Txt} {arg:InputD} {l:List Txt} {n:Nat} {v v':Value} {r:List DefD} {ys:List Value} (hn:RD K (.list n (y0v (l.map plD))) v) (hi:RD K (.list 1 (y0p [arg])) v') (h:RL K (y0s r) ys) (hl:l.length=n:=by rfl):
  RL K (y0s (dirD s arg l::r)) (.int .i64 8:: .bool false:: .bool false:: .bool false:: .string ⟨#[]⟩:: .string (str s):: .slice none 0 0:: .slice none 0 0:: .slice none 0 0::v':: .slice none 0 0:: .slice none 0 0:: .slice none 0 0:: .bool false::v:: .int .i64 0:: .int .i64 0::ys):=by
 subst hl;exact DatL.app (y1r RD.z RD.z RD.z hi RD.z RD.z RD.z (by simpa using hn)) h
theorem x6w {K:World} {a b c d a' b' c' d':Value} (na:RD K (.list 3 (y0v (pl3.map plD))) a) (ia:RD K (.list 1 (y0p [z09])) a') (nb:RD K (.list 3 (y0v (pl3.map plD))) b) (ib:RD K (.list 1 (y0p [z09])) b') (nc:RD K (.list 2 (y0v (pl2.map plD))) c) (ic:RD K (.list 1 (y0p [y8o])) c') (nd:RD K (.list 1 (y0v (pl1.map plD))) d) (id:RD K (.list 1 (y0p [urlD])) d'):
  RL K (y0s givenDirsD) [.int .i64 8,.bool false,.bool false,.bool false,.string ⟨#[]⟩,.string ⟨#[115,107,105,112]⟩,.slice none 0 0,.slice none 0 0,.slice none 0 0,a',.slice none 0 0,.slice none 0 0,.slice none 0 0,.bool false,a,.int .i64 0,.int .i64 0,.int .i64 8,.bool false,.bool false,.bool false,.string ⟨#[]⟩,.string ⟨#[105,110,99,108,117,100,101]⟩,.slice none 0 0,.slice none 0 0,.slice none 0 0,b',.slice none 0 0,.slice none 0 0,.slice none 0 0,.bool false,b,.int .i64 0,.int .i64 0,.int .i64 8,.bool false,.bool false,.bool false,.string ⟨#[]⟩,.string ⟨#[100,101,112,114,101,99,97,116,101,100]⟩,.slice none 0 0,.slice none 0 0,.slice none 0 0,c',.slice none 0 0,.slice none 0 0,.slice none 0 0,.bool false,c,.int .i64 0,.int .i64 0,.int .i64 8,.bool false,.bool false,.bool false,.string ⟨#[]⟩,.string ⟨#[115,112,101,99,105,102,105,101,100,66,121]⟩,.slice none 0 0,.slice none 0 0,.slice none 0 0,d',.slice none 0 0,.slice none 0 0,.slice none 0 0,.bool false,d,.int .i64 0,.int .i64 0]:=x04 na ia (x04 nb ib (x04 nc ic (x04 nd id q5v)))
def BdP (w0 K:World) (M:List Ent) (e:Ending) (w':World):Prop:=
 ∃K' A c,e= .returned (.slice A 4 c)∧Sat K' K∧Hp w0 w' K' M∧RD K' (.list 4 (y0s givenDirsD)) (.slice A 4 c)
set_option maxHeartbeats 16000000 in
theorem z63 (w0 w K:World) (M:List Ent) (H:Hp w0 w K M):
  Calls Tryz.prog 57 #[] w (BdP w0 K M):=by
 go_enter Tryz.func57,Tryz.ntmps57
 go_upto_region 3 with (first
  |(go_at_call 104;refine (y6c _ _ _ _ _ _ H).mono ?_;clear H;rintro e x1 ⟨rfl,H⟩)
  |((with_reducible refine isL ?_);first
   |(refine al z123 1 H ?_;clear H;intro w2 g1 H)
   |(refine sA 1 0 H ?_;clear H;intro w4 H)
   |(refine al z121 2 H ?_;clear H;intro w5 g2 H)
   |(refine sA 2 0 H ?_;clear H;intro w7 H)))
 refine held.begin_ (fun w'=>w'.cell? ⟨g2,0,none⟩=some (.int .i64 4)∧w'.cell? ⟨g2,1,none⟩=some (.string ⟨#[78,111,32,108,111,110,103,101,114,32,115,117,112,112,111,114,116,101,100]⟩)∧w'.cell? ⟨g2,2,none⟩=some (.bool false)∧w'.cell? ⟨g2,3,none⟩=some (.slice none 0 0)∧w'.cell? ⟨g2,4,none⟩=some (.slice none 0 0)∧w'.cell? ⟨g2,5,none⟩=some (.int .i64 0)∧w'.cell? ⟨g2,6,none⟩=some (.int .i64 0)) [4] (by kernel_rfl) ?_;replace H:=H.drew1;obtain ⟨w8,hq9⟩: ∃x,(w7).drew=x:=⟨_,rfl⟩;rw [hq9] at H ⊢;clear hq9;have hS10:w8.cell? ⟨g2,0,none⟩=some (.int .i64 4)∧w8.cell? ⟨g2,1,none⟩=some (.string ⟨#[78,111,32,108,111,110,103,101,114,32,115,117,112,112,111,114,116,101,100]⟩)∧w8.cell? ⟨g2,2,none⟩=some (.bool false)∧w8.cell? ⟨g2,3,none⟩=some (.slice none 0 0)∧w8.cell? ⟨g2,4,none⟩=some (.slice none 0 0)∧w8.cell? ⟨g2,5,none⟩=some (.int .i64 0)∧w8.cell? ⟨g2,6,none⟩=some (.int .i64 0):=⟨H.cell (i:=0) rfl rfl,H.cell (i:=0) rfl rfl,H.cell (i:=0) rfl rfl,H.cell (i:=0) rfl rfl,H.cell (i:=0) rfl rfl,H.cell (i:=0) rfl rfl,H.cell (i:=0) rfl rfl⟩;refine tk 1 hS10 ?_;refine step2 (i:=0) (j:=3) (by kernel_rfl) rfl rfl (fun Kq hKq=>?_) (fun Kq hKq=>?_)
 ·skip
  go_simp
  refine (y6c _ _ _ _ _ _ H).mono ?_;clear H;rintro e x2 ⟨rfl,H⟩;replace H:Hp _ _ _ (_::_::M):=H
  try go_simp
  have hS11:x2.cell? ⟨g2,0,none⟩=some (.int .i64 4)∧x2.cell? ⟨g2,1,none⟩=some (.string ⟨#[78,111,32,108,111,110,103,101,114,32,115,117,112,112,111,114,116,101,100]⟩)∧x2.cell? ⟨g2,2,none⟩=some (.bool false)∧x2.cell? ⟨g2,3,none⟩=some (.slice none 0 0)∧x2.cell? ⟨g2,4,none⟩=some (.slice none 0 0)∧x2.cell? ⟨g2,5,none⟩=some (.int .i64 0)∧x2.cell? ⟨g2,6,none⟩=some (.int .i64 0):=⟨H.cell (i:=0) rfl rfl,H.cell (i:=0) rfl rfl,H.cell (i:=0) rfl rfl,H.cell (i:=0) rfl rfl,H.cell (i:=0) rfl rfl,H.cell (i:=0) rfl rfl,H.cell (i:=0) rfl rfl⟩;refine hKq.out _ _ (fun _=>hS11) (fun _=>?_);clear hKq Kq;refine tk 2 hS11 ?_;refine held.step (i:=3) (by kernel_rfl) rfl (fun Kq hKq=>?_)
  go_simp
  replace H:=H.alloc [.bool false,.bool false,.string ⟨#[]⟩,.string ⟨#[]⟩,.string ⟨#[]⟩,.string ⟨#[]⟩,.bool false,.int .i64 0,.string ⟨#[]⟩,.bool false,.slice none 0 0,.slice none 0 0,.int .i64 0,.int .i64 0,.slice none 0 0,.int .i64 0,.int .i64 0] 123;obtain ⟨w13,hq14⟩: ∃x,(x2).alloc (.cells #[.bool false,.bool false,.string ⟨#[]⟩,.string ⟨#[]⟩,.string ⟨#[]⟩,.string ⟨#[]⟩,.bool false,.int .i64 0,.string ⟨#[]⟩,.bool false,.slice none 0 0,.slice none 0 0,.int .i64 0,.int .i64 0,.slice none 0 0,.int .i64 0,.int .i64 0] 123)=x:=⟨_,rfl⟩;obtain ⟨g3,hg12⟩: ∃x,(x2).heap.size=x:=⟨_,rfl⟩;rw [hg12] at H ⊢;rw [hq14] at H ⊢;clear hg12 hq14;have hS15:w13.cell? ⟨g2,0,none⟩=some (.int .i64 4)∧w13.cell? ⟨g2,1,none⟩=some (.string ⟨#[78,111,32,108,111,110,103,101,114,32,115,117,112,112,111,114,116,101,100]⟩)∧w13.cell? ⟨g2,2,none⟩=some (.bool false)∧w13.cell? ⟨g2,3,none⟩=some (.slice none 0 0)∧w13.cell? ⟨g2,4,none⟩=some (.slice none 0 0)∧w13.cell? ⟨g2,5,none⟩=some (.int .i64 0)∧w13.cell? ⟨g2,6,none⟩=some (.int .i64 0):=⟨H.cell (i:=1) rfl rfl,H.cell (i:=1) rfl rfl,H.cell (i:=1) rfl rfl,H.cell (i:=1) rfl rfl,H.cell (i:=1) rfl rfl,H.cell (i:=1) rfl rfl,H.cell (i:=1) rfl rfl⟩;refine hKq.out _ _ (fun _=>hS15) (fun _=>?_);clear hKq Kq;refine held.step (i:=4) (by kernel_rfl) rfl (fun Kq hKq=>?_);refine y9g (by rfl) 123 (.tmp 3) (.tmp 9) (by rfl) g3 0 (by first|rfl|simp [Act.eval,Act.put]) (.agg #[.bool false,.bool false,.string ⟨#[]⟩,.string ⟨#[114,101,97,115,111,110]⟩,.string ⟨#[83,116,114,105,110,103]⟩,.string ⟨#[]⟩,.bool true,.int .i64 4,.string ⟨#[78,111,32,108,111,110,103,101,114,32,115,117,112,112,111,114,116,101,100]⟩,.bool false,.slice none 0 0,.slice none 0 0,.int .i64 0,.int .i64 0,.slice none 0 0,.int .i64 0,.int .i64 0]) (by first|rfl|simp [Act.eval,Act.put]) [.bool false,.bool false,.string ⟨#[]⟩,.string ⟨#[114,101,97,115,111,110]⟩,.string ⟨#[83,116,114,105,110,103]⟩,.string ⟨#[]⟩,.bool true,.int .i64 4,.string ⟨#[78,111,32,108,111,110,103,101,114,32,115,117,112,112,111,114,116,101,100]⟩,.bool false,.slice none 0 0,.slice none 0 0,.int .i64 0,.int .i64 0,.slice none 0 0,.int .i64 0,.int .i64 0] (by rfl) (by simp [Value.oneCell']) (by kernel_rfl) H 0 [.bool false,.bool false,.string ⟨#[]⟩,.string ⟨#[]⟩,.string ⟨#[]⟩,.string ⟨#[]⟩,.bool false,.int .i64 0,.string ⟨#[]⟩,.bool false,.slice none 0 0,.slice none 0 0,.int .i64 0,.int .i64 0,.slice none 0 0,.int .i64 0,.int .i64 0] [.bool false,.bool false,.string ⟨#[]⟩,.string ⟨#[114,101,97,115,111,110]⟩,.string ⟨#[83,116,114,105,110,103]⟩,.string ⟨#[]⟩,.bool true,.int .i64 4,.string ⟨#[78,111,32,108,111,110,103,101,114,32,115,117,112,112,111,114,116,101,100]⟩,.bool false,.slice none 0 0,.slice none 0 0,.int .i64 0,.int .i64 0,.slice none 0 0,.int .i64 0,.int .i64 0] 123 (by rfl) (Qbn (by rfl)) (by rfl) ?_;clear H;intro w16 H;refine hKq.out _ _ (fun h=>absurd (Qax.2 rfl) h) (fun _=>?_);clear hKq Kq;refine held.done (by kernel_rfl) ?_ _;simp only [Act.put,List.getElem_toArray,List.getElem_cons_zero,List.getElem_cons_succ,List.setIfInBounds_toArray,List.set_cons_zero,List.set_cons_succ];replace H:Hp _ _ _ (_::_::_::M):=H
  go_upto_region 4 with (fail)
  replace H:=H.sub (Qaa _ (Qai _ (Qaa _ (Qam _))));refine x6t (R:=BdR) (by kernel_rfl) (by kernel_rfl) (by kernel_rfl) (by kernel_rfl) BdR.sat ?_ H ?_
  ·simp only [Qbd,List.not_mem_nil,or_false,forall_eq_or_imp,forall_eq];refine ⟨?_,?_,?_,?_,?_,?_,?_,?_,?_,?_,?_,?_,?_,?_,?_⟩
   ·intro a w K hK H hdep hold Kc hKc;have e1:a.tmps.getD 1 undef= .pointer (some ⟨g1,0,none⟩):=hold 1 (by kernel_rfl);refine y2r (by rfl) 123 (.tmp 1) (by rfl) g1 0 e1 condV _ Tryz.underlying123 rfl (by kernel_rfl) H 1 condV 123 (by rfl) (by rfl) ?_;exact hKc _ _ _ (Sat.refl _) H (fun t ht=>by injection ht with ht;subst ht;exact rfl)
   ·intro a w K hK H hdep hold Kc hKc;refine y1b (by rfl) 27 9 3 _ (by rfl) Tryz.underlying27 [(0,.string ⟨#[70,73,69,76,68]⟩),(1,.string ⟨#[70,82,65,71,77,69,78,84,95,83,80,82,69,65,68]⟩),(2,.string ⟨#[73,78,76,73,78,69,95,70,82,65,71,77,69,78,84]⟩)] (by kernel_rfl) [.string ⟨#[70,73,69,76,68]⟩,.string ⟨#[70,82,65,71,77,69,78,84,95,83,80,82,69,65,68]⟩,.string ⟨#[73,78,76,73,78,69,95,70,82,65,71,77,69,78,84]⟩] (by kernel_rfl) H ?_;intro w1 g H;obtain ⟨K1,hle,H,hb⟩:=H.freezeBox (n:=3) (ls:=y1c pl3) (rt_s (rt_s (rt_s (RL.z)))) (by simp [maxLen]);exact hKc _ _ _ hle H (fun t ht=>by injection ht with ht;subst ht;exact ⟨_,rfl,hb⟩)
   ·intro a w K hK H hdep hold Kc hKc;obtain ⟨g,ev,hs⟩:=hdep 1 11 (by kernel_rfl) (by rfl);have ea:a.tmps.getD 10 undef= .agg condV.toArray:=hdep 0 10 (by kernel_rfl) (by rfl);rw [ev] at hs;have hc:=y1x ⟨#[115,107,105,112]⟩ z09 _ _ _ _ _ _ _ _ _ _ _ _ _ _ _ _ _ pl3 3 3 (some ⟨g,0,none⟩) _ _ _ _ H rfl (by omega) hs z1d
    go_simp
    refine hc.mono ?_;rintro e w1 ⟨K1,gi,A,c,rfl,hle,H,hn,hi⟩;exact hKc _ _ _ hle H (fun t ht=>by injection ht with ht;subst ht;exact ⟨_,_,_,rfl,hn,hi⟩)
   ·intro a w K hK H hdep hold Kc hKc;have e1:a.tmps.getD 1 undef= .pointer (some ⟨g1,0,none⟩):=hold 1 (by kernel_rfl);refine y2r (by rfl) 123 (.tmp 1) (by rfl) g1 0 e1 condV _ Tryz.underlying123 rfl (by kernel_rfl) H 1 condV 123 (by rfl) (by rfl) ?_;exact hKc _ _ _ (Sat.refl _) H (fun t ht=>by injection ht with ht;subst ht;exact rfl)
   ·intro a w K hK H hdep hold Kc hKc;refine y1b (by rfl) 27 9 3 _ (by rfl) Tryz.underlying27 [(0,.string ⟨#[70,73,69,76,68]⟩),(1,.string ⟨#[70,82,65,71,77,69,78,84,95,83,80,82,69,65,68]⟩),(2,.string ⟨#[73,78,76,73,78,69,95,70,82,65,71,77,69,78,84]⟩)] (by kernel_rfl) [.string ⟨#[70,73,69,76,68]⟩,.string ⟨#[70,82,65,71,77,69,78,84,95,83,80,82,69,65,68]⟩,.string ⟨#[73,78,76,73,78,69,95,70,82,65,71,77,69,78,84]⟩] (by kernel_rfl) H ?_;intro w1 g H;obtain ⟨K1,hle,H,hb⟩:=H.freezeBox (n:=3) (ls:=y1c pl3) (rt_s (rt_s (rt_s (RL.z)))) (by simp [maxLen]);exact hKc _ _ _ hle H (fun t ht=>by injection ht with ht;subst ht;exact ⟨_,rfl,hb⟩)
   ·intro a w K hK H hdep hold Kc hKc;obtain ⟨g,ev,hs⟩:=hdep 4 14 (by kernel_rfl) (by rfl);have ea:a.tmps.getD 13 undef= .agg condV.toArray:=hdep 3 13 (by kernel_rfl) (by rfl);rw [ev] at hs;have hc:=y1x ⟨#[105,110,99,108,117,100,101]⟩ z09 _ _ _ _ _ _ _ _ _ _ _ _ _ _ _ _ _ pl3 3 3 (some ⟨g,0,none⟩) _ _ _ _ H rfl (by omega) hs z1d
    go_simp
    refine hc.mono ?_;rintro e w1 ⟨K1,gi,A,c,rfl,hle,H,hn,hi⟩;exact hKc _ _ _ hle H (fun t ht=>by injection ht with ht;subst ht;exact ⟨_,_,_,rfl,hn,hi⟩)
   ·intro a w K hK H hdep hold Kc hKc;have e1:a.tmps.getD 3 undef= .pointer (some ⟨g3,0,none⟩):=hold 3 (by kernel_rfl);refine y2r (by rfl) 123 (.tmp 3) (by rfl) g3 0 e1 reasonV _ Tryz.underlying123 rfl (by kernel_rfl) H 0 reasonV 123 (by rfl) (by rfl) ?_;exact hKc _ _ _ (Sat.refl _) H (fun t ht=>by injection ht with ht;subst ht;exact rfl)
   ·intro a w K hK H hdep hold Kc hKc;refine y1b (by rfl) 27 9 2 _ (by rfl) Tryz.underlying27 [(0,.string ⟨#[70,73,69,76,68,95,68,69,70,73,78,73,84,73,79,78]⟩),(1,.string ⟨#[69,78,85,77,95,86,65,76,85,69]⟩)] (by kernel_rfl) [.string ⟨#[70,73,69,76,68,95,68,69,70,73,78,73,84,73,79,78]⟩,.string ⟨#[69,78,85,77,95,86,65,76,85,69]⟩] (by kernel_rfl) H ?_;intro w1 g H;obtain ⟨K1,hle,H,hb⟩:=H.freezeBox (n:=2) (ls:=y1c pl2) (rt_s (rt_s (RL.z))) (by simp [maxLen]);exact hKc _ _ _ hle H (fun t ht=>by injection ht with ht;subst ht;exact ⟨_,rfl,hb⟩)
   ·intro a w K hK H hdep hold Kc hKc;obtain ⟨g,ev,hs⟩:=hdep 7 17 (by kernel_rfl) (by rfl);have ea:a.tmps.getD 16 undef= .agg reasonV.toArray:=hdep 6 16 (by kernel_rfl) (by rfl);rw [ev] at hs;have hc:=y1x ⟨#[100,101,112,114,101,99,97,116,101,100]⟩ y8o _ _ _ _ _ _ _ _ _ _ _ _ _ _ _ _ _ pl2 2 2 (some ⟨g,0,none⟩) _ _ _ _ H rfl (by omega) hs z4b
    go_simp
    refine hc.mono ?_;rintro e w1 ⟨K1,gi,A,c,rfl,hle,H,hn,hi⟩;exact hKc _ _ _ hle H (fun t ht=>by injection ht with ht;subst ht;exact ⟨_,_,_,rfl,hn,hi⟩)
   ·intro a w K hK H hdep hold Kc hKc;have hc:=y6c ⟨#[83,116,114,105,110,103]⟩ ⟨#[33]⟩ _ _ _ _ H
    go_simp
    refine hc.mono ?_;rintro e w1 ⟨rfl,H⟩;exact hKc _ _ _ (Sat.refl _) H (fun t ht=>by injection ht with ht;subst ht;exact rfl)
   ·intro a w K hK H hdep hold Kc hKc;have e19:a.tmps.getD 19 undef= .agg #[.string ⟨#[83,116,114,105,110,103]⟩,.string ⟨#[33]⟩]:=hdep 9 19 (by kernel_rfl) (by rfl)
    have e19':a.tmps[19]?.getD undef= .agg #[.string ⟨#[83,116,114,105,110,103]⟩,.string ⟨#[33]⟩]:=by simpa using e19
    go_simp
    exact hKc _ _ _ (Sat.refl _) H (fun t ht=>by injection ht with ht;subst ht;exact rfl)
   ·intro a w K hK H hdep hold Kc hKc;refine y1b (by rfl) 27 9 1 _ (by rfl) Tryz.underlying27 [(0,.string ⟨#[83,67,65,76,65,82]⟩)] (by kernel_rfl) [.string ⟨#[83,67,65,76,65,82]⟩] (by kernel_rfl) H ?_;intro w1 g H;obtain ⟨K1,hle,H,hb⟩:=H.freezeBox (n:=1) (ls:=y1c pl1) (rt_s (RL.z)) (by simp [maxLen]);exact hKc _ _ _ hle H (fun t ht=>by injection ht with ht;subst ht;exact ⟨_,rfl,hb⟩)
   ·intro a w K hK H hdep hold Kc hKc;obtain ⟨g,ev,hs⟩:=hdep 11 21 (by kernel_rfl) (by rfl);have ea:a.tmps.getD 20 undef= .agg urlV.toArray:=hdep 10 20 (by kernel_rfl) (by rfl);rw [ev] at hs;have hc:=y1x ⟨#[115,112,101,99,105,102,105,101,100,66,121]⟩ urlD _ _ _ _ _ _ _ _ _ _ _ _ _ _ _ _ _ pl1 1 1 (some ⟨g,0,none⟩) _ _ _ _ H rfl (by omega) hs x6v
    go_simp
    refine hc.mono ?_;rintro e w1 ⟨K1,gi,A,c,rfl,hle,H,hn,hi⟩;exact hKc _ _ _ hle H (fun t ht=>by injection ht with ht;subst ht;exact ⟨_,_,_,rfl,hn,hi⟩)
   ·intro a w K hK H hdep hold Kc hKc;obtain ⟨ga,Aa,ca,e12,na,ia⟩:=hdep 2 12 (by kernel_rfl) (by rfl);obtain ⟨gb,Ab,cb,e15,nb,ib⟩:=hdep 5 15 (by kernel_rfl) (by rfl);obtain ⟨gc,Ac,cc,e18,nc,ic⟩:=hdep 8 18 (by kernel_rfl) (by rfl);obtain ⟨gd,Ad,cd,e22,nd,id⟩:=hdep 12 22 (by kernel_rfl) (by rfl);refine y1b (by rfl) 22 43 4 _ (by rfl) Tryz.underlying22 [(0,.agg #[.int .i64 8,.bool false,.bool false,.bool false,.string ⟨#[]⟩,.string ⟨#[115,107,105,112]⟩,.slice none 0 0,.slice none 0 0,.slice none 0 0,.slice (some ⟨ga,0,none⟩) 1 1,.slice none 0 0,.slice none 0 0,.slice none 0 0,.bool false,.slice Aa 3 ca,.int .i64 0,.int .i64 0]),(1,.agg #[.int .i64 8,.bool false,.bool false,.bool false,.string ⟨#[]⟩,.string ⟨#[105,110,99,108,117,100,101]⟩,.slice none 0 0,.slice none 0 0,.slice none 0 0,.slice (some ⟨gb,0,none⟩) 1 1,.slice none 0 0,.slice none 0 0,.slice none 0 0,.bool false,.slice Ab 3 cb,.int .i64 0,.int .i64 0]),(2,.agg #[.int .i64 8,.bool false,.bool false,.bool false,.string ⟨#[]⟩,.string ⟨#[100,101,112,114,101,99,97,116,101,100]⟩,.slice none 0 0,.slice none 0 0,.slice none 0 0,.slice (some ⟨gc,0,none⟩) 1 1,.slice none 0 0,.slice none 0 0,.slice none 0 0,.bool false,.slice Ac 2 cc,.int .i64 0,.int .i64 0]),(3,.agg #[.int .i64 8,.bool false,.bool false,.bool false,.string ⟨#[]⟩,.string ⟨#[115,112,101,99,105,102,105,101,100,66,121]⟩,.slice none 0 0,.slice none 0 0,.slice none 0 0,.slice (some ⟨gd,0,none⟩) 1 1,.slice none 0 0,.slice none 0 0,.slice none 0 0,.bool false,.slice Ad 1 cd,.int .i64 0,.int .i64 0])] (Eq.trans (b:=[(0,a.tmps.getD 12 undef),(1,a.tmps.getD 15 undef),(2,a.tmps.getD 18 undef),(3,a.tmps.getD 22 undef)]) (by kernel_rfl) (by rw [e12,e15,e18,e22])) [.int .i64 8,.bool false,.bool false,.bool false,.string ⟨#[]⟩,.string ⟨#[115,107,105,112]⟩,.slice none 0 0,.slice none 0 0,.slice none 0 0,.slice (some ⟨ga,0,none⟩) 1 1,.slice none 0 0,.slice none 0 0,.slice none 0 0,.bool false,.slice Aa 3 ca,.int .i64 0,.int .i64 0,.int .i64 8,.bool false,.bool false,.bool false,.string ⟨#[]⟩,.string ⟨#[105,110,99,108,117,100,101]⟩,.slice none 0 0,.slice none 0 0,.slice none 0 0,.slice (some ⟨gb,0,none⟩) 1 1,.slice none 0 0,.slice none 0 0,.slice none 0 0,.bool false,.slice Ab 3 cb,.int .i64 0,.int .i64 0,.int .i64 8,.bool false,.bool false,.bool false,.string ⟨#[]⟩,.string ⟨#[100,101,112,114,101,99,97,116,101,100]⟩,.slice none 0 0,.slice none 0 0,.slice none 0 0,.slice (some ⟨gc,0,none⟩) 1 1,.slice none 0 0,.slice none 0 0,.slice none 0 0,.bool false,.slice Ac 2 cc,.int .i64 0,.int .i64 0,.int .i64 8,.bool false,.bool false,.bool false,.string ⟨#[]⟩,.string ⟨#[115,112,101,99,105,102,105,101,100,66,121]⟩,.slice none 0 0,.slice none 0 0,.slice none 0 0,.slice (some ⟨gd,0,none⟩) 1 1,.slice none 0 0,.slice none 0 0,.slice none 0 0,.bool false,.slice Ad 1 cd,.int .i64 0,.int .i64 0] (by kernel_rfl) H ?_;intro w1 g H;obtain ⟨K1,hle,H,hb⟩:=H.freezeBox (n:=4) (ls:=y0s givenDirsD) (x6w na ia nb ib nc ic nd id) (by simp [maxLen]);exact hKc _ _ _ hle H (fun t ht=>by injection ht with ht;subst ht;exact ⟨_,rfl,hb⟩)
   ·intro a w K hK H hdep hold Kc hKc;obtain ⟨g,ev,hs⟩:=hdep 13 23 (by kernel_rfl) (by rfl)
    go_simp
    exact hKc _ _ _ (Sat.refl _) H (fun t ht=>by injection ht with ht;subst ht;exact ⟨g,rfl,by rw [←ev];exact hs⟩)
  ·intro a' w' K' hle H hd hsz hn hold;obtain ⟨g,ev,hv⟩:=hn 0 (by kernel_rfl)
   go_wp2_with fail
   have e0:a'.tmps[0]?.getD undef= .slice (some ⟨g,0,none⟩) 4 4:=by simpa using ev
   rw [ev] at hv;replace H:=H.tail.tail;exact bodyPost_ret (v:=.slice (some ⟨g,0,none⟩) 4 4) (by simp [results,Tryz.results57,go_sem,e0]) hd ⟨K',_,_,rfl,hle,H,hv⟩
 ·skip
  go_simp
  replace H:=H.alloc [.bool false,.bool false,.string ⟨#[]⟩,.string ⟨#[]⟩,.string ⟨#[]⟩,.string ⟨#[]⟩,.bool false,.int .i64 0,.string ⟨#[]⟩,.bool false,.slice none 0 0,.slice none 0 0,.int .i64 0,.int .i64 0,.slice none 0 0,.int .i64 0,.int .i64 0] 123;obtain ⟨w18,hq19⟩: ∃x,(w8).alloc (.cells #[.bool false,.bool false,.string ⟨#[]⟩,.string ⟨#[]⟩,.string ⟨#[]⟩,.string ⟨#[]⟩,.bool false,.int .i64 0,.string ⟨#[]⟩,.bool false,.slice none 0 0,.slice none 0 0,.int .i64 0,.int .i64 0,.slice none 0 0,.int .i64 0,.int .i64 0] 123)=x:=⟨_,rfl⟩;obtain ⟨g3,hg17⟩: ∃x,(w8).heap.size=x:=⟨_,rfl⟩;rw [hg17] at H ⊢;rw [hq19] at H ⊢;clear hg17 hq19;have hS20:w18.cell? ⟨g2,0,none⟩=some (.int .i64 4)∧w18.cell? ⟨g2,1,none⟩=some (.string ⟨#[78,111,32,108,111,110,103,101,114,32,115,117,112,112,111,114,116,101,100]⟩)∧w18.cell? ⟨g2,2,none⟩=some (.bool false)∧w18.cell? ⟨g2,3,none⟩=some (.slice none 0 0)∧w18.cell? ⟨g2,4,none⟩=some (.slice none 0 0)∧w18.cell? ⟨g2,5,none⟩=some (.int .i64 0)∧w18.cell? ⟨g2,6,none⟩=some (.int .i64 0):=⟨H.cell (i:=1) rfl rfl,H.cell (i:=1) rfl rfl,H.cell (i:=1) rfl rfl,H.cell (i:=1) rfl rfl,H.cell (i:=1) rfl rfl,H.cell (i:=1) rfl rfl,H.cell (i:=1) rfl rfl⟩;refine hKq.out _ _ (fun _=>hS20) (fun _=>?_);clear hKq Kq;refine held.step (i:=0) (by kernel_rfl) rfl (fun Kq hKq=>?_)
  go_simp
  refine (y6c _ _ _ _ _ _ H).mono ?_;clear H;rintro e x2 ⟨rfl,H⟩;replace H:Hp _ _ _ (_::_::_::M):=H
  try go_simp
  have hS21:x2.cell? ⟨g2,0,none⟩=some (.int .i64 4)∧x2.cell? ⟨g2,1,none⟩=some (.string ⟨#[78,111,32,108,111,110,103,101,114,32,115,117,112,112,111,114,116,101,100]⟩)∧x2.cell? ⟨g2,2,none⟩=some (.bool false)∧x2.cell? ⟨g2,3,none⟩=some (.slice none 0 0)∧x2.cell? ⟨g2,4,none⟩=some (.slice none 0 0)∧x2.cell? ⟨g2,5,none⟩=some (.int .i64 0)∧x2.cell? ⟨g2,6,none⟩=some (.int .i64 0):=⟨H.cell (i:=1) rfl rfl,H.cell (i:=1) rfl rfl,H.cell (i:=1) rfl rfl,H.cell (i:=1) rfl rfl,H.cell (i:=1) rfl rfl,H.cell (i:=1) rfl rfl,H.cell (i:=1) rfl rfl⟩;refine hKq.out _ _ (fun _=>hS21) (fun _=>?_);clear hKq Kq;refine tk 2 hS21 ?_;refine held.step (i:=4) (by kernel_rfl) rfl (fun Kq hKq=>?_);refine y9g (by rfl) 123 (.tmp 3) (.tmp 9) (by rfl) g3 0 (by first|rfl|simp [Act.eval,Act.put]) (.agg #[.bool false,.bool false,.string ⟨#[]⟩,.string ⟨#[114,101,97,115,111,110]⟩,.string ⟨#[83,116,114,105,110,103]⟩,.string ⟨#[]⟩,.bool true,.int .i64 4,.string ⟨#[78,111,32,108,111,110,103,101,114,32,115,117,112,112,111,114,116,101,100]⟩,.bool false,.slice none 0 0,.slice none 0 0,.int .i64 0,.int .i64 0,.slice none 0 0,.int .i64 0,.int .i64 0]) (by first|rfl|simp [Act.eval,Act.put]) [.bool false,.bool false,.string ⟨#[]⟩,.string ⟨#[114,101,97,115,111,110]⟩,.string ⟨#[83,116,114,105,110,103]⟩,.string ⟨#[]⟩,.bool true,.int .i64 4,.string ⟨#[78,111,32,108,111,110,103,101,114,32,115,117,112,112,111,114,116,101,100]⟩,.bool false,.slice none 0 0,.slice none 0 0,.int .i64 0,.int .i64 0,.slice none 0 0,.int .i64 0,.int .i64 0] (by rfl) (by simp [Value.oneCell']) (by kernel_rfl) H 0 [.bool false,.bool false,.string ⟨#[]⟩,.string ⟨#[]⟩,.string ⟨#[]⟩,.string ⟨#[]⟩,.bool false,.int .i64 0,.string ⟨#[]⟩,.bool false,.slice none 0 0,.slice none 0 0,.int .i64 0,.int .i64 0,.slice none 0 0,.int .i64 0,.int .i64 0] [.bool false,.bool false,.string ⟨#[]⟩,.string ⟨#[114,101,97,115,111,110]⟩,.string ⟨#[83,116,114,105,110,103]⟩,.string ⟨#[]⟩,.bool true,.int .i64 4,.string ⟨#[78,111,32,108,111,110,103,101,114,32,115,117,112,112,111,114,116,101,100]⟩,.bool false,.slice none 0 0,.slice none 0 0,.int .i64 0,.int .i64 0,.slice none 0 0,.int .i64 0,.int .i64 0] 123 (by rfl) (Qbn (by rfl)) (by rfl) ?_;clear H;intro w22 H;refine hKq.out _ _ (fun h=>absurd (Qax.2 rfl) h) (fun _=>?_);clear hKq Kq;refine held.done (by kernel_rfl) ?_ _;simp only [Act.put,List.getElem_toArray,List.getElem_cons_zero,List.getElem_cons_succ,List.setIfInBounds_toArray,List.set_cons_zero,List.set_cons_succ];replace H:Hp _ _ _ (_::_::_::M):=H
  go_upto_region 4 with (fail)
  replace H:=H.sub (Qaa _ (Qai _ (Qaa _ (Qam _))));refine x6t (R:=BdR) (by kernel_rfl) (by kernel_rfl) (by kernel_rfl) (by kernel_rfl) BdR.sat ?_ H ?_
  ·simp only [Qbd,List.not_mem_nil,or_false,forall_eq_or_imp,forall_eq];refine ⟨?_,?_,?_,?_,?_,?_,?_,?_,?_,?_,?_,?_,?_,?_,?_⟩
   ·intro a w K hK H hdep hold Kc hKc;have e1:a.tmps.getD 1 undef= .pointer (some ⟨g1,0,none⟩):=hold 1 (by kernel_rfl);refine y2r (by rfl) 123 (.tmp 1) (by rfl) g1 0 e1 condV _ Tryz.underlying123 rfl (by kernel_rfl) H 1 condV 123 (by rfl) (by rfl) ?_;exact hKc _ _ _ (Sat.refl _) H (fun t ht=>by injection ht with ht;subst ht;exact rfl)
   ·intro a w K hK H hdep hold Kc hKc;refine y1b (by rfl) 27 9 3 _ (by rfl) Tryz.underlying27 [(0,.string ⟨#[70,73,69,76,68]⟩),(1,.string ⟨#[70,82,65,71,77,69,78,84,95,83,80,82,69,65,68]⟩),(2,.string ⟨#[73,78,76,73,78,69,95,70,82,65,71,77,69,78,84]⟩)] (by kernel_rfl) [.string ⟨#[70,73,69,76,68]⟩,.string ⟨#[70,82,65,71,77,69,78,84,95,83,80,82,69,65,68]⟩,.string ⟨#[73,78,76,73,78,69,95,70,82,65,71,77,69,78,84]⟩] (by kernel_rfl) H ?_;intro w1 g H;obtain ⟨K1,hle,H,hb⟩:=H.freezeBox (n:=3) (ls:=y1c pl3) (rt_s (rt_s (rt_s (RL.z)))) (by simp [maxLen]);exact hKc _ _ _ hle H (fun t ht=>by injection ht with ht;subst ht;exact ⟨_,rfl,hb⟩)
   ·intro a w K hK H hdep hold Kc hKc;obtain ⟨g,ev,hs⟩:=hdep 1 11 (by kernel_rfl) (by rfl);have ea:a.tmps.getD 10 undef= .agg condV.toArray:=hdep 0 10 (by kernel_rfl) (by rfl);rw [ev] at hs;have hc:=y1x ⟨#[115,107,105,112]⟩ z09 _ _ _ _ _ _ _ _ _ _ _ _ _ _ _ _ _ pl3 3 3 (some ⟨g,0,none⟩) _ _ _ _ H rfl (by omega) hs z1d
    go_simp
    refine hc.mono ?_;rintro e w1 ⟨K1,gi,A,c,rfl,hle,H,hn,hi⟩;exact hKc _ _ _ hle H (fun t ht=>by injection ht with ht;subst ht;exact ⟨_,_,_,rfl,hn,hi⟩)
   ·intro a w K hK H hdep hold Kc hKc;have e1:a.tmps.getD 1 undef= .pointer (some ⟨g1,0,none⟩):=hold 1 (by kernel_rfl);refine y2r (by rfl) 123 (.tmp 1) (by rfl) g1 0 e1 condV _ Tryz.underlying123 rfl (by kernel_rfl) H 1 condV 123 (by rfl) (by rfl) ?_;exact hKc _ _ _ (Sat.refl _) H (fun t ht=>by injection ht with ht;subst ht;exact rfl)
   ·intro a w K hK H hdep hold Kc hKc;refine y1b (by rfl) 27 9 3 _ (by rfl) Tryz.underlying27 [(0,.string ⟨#[70,73,69,76,68]⟩),(1,.string ⟨#[70,82,65,71,77,69,78,84,95,83,80,82,69,65,68]⟩),(2,.string ⟨#[73,78,76,73,78,69,95,70,82,65,71,77,69,78,84]⟩)] (by kernel_rfl) [.string ⟨#[70,73,69,76,68]⟩,.string ⟨#[70,82,65,71,77,69,78,84,95,83,80,82,69,65,68]⟩,.string ⟨#[73,78,76,73,78,69,95,70,82,65,71,77,69,78,84]⟩] (by kernel_rfl) H ?_;intro w1 g H;obtain ⟨K1,hle,H,hb⟩:=H.freezeBox (n:=3) (ls:=y1c pl3) (rt_s (rt_s (rt_s (RL.z)))) (by simp [maxLen]);exact hKc _ _ _ hle H (fun t ht=>by injection ht with ht;subst ht;exact ⟨_,rfl,hb⟩)
   ·intro a w K hK H hdep hold Kc hKc;obtain ⟨g,ev,hs⟩:=hdep 4 14 (by kernel_rfl) (by rfl);have ea:a.tmps.getD 13 undef= .agg condV.toArray:=hdep 3 13 (by kernel_rfl) (by rfl);rw [ev] at hs;have hc:=y1x ⟨#[105,110,99,108,117,100,101]⟩ z09 _ _ _ _ _ _ _ _ _ _ _ _ _ _ _ _ _ pl3 3 3 (some ⟨g,0,none⟩) _ _ _ _ H rfl (by omega) hs z1d
    go_simp
    refine hc.mono ?_;rintro e w1 ⟨K1,gi,A,c,rfl,hle,H,hn,hi⟩;exact hKc _ _ _ hle H (fun t ht=>by injection ht with ht;subst ht;exact ⟨_,_,_,rfl,hn,hi⟩)
   ·intro a w K hK H hdep hold Kc hKc;have e1:a.tmps.getD 3 undef= .pointer (some ⟨g3,0,none⟩):=hold 3 (by kernel_rfl);refine y2r (by rfl) 123 (.tmp 3) (by rfl) g3 0 e1 reasonV _ Tryz.underlying123 rfl (by kernel_rfl) H 0 reasonV 123 (by rfl) (by rfl) ?_;exact hKc _ _ _ (Sat.refl _) H (fun t ht=>by injection ht with ht;subst ht;exact rfl)
   ·intro a w K hK H hdep hold Kc hKc;refine y1b (by rfl) 27 9 2 _ (by rfl) Tryz.underlying27 [(0,.string ⟨#[70,73,69,76,68,95,68,69,70,73,78,73,84,73,79,78]⟩),(1,.string ⟨#[69,78,85,77,95,86,65,76,85,69]⟩)] (by kernel_rfl) [.string ⟨#[70,73,69,76,68,95,68,69,70,73,78,73,84,73,79,78]⟩,.string ⟨#[69,78,85,77,95,86,65,76,85,69]⟩] (by kernel_rfl) H ?_;intro w1 g H;obtain ⟨K1,hle,H,hb⟩:=H.freezeBox (n:=2) (ls:=y1c pl2) (rt_s (rt_s (RL.z))) (by simp [maxLen]);exact hKc _ _ _ hle H (fun t ht=>by injection ht with ht;subst ht;exact ⟨_,rfl,hb⟩)
   ·intro a w K hK H hdep hold Kc hKc;obtain ⟨g,ev,hs⟩:=hdep 7 17 (by kernel_rfl) (by rfl);have ea:a.tmps.getD 16 undef= .agg reasonV.toArray:=hdep 6 16 (by kernel_rfl) (by rfl);rw [ev] at hs;have hc:=y1x ⟨#[100,101,112,114,101,99,97,116,101,100]⟩ y8o _ _ _ _ _ _ _ _ _ _ _ _ _ _ _ _ _ pl2 2 2 (some ⟨g,0,none⟩) _ _ _ _ H rfl (by omega) hs z4b
    go_simp
    refine hc.mono ?_;rintro e w1 ⟨K1,gi,A,c,rfl,hle,H,hn,hi⟩;exact hKc _ _ _ hle H (fun t ht=>by injection ht with ht;subst ht;exact ⟨_,_,_,rfl,hn,hi⟩)
   ·intro a w K hK H hdep hold Kc hKc;have hc:=y6c ⟨#[83,116,114,105,110,103]⟩ ⟨#[33]⟩ _ _ _ _ H
    go_simp
    refine hc.mono ?_;rintro e w1 ⟨rfl,H⟩;exact hKc _ _ _ (Sat.refl _) H (fun t ht=>by injection ht with ht;subst ht;exact rfl)
   ·intro a w K hK H hdep hold Kc hKc;have e19:a.tmps.getD 19 undef= .agg #[.string ⟨#[83,116,114,105,110,103]⟩,.string ⟨#[33]⟩]:=hdep 9 19 (by kernel_rfl) (by rfl)
    have e19':a.tmps[19]?.getD undef= .agg #[.string ⟨#[83,116,114,105,110,103]⟩,.string ⟨#[33]⟩]:=by simpa using e19
    go_simp
    exact hKc _ _ _ (Sat.refl _) H (fun t ht=>by injection ht with ht;subst ht;exact rfl)
   ·intro a w K hK H hdep hold Kc hKc;refine y1b (by rfl) 27 9 1 _ (by rfl) Tryz.underlying27 [(0,.string ⟨#[83,67,65,76,65,82]⟩)] (by kernel_rfl) [.string ⟨#[83,67,65,76,65,82]⟩] (by kernel_rfl) H ?_;intro w1 g H;obtain ⟨K1,hle,H,hb⟩:=H.freezeBox (n:=1) (ls:=y1c pl1) (rt_s (RL.z)) (by simp [maxLen]);exact hKc _ _ _ hle H (fun t ht=>by injection ht with ht;subst ht;exact ⟨_,rfl,hb⟩)
   ·intro a w K hK H hdep hold Kc hKc;obtain ⟨g,ev,hs⟩:=hdep 11 21 (by kernel_rfl) (by rfl);have ea:a.tmps.getD 20 undef= .agg urlV.toArray:=hdep 10 20 (by kernel_rfl) (by rfl);rw [ev] at hs;have hc:=y1x ⟨#[115,112,101,99,105,102,105,101,100,66,121]⟩ urlD _ _ _ _ _ _ _ _ _ _ _ _ _ _ _ _ _ pl1 1 1 (some ⟨g,0,none⟩) _ _ _ _ H rfl (by omega) hs x6v
    go_simp
    refine hc.mono ?_;rintro e w1 ⟨K1,gi,A,c,rfl,hle,H,hn,hi⟩;exact hKc _ _ _ hle H (fun t ht=>by injection ht with ht;subst ht;exact ⟨_,_,_,rfl,hn,hi⟩)
   ·intro a w K hK H hdep hold Kc hKc;obtain ⟨ga,Aa,ca,e12,na,ia⟩:=hdep 2 12 (by kernel_rfl) (by rfl);obtain ⟨gb,Ab,cb,e15,nb,ib⟩:=hdep 5 15 (by kernel_rfl) (by rfl);obtain ⟨gc,Ac,cc,e18,nc,ic⟩:=hdep 8 18 (by kernel_rfl) (by rfl);obtain ⟨gd,Ad,cd,e22,nd,id⟩:=hdep 12 22 (by kernel_rfl) (by rfl);refine y1b (by rfl) 22 43 4 _ (by rfl) Tryz.underlying22 [(0,.agg #[.int .i64 8,.bool false,.bool false,.bool false,.string ⟨#[]⟩,.string ⟨#[115,107,105,112]⟩,.slice none 0 0,.slice none 0 0,.slice none 0 0,.slice (some ⟨ga,0,none⟩) 1 1,.slice none 0 0,.slice none 0 0,.slice none 0 0,.bool false,.slice Aa 3 ca,.int .i64 0,.int .i64 0]),(1,.agg #[.int .i64 8,.bool false,.bool false,.bool false,.string ⟨#[]⟩,.string ⟨#[105,110,99,108,117,100,101]⟩,.slice none 0 0,.slice none 0 0,.slice none 0 0,.slice (some ⟨gb,0,none⟩) 1 1,.slice none 0 0,.slice none 0 0,.slice none 0 0,.bool false,.slice Ab 3 cb,.int .i64 0,.int .i64 0]),(2,.agg #[.int .i64 8,.bool false,.bool false,.bool false,.string ⟨#[]⟩,.string ⟨#[100,101,112,114,101,99,97,116,101,100]⟩,.slice none 0 0,.slice none 0 0,.slice none 0 0,.slice (some ⟨gc,0,none⟩) 1 1,.slice none 0 0,.slice none 0 0,.slice none 0 0,.bool false,.slice Ac 2 cc,.int .i64 0,.int .i64 0]),(3,.agg #[.int .i64 8,.bool false,.bool false,.bool false,.string ⟨#[]⟩,.string ⟨#[115,112,101,99,105,102,105,101,100,66,121]⟩,.slice none 0 0,.slice none 0 0,.slice none 0 0,.slice (some ⟨gd,0,none⟩) 1 1,.slice none 0 0,.slice none 0 0,.slice none 0 0,.bool false,.slice Ad 1 cd,.int .i64 0,.int .i64 0])] (Eq.trans (b:=[(0,a.tmps.getD 12 undef),(1,a.tmps.getD 15 undef),(2,a.tmps.getD 18 undef),(3,a.tmps.getD 22 undef)]) (by kernel_rfl) (by rw [e12,e15,e18,e22])) [.int .i64 8,.bool false,.bool false,.bool false,.string ⟨#[]⟩,.string ⟨#[115,107,105,112]⟩,.slice none 0 0,.slice none 0 0,.slice none 0 0,.slice (some ⟨ga,0,none⟩) 1 1,.slice none 0 0,.slice none 0 0,.slice none 0 0,.bool false,.slice Aa 3 ca,.int .i64 0,.int .i64 0,.int .i64 8,.bool false,.bool false,.bool false,.string ⟨#[]⟩,.string ⟨#[105,110,99,108,117,100,101]⟩,.slice none 0 0,.slice none 0 0,.slice none 0 0,.slice (some ⟨gb,0,none⟩) 1 1,.slice none 0 0,.slice none 0 0,.slice none 0 0,.bool false,.slice Ab 3 cb,.int .i64 0,.int .i64 0,.int .i64 8,.bool false,.bool false,.bool false,.string ⟨#[]⟩,.string ⟨#[100,101,112,114,101,99,97,116,101,100]⟩,.slice none 0 0,.slice none 0 0,.slice none 0 0,.slice (some ⟨gc,0,none⟩) 1 1,.slice none 0 0,.slice none 0 0,.slice none 0 0,.bool false,.slice Ac 2 cc,.int .i64 0,.int .i64 0,.int .i64 8,.bool false,.bool false,.bool false,.string ⟨#[]⟩,.string ⟨#[115,112,101,99,105,102,105,101,100,66,121]⟩,.slice none 0 0,.slice none 0 0,.slice none 0 0,.slice (some ⟨gd,0,none⟩) 1 1,.slice none 0 0,.slice none 0 0,.slice none 0 0,.bool false,.slice Ad 1 cd,.int .i64 0,.int .i64 0] (by kernel_rfl) H ?_;intro w1 g H;obtain ⟨K1,hle,H,hb⟩:=H.freezeBox (n:=4) (ls:=y0s givenDirsD) (x6w na ia nb ib nc ic nd id) (by simp [maxLen]);exact hKc _ _ _ hle H (fun t ht=>by injection ht with ht;subst ht;exact ⟨_,rfl,hb⟩)
   ·intro a w K hK H hdep hold Kc hKc;obtain ⟨g,ev,hs⟩:=hdep 13 23 (by kernel_rfl) (by rfl)
    go_simp
    exact hKc _ _ _ (Sat.refl _) H (fun t ht=>by injection ht with ht;subst ht;exact ⟨g,rfl,by rw [←ev];exact hs⟩)
  ·intro a' w' K' hle H hd hsz hn hold;obtain ⟨g,ev,hv⟩:=hn 0 (by kernel_rfl)
   go_wp2_with fail
   have e0:a'.tmps[0]?.getD undef= .slice (some ⟨g,0,none⟩) 4 4:=by simpa using ev
   rw [ev] at hv;replace H:=H.tail.tail;exact bodyPost_ret (v:=.slice (some ⟨g,0,none⟩) 4 4) (by simp [results,Tryz.results57,go_sem,e0]) hd ⟨K',_,_,rfl,hle,H,hv⟩
end Go.Proofs.YtbpgkkoeehopjaaGreat.hp
