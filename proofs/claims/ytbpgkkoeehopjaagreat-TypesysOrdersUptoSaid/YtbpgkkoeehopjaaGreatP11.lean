/- Part 11 of a proof: see the text that holds the statement. -/
import Derived.Test.YtbpgkkoeehopjaaGreatP10
import Derived.Deep.QuietTactic
import Derived.BigQuiet
set_option linter.unusedVariables false
set_option linter.unusedSimpArgs false
namespace Go.Proofs.YtbpgkkoeehopjaaGreat.hp
open Go.RowKit words enc tree gram lex rd dec dat held
set_option maxRecDepth 100000
attribute [local go_sem ↓] Go.wp_at_zero Go.wp_at_succ
def ifT:Txt:=[105,102]
def q0j:Txt:=[83,116,114,105,110,103]
def z2l:InputD:=⟨y7n,ifT,(x38,[33]),false,litZ,[],0,0⟩
def whyT:Txt:=[78,111,32,108,111,110,103,101,114,32,115,117,112,112,111,114,116,101,100]
def y9m:InputD:=⟨y7n,[114,101,97,115,111,110],(q0j,[]),true,.mk 4 whyT false [] [] 0 0,[],0,0⟩
def urlD:InputD:=⟨y7n,[117,114,108],(q0j,[33]),false,litZ,[],0,0⟩
def dirD (s:Txt) (arg:InputD) (l:List Txt):DefD:=⟨8,false,y7n,s,[],[],[],[arg],[],[],[],false,l.map plD,0,0⟩
def pl3:List Txt:=[[70,73,69,76,68],[70,82,65,71,77,69,78,84,95,83,80,82,69,65,68],[73,78,76,73,78,69,95,70,82,65,71,77,69,78,84]]
def pl2:List Txt:=[[70,73,69,76,68,95,68,69,70,73,78,73,84,73,79,78],[69,78,85,77,95,86,65,76,85,69]]
def pl1:List Txt:=[[83,67,65,76,65,82]]
def givenDirsD:List DefD:=[dirD [115,107,105,112] z2l pl3,dirD [105,110,99,108,117,100,101] z2l pl3,dirD [100,101,112,114,101,99,97,116,101,100] y9m pl2,dirD [115,112,101,99,105,102,105,101,100,66,121] urlD pl1]
abbrev condV:List Value:=[.bool false,.bool false,.string ⟨#[]⟩,.string ⟨#[105,102]⟩,.string ⟨#[66,111,111,108,101,97,110]⟩,.string ⟨#[33]⟩,.bool false,.int .i64 0,.string ⟨#[]⟩,.bool false,.slice none 0 0,.slice none 0 0,.int .i64 0,.int .i64 0,.slice none 0 0,.int .i64 0,.int .i64 0]
abbrev urlV:List Value:=[.bool false,.bool false,.string ⟨#[]⟩,.string ⟨#[117,114,108]⟩,.string ⟨#[83,116,114,105,110,103]⟩,.string ⟨#[33]⟩,.bool false,.int .i64 0,.string ⟨#[]⟩,.bool false,.slice none 0 0,.slice none 0 0,.int .i64 0,.int .i64 0,.slice none 0 0,.int .i64 0,.int .i64 0]
abbrev reasonV:List Value:=[.bool false,.bool false,.string ⟨#[]⟩,.string ⟨#[114,101,97,115,111,110]⟩,.string ⟨#[83,116,114,105,110,103]⟩,.string ⟨#[]⟩,.bool true,.int .i64 4,.string ⟨#[78,111,32,108,111,110,103,101,114,32,115,117,112,112,111,114,116,101,100]⟩,.bool false,.slice none 0 0,.slice none 0 0,.int .i64 0,.int .i64 0,.slice none 0 0,.int .i64 0,.int .i64 0]
theorem z2t {K:World}:RL K (y4m z2l) condV:=by unfold z2l;exact .lit (.lit (.lit (.lit (.lit (.lit (.lit (.lit (.lit (.lit (.cons RD.z (.cons RD.z (.lit (.lit (.cons RD.z (.lit (.lit RL.z))))))))))))))))
theorem q0k {K:World}:RL K (y4m urlD) urlV:=by unfold urlD;exact .lit (.lit (.lit (.lit (.lit (.lit (.lit (.lit (.lit (.lit (.cons RD.z (.cons RD.z (.lit (.lit (.cons RD.z (.lit (.lit RL.z))))))))))))))))
theorem z54 {K:World}:RL K (y4m y9m) reasonV:=by unfold y9m;exact .lit (.lit (.lit (.lit (.lit (.lit (.lit (.lit (.lit (.lit (.cons RD.z (.cons RD.z (.lit (.lit (.cons RD.z (.lit (.lit RL.z))))))))))))))))
def DirR (s:ByteArray) (arg:InputD) (n:Nat) (l:List Txt) (K:World) (v:Value):Prop:=
 ∃g A c,v= .agg #[.int .i64 8,.bool false,.bool false,.bool false,.string ⟨#[]⟩,.string s,.slice none 0 0,.slice none 0 0,.slice none 0 0,.slice (some ⟨g,0,none⟩) 1 1,.slice none 0 0,.slice none 0 0,.slice none 0 0,.bool false,.slice A n c,.int .i64 0,.int .i64 0]∧RD K (.list n (y0v (l.map plD))) (.slice A n c)∧RD K (.list 1 (y0o [arg])) (.slice (some ⟨g,0,none⟩) 1 1)
theorem DirR.sat {s:ByteArray} {arg:InputD} {n:Nat} {l:List Txt} {K K':World} {v:Value} (h:DirR s arg n l K v) (hs:Sat K' K):DirR s arg n l K' v:=by
 obtain ⟨g,A,c,h1,h2,h3⟩:=h;exact ⟨g,A,c,h1,h2.sat hs,h3.sat hs⟩
def SlR (n:Nat) (l:List Txt) (K:World) (v:Value):Prop:=∃g,v= .slice (some ⟨g,0,none⟩) n n∧RD K (.list n (y03 l)) v
theorem SlR.sat {n:Nat} {l:List Txt} {K K':World} {v:Value} (h:SlR n l K v) (hs:Sat K' K):SlR n l K' v:=h.imp fun _ h=>⟨h.1,h.2.sat hs⟩
def EndR (K:World) (v:Value):Prop:=∃g,v= .slice (some ⟨g,0,none⟩) 4 4∧RD K (.list 4 (y0r givenDirsD)) v
theorem EndR.sat {K K':World} {v:Value} (h:EndR K v) (hs:Sat K' K):EndR K' v:=h.imp fun _ h=>⟨h.1,h.2.sat hs⟩
def BdR (t:Nat) (K:World) (v:Value):Prop:=
 match t with
 |10=>v= .agg condV.toArray
 |13=>v= .agg condV.toArray
 |16=>v= .agg reasonV.toArray
 |20=>v= .agg urlV.toArray
 |19=>v= .agg #[.string ⟨#[83,116,114,105,110,103]⟩,.string ⟨#[33]⟩]
 |11=>SlR 3 pl3 K v
 |14=>SlR 3 pl3 K v
 |17=>SlR 2 pl2 K v
 |21=>SlR 1 pl1 K v
 |12=>DirR ⟨#[115,107,105,112]⟩ z2l 3 pl3 K v
 |15=>DirR ⟨#[105,110,99,108,117,100,101]⟩ z2l 3 pl3 K v
 |18=>DirR ⟨#[100,101,112,114,101,99,97,116,101,100]⟩ y9m 2 pl2 K v
 |22=>DirR ⟨#[115,112,101,99,105,102,105,101,100,66,121]⟩ urlD 1 pl1 K v
 |23=>EndR K v
 |0=>EndR K v
 |_=>True
theorem BdR.sat (t:Nat) (K K':World) (v:Value) (hs:Sat K' K) (h:BdR t K v):BdR t K' v:=by
 unfold BdR at h ⊢;split
 all_goals first|exact h|exact SlR.sat h hs|exact DirR.sat h hs|exact EndR.sat h hs|trivial
theorem x39 {K:World} {s:Txt} {arg:InputD} {l:List Txt} {n:Nat} {v v':Value} {r:List DefD} {ys:List Value} (hn:RD K (.list n (y0v (l.map plD))) v) (hi:RD K (.list 1 (y0o [arg])) v') (h:RL K (y0r r) ys) (hl:l.length=n:=by rfl):
  RL K (y0r (dirD s arg l::r)) (.int .i64 8:: .bool false:: .bool false:: .bool false:: .string ⟨#[]⟩:: .string (str s):: .slice none 0 0:: .slice none 0 0:: .slice none 0 0::v':: .slice none 0 0:: .slice none 0 0:: .slice none 0 0:: .bool false::v:: .int .i64 0:: .int .i64 0::ys):=by
 subst hl;exact DatL.app (y18 RD.z RD.z RD.z hi RD.z RD.z RD.z (by simpa using hn)) h
theorem q0l {K:World} {a b c d a' b' c' d':Value} (na:RD K (.list 3 (y0v (pl3.map plD))) a) (ia:RD K (.list 1 (y0o [z2l])) a') (nb:RD K (.list 3 (y0v (pl3.map plD))) b) (ib:RD K (.list 1 (y0o [z2l])) b') (nc:RD K (.list 2 (y0v (pl2.map plD))) c) (ic:RD K (.list 1 (y0o [y9m])) c') (nd:RD K (.list 1 (y0v (pl1.map plD))) d) (id:RD K (.list 1 (y0o [urlD])) d'):
  RL K (y0r givenDirsD) [.int .i64 8,.bool false,.bool false,.bool false,.string ⟨#[]⟩,.string ⟨#[115,107,105,112]⟩,.slice none 0 0,.slice none 0 0,.slice none 0 0,a',.slice none 0 0,.slice none 0 0,.slice none 0 0,.bool false,a,.int .i64 0,.int .i64 0,.int .i64 8,.bool false,.bool false,.bool false,.string ⟨#[]⟩,.string ⟨#[105,110,99,108,117,100,101]⟩,.slice none 0 0,.slice none 0 0,.slice none 0 0,b',.slice none 0 0,.slice none 0 0,.slice none 0 0,.bool false,b,.int .i64 0,.int .i64 0,.int .i64 8,.bool false,.bool false,.bool false,.string ⟨#[]⟩,.string ⟨#[100,101,112,114,101,99,97,116,101,100]⟩,.slice none 0 0,.slice none 0 0,.slice none 0 0,c',.slice none 0 0,.slice none 0 0,.slice none 0 0,.bool false,c,.int .i64 0,.int .i64 0,.int .i64 8,.bool false,.bool false,.bool false,.string ⟨#[]⟩,.string ⟨#[115,112,101,99,105,102,105,101,100,66,121]⟩,.slice none 0 0,.slice none 0 0,.slice none 0 0,d',.slice none 0 0,.slice none 0 0,.slice none 0 0,.bool false,d,.int .i64 0,.int .i64 0]:=x39 na ia (x39 nb ib (x39 nc ic (x39 nd id rd_nil)))
def BdP (w0 K:World) (M:List Ent) (e:Ending) (w':World):Prop:=
 ∃K' A c,e= .returned (.slice A 4 c)∧Sat K' K∧Hp w0 w' K' M∧RD K' (.list 4 (y0r givenDirsD)) (.slice A 4 c)
set_option maxHeartbeats 16000000 in
theorem z9m (w0 w K:World) (M:List Ent) (H:Hp w0 w K M):
  Calls Tryz.prog 57 #[] w (BdP w0 K M):=by
 go_enter Tryz.func57,Tryz.ntmps57
 go_upto_region 3 with (first
  |(go_at_call 104;refine (y7l _ _ _ _ _ _ H).mono ?_;clear H;rintro e x1 ⟨rfl,H⟩)
  |((with_reducible refine isL ?_);first
   |(refine al z123 1 H ?_;clear H;intro w2 g1 H)
   |(refine sA 1 0 H ?_;clear H;intro w4 H)
   |(refine al z121 2 H ?_;clear H;intro w5 g2 H)
   |(refine sA 2 0 H ?_;clear H;intro w7 H)))
 refine held.begin_ (fun w'=>w'.cell? ⟨g2,0,none⟩=some (.int .i64 4)∧w'.cell? ⟨g2,1,none⟩=some (.string ⟨#[78,111,32,108,111,110,103,101,114,32,115,117,112,112,111,114,116,101,100]⟩)∧w'.cell? ⟨g2,2,none⟩=some (.bool false)∧w'.cell? ⟨g2,3,none⟩=some (.slice none 0 0)∧w'.cell? ⟨g2,4,none⟩=some (.slice none 0 0)∧w'.cell? ⟨g2,5,none⟩=some (.int .i64 0)∧w'.cell? ⟨g2,6,none⟩=some (.int .i64 0)) [4] (by kernel_rfl) ?_;replace H:=H.drew1;obtain ⟨w8,hq9⟩: ∃x,(w7).drew=x:=⟨_,rfl⟩;rw [hq9] at H ⊢;clear hq9;have hS10:w8.cell? ⟨g2,0,none⟩=some (.int .i64 4)∧w8.cell? ⟨g2,1,none⟩=some (.string ⟨#[78,111,32,108,111,110,103,101,114,32,115,117,112,112,111,114,116,101,100]⟩)∧w8.cell? ⟨g2,2,none⟩=some (.bool false)∧w8.cell? ⟨g2,3,none⟩=some (.slice none 0 0)∧w8.cell? ⟨g2,4,none⟩=some (.slice none 0 0)∧w8.cell? ⟨g2,5,none⟩=some (.int .i64 0)∧w8.cell? ⟨g2,6,none⟩=some (.int .i64 0):=⟨H.cell (i:=0) rfl rfl,H.cell (i:=0) rfl rfl,H.cell (i:=0) rfl rfl,H.cell (i:=0) rfl rfl,H.cell (i:=0) rfl rfl,H.cell (i:=0) rfl rfl,H.cell (i:=0) rfl rfl⟩;refine tk 1 hS10 ?_;refine step2 (i:=0) (j:=3) (by kernel_rfl) rfl rfl (fun Kq hKq=>?_) (fun Kq hKq=>?_)
 ·skip
  go_simp
  refine (y7l _ _ _ _ _ _ H).mono ?_;clear H;rintro e x2 ⟨rfl,H⟩;replace H:Hp _ _ _ (_::_::M):=H
  try go_simp
  have hS11:x2.cell? ⟨g2,0,none⟩=some (.int .i64 4)∧x2.cell? ⟨g2,1,none⟩=some (.string ⟨#[78,111,32,108,111,110,103,101,114,32,115,117,112,112,111,114,116,101,100]⟩)∧x2.cell? ⟨g2,2,none⟩=some (.bool false)∧x2.cell? ⟨g2,3,none⟩=some (.slice none 0 0)∧x2.cell? ⟨g2,4,none⟩=some (.slice none 0 0)∧x2.cell? ⟨g2,5,none⟩=some (.int .i64 0)∧x2.cell? ⟨g2,6,none⟩=some (.int .i64 0):=⟨H.cell (i:=0) rfl rfl,H.cell (i:=0) rfl rfl,H.cell (i:=0) rfl rfl,H.cell (i:=0) rfl rfl,H.cell (i:=0) rfl rfl,H.cell (i:=0) rfl rfl,H.cell (i:=0) rfl rfl⟩;refine hKq.out _ _ (fun _=>hS11) (fun _=>?_);clear hKq Kq;refine tk 2 hS11 ?_;refine held.step (i:=3) (by kernel_rfl) rfl (fun Kq hKq=>?_)
  go_simp
  replace H:=H.alloc [.bool false,.bool false,.string ⟨#[]⟩,.string ⟨#[]⟩,.string ⟨#[]⟩,.string ⟨#[]⟩,.bool false,.int .i64 0,.string ⟨#[]⟩,.bool false,.slice none 0 0,.slice none 0 0,.int .i64 0,.int .i64 0,.slice none 0 0,.int .i64 0,.int .i64 0] 123;obtain ⟨w13,hq14⟩: ∃x,(x2).alloc (.cells #[.bool false,.bool false,.string ⟨#[]⟩,.string ⟨#[]⟩,.string ⟨#[]⟩,.string ⟨#[]⟩,.bool false,.int .i64 0,.string ⟨#[]⟩,.bool false,.slice none 0 0,.slice none 0 0,.int .i64 0,.int .i64 0,.slice none 0 0,.int .i64 0,.int .i64 0] 123)=x:=⟨_,rfl⟩;obtain ⟨g3,hg12⟩: ∃x,(x2).heap.size=x:=⟨_,rfl⟩;rw [hg12] at H ⊢;rw [hq14] at H ⊢;clear hg12 hq14;have hS15:w13.cell? ⟨g2,0,none⟩=some (.int .i64 4)∧w13.cell? ⟨g2,1,none⟩=some (.string ⟨#[78,111,32,108,111,110,103,101,114,32,115,117,112,112,111,114,116,101,100]⟩)∧w13.cell? ⟨g2,2,none⟩=some (.bool false)∧w13.cell? ⟨g2,3,none⟩=some (.slice none 0 0)∧w13.cell? ⟨g2,4,none⟩=some (.slice none 0 0)∧w13.cell? ⟨g2,5,none⟩=some (.int .i64 0)∧w13.cell? ⟨g2,6,none⟩=some (.int .i64 0):=⟨H.cell (i:=1) rfl rfl,H.cell (i:=1) rfl rfl,H.cell (i:=1) rfl rfl,H.cell (i:=1) rfl rfl,H.cell (i:=1) rfl rfl,H.cell (i:=1) rfl rfl,H.cell (i:=1) rfl rfl⟩;refine hKq.out _ _ (fun _=>hS15) (fun _=>?_);clear hKq Kq;refine held.step (i:=4) (by kernel_rfl) rfl (fun Kq hKq=>?_);refine z0j (by rfl) 123 (.tmp 3) (.tmp 9) (by rfl) g3 0 (by first|rfl|simp [Act.eval,Act.put]) (.agg #[.bool false,.bool false,.string ⟨#[]⟩,.string ⟨#[114,101,97,115,111,110]⟩,.string ⟨#[83,116,114,105,110,103]⟩,.string ⟨#[]⟩,.bool true,.int .i64 4,.string ⟨#[78,111,32,108,111,110,103,101,114,32,115,117,112,112,111,114,116,101,100]⟩,.bool false,.slice none 0 0,.slice none 0 0,.int .i64 0,.int .i64 0,.slice none 0 0,.int .i64 0,.int .i64 0]) (by first|rfl|simp [Act.eval,Act.put]) [.bool false,.bool false,.string ⟨#[]⟩,.string ⟨#[114,101,97,115,111,110]⟩,.string ⟨#[83,116,114,105,110,103]⟩,.string ⟨#[]⟩,.bool true,.int .i64 4,.string ⟨#[78,111,32,108,111,110,103,101,114,32,115,117,112,112,111,114,116,101,100]⟩,.bool false,.slice none 0 0,.slice none 0 0,.int .i64 0,.int .i64 0,.slice none 0 0,.int .i64 0,.int .i64 0] (by rfl) (by simp [Value.oneCell']) (by kernel_rfl) H 0 [.bool false,.bool false,.string ⟨#[]⟩,.string ⟨#[]⟩,.string ⟨#[]⟩,.string ⟨#[]⟩,.bool false,.int .i64 0,.string ⟨#[]⟩,.bool false,.slice none 0 0,.slice none 0 0,.int .i64 0,.int .i64 0,.slice none 0 0,.int .i64 0,.int .i64 0] [.bool false,.bool false,.string ⟨#[]⟩,.string ⟨#[114,101,97,115,111,110]⟩,.string ⟨#[83,116,114,105,110,103]⟩,.string ⟨#[]⟩,.bool true,.int .i64 4,.string ⟨#[78,111,32,108,111,110,103,101,114,32,115,117,112,112,111,114,116,101,100]⟩,.bool false,.slice none 0 0,.slice none 0 0,.int .i64 0,.int .i64 0,.slice none 0 0,.int .i64 0,.int .i64 0] 123 (by rfl) (Qbn (by rfl)) (by rfl) ?_;clear H;intro w16 H;refine hKq.out _ _ (fun h=>absurd (Qax.2 rfl) h) (fun _=>?_);clear hKq Kq;refine held.done (by kernel_rfl) ?_ _;simp only [Act.put,List.getElem_toArray,List.getElem_cons_zero,List.getElem_cons_succ,List.setIfInBounds_toArray,List.set_cons_zero,List.set_cons_succ];replace H:Hp _ _ _ (_::_::_::M):=H
  go_upto_region 4 with (fail)
  replace H:=H.sub (Qaa _ (Qai _ (Qaa _ (Qam _))));refine q0i (R:=BdR) (by kernel_rfl) (by kernel_rfl) (by kernel_rfl) (by kernel_rfl) BdR.sat ?_ H ?_
  ·simp only [Qbd,List.not_mem_nil,or_false,forall_eq_or_imp,forall_eq];refine ⟨?_,?_,?_,?_,?_,?_,?_,?_,?_,?_,?_,?_,?_,?_,?_⟩
   ·intro a w K hK H hdep hold Kc hKc;have e1:a.tmps.getD 1 undef= .pointer (some ⟨g1,0,none⟩):=hold 1 (by kernel_rfl);refine y3h (by rfl) 123 (.tmp 1) (by rfl) g1 0 e1 condV _ Tryz.underlying123 rfl (by kernel_rfl) H 1 condV 123 (by rfl) (by rfl) ?_;exact hKc _ _ _ (Sat.refl _) H (fun t ht=>by injection ht with ht;subst ht;exact rfl)
   ·intro a w K hK H hdep hold Kc hKc;refine y1d (by rfl) 27 9 3 _ (by rfl) Tryz.underlying27 [(0,.string ⟨#[70,73,69,76,68]⟩),(1,.string ⟨#[70,82,65,71,77,69,78,84,95,83,80,82,69,65,68]⟩),(2,.string ⟨#[73,78,76,73,78,69,95,70,82,65,71,77,69,78,84]⟩)] (by kernel_rfl) [.string ⟨#[70,73,69,76,68]⟩,.string ⟨#[70,82,65,71,77,69,78,84,95,83,80,82,69,65,68]⟩,.string ⟨#[73,78,76,73,78,69,95,70,82,65,71,77,69,78,84]⟩] (by kernel_rfl) H ?_;intro w1 g H;obtain ⟨K1,hle,H,hb⟩:=H.freezeBox (n:=3) (ls:=y03 pl3) (rt_s (rt_s (rt_s (RL.z)))) (by simp [maxLen]);exact hKc _ _ _ hle H (fun t ht=>by injection ht with ht;subst ht;exact ⟨_,rfl,hb⟩)
   ·intro a w K hK H hdep hold Kc hKc;obtain ⟨g,ev,hs⟩:=hdep 1 11 (by kernel_rfl) (by rfl);have ea:a.tmps.getD 10 undef= .agg condV.toArray:=hdep 0 10 (by kernel_rfl) (by rfl);rw [ev] at hs;have hc:=y2i ⟨#[115,107,105,112]⟩ z2l _ _ _ _ _ _ _ _ _ _ _ _ _ _ _ _ _ pl3 3 3 (some ⟨g,0,none⟩) _ _ _ _ H rfl (by omega) hs z2t
    go_simp
    refine hc.mono ?_;rintro e w1 ⟨K1,gi,A,c,rfl,hle,H,hn,hi⟩;exact hKc _ _ _ hle H (fun t ht=>by injection ht with ht;subst ht;exact ⟨_,_,_,rfl,hn,hi⟩)
   ·intro a w K hK H hdep hold Kc hKc;have e1:a.tmps.getD 1 undef= .pointer (some ⟨g1,0,none⟩):=hold 1 (by kernel_rfl);refine y3h (by rfl) 123 (.tmp 1) (by rfl) g1 0 e1 condV _ Tryz.underlying123 rfl (by kernel_rfl) H 1 condV 123 (by rfl) (by rfl) ?_;exact hKc _ _ _ (Sat.refl _) H (fun t ht=>by injection ht with ht;subst ht;exact rfl)
   ·intro a w K hK H hdep hold Kc hKc;refine y1d (by rfl) 27 9 3 _ (by rfl) Tryz.underlying27 [(0,.string ⟨#[70,73,69,76,68]⟩),(1,.string ⟨#[70,82,65,71,77,69,78,84,95,83,80,82,69,65,68]⟩),(2,.string ⟨#[73,78,76,73,78,69,95,70,82,65,71,77,69,78,84]⟩)] (by kernel_rfl) [.string ⟨#[70,73,69,76,68]⟩,.string ⟨#[70,82,65,71,77,69,78,84,95,83,80,82,69,65,68]⟩,.string ⟨#[73,78,76,73,78,69,95,70,82,65,71,77,69,78,84]⟩] (by kernel_rfl) H ?_;intro w1 g H;obtain ⟨K1,hle,H,hb⟩:=H.freezeBox (n:=3) (ls:=y03 pl3) (rt_s (rt_s (rt_s (RL.z)))) (by simp [maxLen]);exact hKc _ _ _ hle H (fun t ht=>by injection ht with ht;subst ht;exact ⟨_,rfl,hb⟩)
   ·intro a w K hK H hdep hold Kc hKc;obtain ⟨g,ev,hs⟩:=hdep 4 14 (by kernel_rfl) (by rfl);have ea:a.tmps.getD 13 undef= .agg condV.toArray:=hdep 3 13 (by kernel_rfl) (by rfl);rw [ev] at hs;have hc:=y2i ⟨#[105,110,99,108,117,100,101]⟩ z2l _ _ _ _ _ _ _ _ _ _ _ _ _ _ _ _ _ pl3 3 3 (some ⟨g,0,none⟩) _ _ _ _ H rfl (by omega) hs z2t
    go_simp
    refine hc.mono ?_;rintro e w1 ⟨K1,gi,A,c,rfl,hle,H,hn,hi⟩;exact hKc _ _ _ hle H (fun t ht=>by injection ht with ht;subst ht;exact ⟨_,_,_,rfl,hn,hi⟩)
   ·intro a w K hK H hdep hold Kc hKc;have e1:a.tmps.getD 3 undef= .pointer (some ⟨g3,0,none⟩):=hold 3 (by kernel_rfl);refine y3h (by rfl) 123 (.tmp 3) (by rfl) g3 0 e1 reasonV _ Tryz.underlying123 rfl (by kernel_rfl) H 0 reasonV 123 (by rfl) (by rfl) ?_;exact hKc _ _ _ (Sat.refl _) H (fun t ht=>by injection ht with ht;subst ht;exact rfl)
   ·intro a w K hK H hdep hold Kc hKc;refine y1d (by rfl) 27 9 2 _ (by rfl) Tryz.underlying27 [(0,.string ⟨#[70,73,69,76,68,95,68,69,70,73,78,73,84,73,79,78]⟩),(1,.string ⟨#[69,78,85,77,95,86,65,76,85,69]⟩)] (by kernel_rfl) [.string ⟨#[70,73,69,76,68,95,68,69,70,73,78,73,84,73,79,78]⟩,.string ⟨#[69,78,85,77,95,86,65,76,85,69]⟩] (by kernel_rfl) H ?_;intro w1 g H;obtain ⟨K1,hle,H,hb⟩:=H.freezeBox (n:=2) (ls:=y03 pl2) (rt_s (rt_s (RL.z))) (by simp [maxLen]);exact hKc _ _ _ hle H (fun t ht=>by injection ht with ht;subst ht;exact ⟨_,rfl,hb⟩)
   ·intro a w K hK H hdep hold Kc hKc;obtain ⟨g,ev,hs⟩:=hdep 7 17 (by kernel_rfl) (by rfl);have ea:a.tmps.getD 16 undef= .agg reasonV.toArray:=hdep 6 16 (by kernel_rfl) (by rfl);rw [ev] at hs;have hc:=y2i ⟨#[100,101,112,114,101,99,97,116,101,100]⟩ y9m _ _ _ _ _ _ _ _ _ _ _ _ _ _ _ _ _ pl2 2 2 (some ⟨g,0,none⟩) _ _ _ _ H rfl (by omega) hs z54
    go_simp
    refine hc.mono ?_;rintro e w1 ⟨K1,gi,A,c,rfl,hle,H,hn,hi⟩;exact hKc _ _ _ hle H (fun t ht=>by injection ht with ht;subst ht;exact ⟨_,_,_,rfl,hn,hi⟩)
   ·intro a w K hK H hdep hold Kc hKc;have hc:=y7l ⟨#[83,116,114,105,110,103]⟩ ⟨#[33]⟩ _ _ _ _ H
    go_simp
    refine hc.mono ?_;rintro e w1 ⟨rfl,H⟩;exact hKc _ _ _ (Sat.refl _) H (fun t ht=>by injection ht with ht;subst ht;exact rfl)
   ·intro a w K hK H hdep hold Kc hKc;have e19:a.tmps.getD 19 undef= .agg #[.string ⟨#[83,116,114,105,110,103]⟩,.string ⟨#[33]⟩]:=hdep 9 19 (by kernel_rfl) (by rfl)
    have e19':a.tmps[19]?.getD undef= .agg #[.string ⟨#[83,116,114,105,110,103]⟩,.string ⟨#[33]⟩]:=by simpa using e19
    go_simp
    exact hKc _ _ _ (Sat.refl _) H (fun t ht=>by injection ht with ht;subst ht;exact rfl)
   ·intro a w K hK H hdep hold Kc hKc;refine y1d (by rfl) 27 9 1 _ (by rfl) Tryz.underlying27 [(0,.string ⟨#[83,67,65,76,65,82]⟩)] (by kernel_rfl) [.string ⟨#[83,67,65,76,65,82]⟩] (by kernel_rfl) H ?_;intro w1 g H;obtain ⟨K1,hle,H,hb⟩:=H.freezeBox (n:=1) (ls:=y03 pl1) (rt_s (RL.z)) (by simp [maxLen]);exact hKc _ _ _ hle H (fun t ht=>by injection ht with ht;subst ht;exact ⟨_,rfl,hb⟩)
   ·intro a w K hK H hdep hold Kc hKc;obtain ⟨g,ev,hs⟩:=hdep 11 21 (by kernel_rfl) (by rfl);have ea:a.tmps.getD 20 undef= .agg urlV.toArray:=hdep 10 20 (by kernel_rfl) (by rfl);rw [ev] at hs;have hc:=y2i ⟨#[115,112,101,99,105,102,105,101,100,66,121]⟩ urlD _ _ _ _ _ _ _ _ _ _ _ _ _ _ _ _ _ pl1 1 1 (some ⟨g,0,none⟩) _ _ _ _ H rfl (by omega) hs q0k
    go_simp
    refine hc.mono ?_;rintro e w1 ⟨K1,gi,A,c,rfl,hle,H,hn,hi⟩;exact hKc _ _ _ hle H (fun t ht=>by injection ht with ht;subst ht;exact ⟨_,_,_,rfl,hn,hi⟩)
   ·intro a w K hK H hdep hold Kc hKc;obtain ⟨ga,Aa,ca,e12,na,ia⟩:=hdep 2 12 (by kernel_rfl) (by rfl);obtain ⟨gb,Ab,cb,e15,nb,ib⟩:=hdep 5 15 (by kernel_rfl) (by rfl);obtain ⟨gc,Ac,cc,e18,nc,ic⟩:=hdep 8 18 (by kernel_rfl) (by rfl);obtain ⟨gd,Ad,cd,e22,nd,id⟩:=hdep 12 22 (by kernel_rfl) (by rfl);refine y1d (by rfl) 22 43 4 _ (by rfl) Tryz.underlying22 [(0,.agg #[.int .i64 8,.bool false,.bool false,.bool false,.string ⟨#[]⟩,.string ⟨#[115,107,105,112]⟩,.slice none 0 0,.slice none 0 0,.slice none 0 0,.slice (some ⟨ga,0,none⟩) 1 1,.slice none 0 0,.slice none 0 0,.slice none 0 0,.bool false,.slice Aa 3 ca,.int .i64 0,.int .i64 0]),(1,.agg #[.int .i64 8,.bool false,.bool false,.bool false,.string ⟨#[]⟩,.string ⟨#[105,110,99,108,117,100,101]⟩,.slice none 0 0,.slice none 0 0,.slice none 0 0,.slice (some ⟨gb,0,none⟩) 1 1,.slice none 0 0,.slice none 0 0,.slice none 0 0,.bool false,.slice Ab 3 cb,.int .i64 0,.int .i64 0]),(2,.agg #[.int .i64 8,.bool false,.bool false,.bool false,.string ⟨#[]⟩,.string ⟨#[100,101,112,114,101,99,97,116,101,100]⟩,.slice none 0 0,.slice none 0 0,.slice none 0 0,.slice (some ⟨gc,0,none⟩) 1 1,.slice none 0 0,.slice none 0 0,.slice none 0 0,.bool false,.slice Ac 2 cc,.int .i64 0,.int .i64 0]),(3,.agg #[.int .i64 8,.bool false,.bool false,.bool false,.string ⟨#[]⟩,.string ⟨#[115,112,101,99,105,102,105,101,100,66,121]⟩,.slice none 0 0,.slice none 0 0,.slice none 0 0,.slice (some ⟨gd,0,none⟩) 1 1,.slice none 0 0,.slice none 0 0,.slice none 0 0,.bool false,.slice Ad 1 cd,.int .i64 0,.int .i64 0])] (Eq.trans (b:=[(0,a.tmps.getD 12 undef),(1,a.tmps.getD 15 undef),(2,a.tmps.getD 18 undef),(3,a.tmps.getD 22 undef)]) (by kernel_rfl) (by rw [e12,e15,e18,e22])) [.int .i64 8,.bool false,.bool false,.bool false,.string ⟨#[]⟩,.string ⟨#[115,107,105,112]⟩,.slice none 0 0,.slice none 0 0,.slice none 0 0,.slice (some ⟨ga,0,none⟩) 1 1,.slice none 0 0,.slice none 0 0,.slice none 0 0,.bool false,.slice Aa 3 ca,.int .i64 0,.int .i64 0,.int .i64 8,.bool false,.bool false,.bool false,.string ⟨#[]⟩,.string ⟨#[105,110,99,108,117,100,101]⟩,.slice none 0 0,.slice none 0 0,.slice none 0 0,.slice (some ⟨gb,0,none⟩) 1 1,.slice none 0 0,.slice none 0 0,.slice none 0 0,.bool false,.slice Ab 3 cb,.int .i64 0,.int .i64 0,.int .i64 8,.bool false,.bool false,.bool false,.string ⟨#[]⟩,.string ⟨#[100,101,112,114,101,99,97,116,101,100]⟩,.slice none 0 0,.slice none 0 0,.slice none 0 0,.slice (some ⟨gc,0,none⟩) 1 1,.slice none 0 0,.slice none 0 0,.slice none 0 0,.bool false,.slice Ac 2 cc,.int .i64 0,.int .i64 0,.int .i64 8,.bool false,.bool false,.bool false,.string ⟨#[]⟩,.string ⟨#[115,112,101,99,105,102,105,101,100,66,121]⟩,.slice none 0 0,.slice none 0 0,.slice none 0 0,.slice (some ⟨gd,0,none⟩) 1 1,.slice none 0 0,.slice none 0 0,.slice none 0 0,.bool false,.slice Ad 1 cd,.int .i64 0,.int .i64 0] (by kernel_rfl) H ?_;intro w1 g H;obtain ⟨K1,hle,H,hb⟩:=H.freezeBox (n:=4) (ls:=y0r givenDirsD) (q0l na ia nb ib nc ic nd id) (by simp [maxLen]);exact hKc _ _ _ hle H (fun t ht=>by injection ht with ht;subst ht;exact ⟨_,rfl,hb⟩)
   ·intro a w K hK H hdep hold Kc hKc;obtain ⟨g,ev,hs⟩:=hdep 13 23 (by kernel_rfl) (by rfl)
    go_simp
    exact hKc _ _ _ (Sat.refl _) H (fun t ht=>by injection ht with ht;subst ht;exact ⟨g,rfl,by rw [←ev];exact hs⟩)
  ·intro a' w' K' hle H hd hsz hn hold;obtain ⟨g,ev,hv⟩:=hn 0 (by kernel_rfl)
   go_wp2_with fail
   have e0:a'.tmps[0]?.getD undef= .slice (some ⟨g,0,none⟩) 4 4:=by simpa using ev
   rw [ev] at hv;replace H:=H.tail.tail;exact bodyPost_ret (v:=.slice (some ⟨g,0,none⟩) 4 4) (by simp [results,Tryz.results57,go_sem,e0]) hd ⟨K',_,_,rfl,hle,H,hv⟩
 ·skip
  go_simp
  replace H:=H.alloc [.bool false,.bool false,.string ⟨#[]⟩,.string ⟨#[]⟩,.string ⟨#[]⟩,.string ⟨#[]⟩,.bool false,.int .i64 0,.string ⟨#[]⟩,.bool false,.slice none 0 0,.slice none 0 0,.int .i64 0,.int .i64 0,.slice none 0 0,.int .i64 0,.int .i64 0] 123;obtain ⟨w18,hq19⟩: ∃x,(w8).alloc (.cells #[.bool false,.bool false,.string ⟨#[]⟩,.string ⟨#[]⟩,.string ⟨#[]⟩,.string ⟨#[]⟩,.bool false,.int .i64 0,.string ⟨#[]⟩,.bool false,.slice none 0 0,.slice none 0 0,.int .i64 0,.int .i64 0,.slice none 0 0,.int .i64 0,.int .i64 0] 123)=x:=⟨_,rfl⟩;obtain ⟨g3,hg17⟩: ∃x,(w8).heap.size=x:=⟨_,rfl⟩;rw [hg17] at H ⊢;rw [hq19] at H ⊢;clear hg17 hq19;have hS20:w18.cell? ⟨g2,0,none⟩=some (.int .i64 4)∧w18.cell? ⟨g2,1,none⟩=some (.string ⟨#[78,111,32,108,111,110,103,101,114,32,115,117,112,112,111,114,116,101,100]⟩)∧w18.cell? ⟨g2,2,none⟩=some (.bool false)∧w18.cell? ⟨g2,3,none⟩=some (.slice none 0 0)∧w18.cell? ⟨g2,4,none⟩=some (.slice none 0 0)∧w18.cell? ⟨g2,5,none⟩=some (.int .i64 0)∧w18.cell? ⟨g2,6,none⟩=some (.int .i64 0):=⟨H.cell (i:=1) rfl rfl,H.cell (i:=1) rfl rfl,H.cell (i:=1) rfl rfl,H.cell (i:=1) rfl rfl,H.cell (i:=1) rfl rfl,H.cell (i:=1) rfl rfl,H.cell (i:=1) rfl rfl⟩;refine hKq.out _ _ (fun _=>hS20) (fun _=>?_);clear hKq Kq;refine held.step (i:=0) (by kernel_rfl) rfl (fun Kq hKq=>?_)
  go_simp
  refine (y7l _ _ _ _ _ _ H).mono ?_;clear H;rintro e x2 ⟨rfl,H⟩;replace H:Hp _ _ _ (_::_::_::M):=H
  try go_simp
  have hS21:x2.cell? ⟨g2,0,none⟩=some (.int .i64 4)∧x2.cell? ⟨g2,1,none⟩=some (.string ⟨#[78,111,32,108,111,110,103,101,114,32,115,117,112,112,111,114,116,101,100]⟩)∧x2.cell? ⟨g2,2,none⟩=some (.bool false)∧x2.cell? ⟨g2,3,none⟩=some (.slice none 0 0)∧x2.cell? ⟨g2,4,none⟩=some (.slice none 0 0)∧x2.cell? ⟨g2,5,none⟩=some (.int .i64 0)∧x2.cell? ⟨g2,6,none⟩=some (.int .i64 0):=⟨H.cell (i:=1) rfl rfl,H.cell (i:=1) rfl rfl,H.cell (i:=1) rfl rfl,H.cell (i:=1) rfl rfl,H.cell (i:=1) rfl rfl,H.cell (i:=1) rfl rfl,H.cell (i:=1) rfl rfl⟩;refine hKq.out _ _ (fun _=>hS21) (fun _=>?_);clear hKq Kq;refine tk 2 hS21 ?_;refine held.step (i:=4) (by kernel_rfl) rfl (fun Kq hKq=>?_);refine z0j (by rfl) 123 (.tmp 3) (.tmp 9) (by rfl) g3 0 (by first|rfl|simp [Act.eval,Act.put]) (.agg #[.bool false,.bool false,.string ⟨#[]⟩,.string ⟨#[114,101,97,115,111,110]⟩,.string ⟨#[83,116,114,105,110,103]⟩,.string ⟨#[]⟩,.bool true,.int .i64 4,.string ⟨#[78,111,32,108,111,110,103,101,114,32,115,117,112,112,111,114,116,101,100]⟩,.bool false,.slice none 0 0,.slice none 0 0,.int .i64 0,.int .i64 0,.slice none 0 0,.int .i64 0,.int .i64 0]) (by first|rfl|simp [Act.eval,Act.put]) [.bool false,.bool false,.string ⟨#[]⟩,.string ⟨#[114,101,97,115,111,110]⟩,.string ⟨#[83,116,114,105,110,103]⟩,.string ⟨#[]⟩,.bool true,.int .i64 4,.string ⟨#[78,111,32,108,111,110,103,101,114,32,115,117,112,112,111,114,116,101,100]⟩,.bool false,.slice none 0 0,.slice none 0 0,.int .i64 0,.int .i64 0,.slice none 0 0,.int .i64 0,.int .i64 0] (by rfl) (by simp [Value.oneCell']) (by kernel_rfl) H 0 [.bool false,.bool false,.string ⟨#[]⟩,.string ⟨#[]⟩,.string ⟨#[]⟩,.string ⟨#[]⟩,.bool false,.int .i64 0,.string ⟨#[]⟩,.bool false,.slice none 0 0,.slice none 0 0,.int .i64 0,.int .i64 0,.slice none 0 0,.int .i64 0,.int .i64 0] [.bool false,.bool false,.string ⟨#[]⟩,.string ⟨#[114,101,97,115,111,110]⟩,.string ⟨#[83,116,114,105,110,103]⟩,.string ⟨#[]⟩,.bool true,.int .i64 4,.string ⟨#[78,111,32,108,111,110,103,101,114,32,115,117,112,112,111,114,116,101,100]⟩,.bool false,.slice none 0 0,.slice none 0 0,.int .i64 0,.int .i64 0,.slice none 0 0,.int .i64 0,.int .i64 0] 123 (by rfl) (Qbn (by rfl)) (by rfl) ?_;clear H;intro w22 H;refine hKq.out _ _ (fun h=>absurd (Qax.2 rfl) h) (fun _=>?_);clear hKq Kq;refine held.done (by kernel_rfl) ?_ _;simp only [Act.put,List.getElem_toArray,List.getElem_cons_zero,List.getElem_cons_succ,List.setIfInBounds_toArray,List.set_cons_zero,List.set_cons_succ];replace H:Hp _ _ _ (_::_::_::M):=H
  go_upto_region 4 with (fail)
  replace H:=H.sub (Qaa _ (Qai _ (Qaa _ (Qam _))));refine q0i (R:=BdR) (by kernel_rfl) (by kernel_rfl) (by kernel_rfl) (by kernel_rfl) BdR.sat ?_ H ?_
  ·simp only [Qbd,List.not_mem_nil,or_false,forall_eq_or_imp,forall_eq];refine ⟨?_,?_,?_,?_,?_,?_,?_,?_,?_,?_,?_,?_,?_,?_,?_⟩
   ·intro a w K hK H hdep hold Kc hKc;have e1:a.tmps.getD 1 undef= .pointer (some ⟨g1,0,none⟩):=hold 1 (by kernel_rfl);refine y3h (by rfl) 123 (.tmp 1) (by rfl) g1 0 e1 condV _ Tryz.underlying123 rfl (by kernel_rfl) H 1 condV 123 (by rfl) (by rfl) ?_;exact hKc _ _ _ (Sat.refl _) H (fun t ht=>by injection ht with ht;subst ht;exact rfl)
   ·intro a w K hK H hdep hold Kc hKc;refine y1d (by rfl) 27 9 3 _ (by rfl) Tryz.underlying27 [(0,.string ⟨#[70,73,69,76,68]⟩),(1,.string ⟨#[70,82,65,71,77,69,78,84,95,83,80,82,69,65,68]⟩),(2,.string ⟨#[73,78,76,73,78,69,95,70,82,65,71,77,69,78,84]⟩)] (by kernel_rfl) [.string ⟨#[70,73,69,76,68]⟩,.string ⟨#[70,82,65,71,77,69,78,84,95,83,80,82,69,65,68]⟩,.string ⟨#[73,78,76,73,78,69,95,70,82,65,71,77,69,78,84]⟩] (by kernel_rfl) H ?_;intro w1 g H;obtain ⟨K1,hle,H,hb⟩:=H.freezeBox (n:=3) (ls:=y03 pl3) (rt_s (rt_s (rt_s (RL.z)))) (by simp [maxLen]);exact hKc _ _ _ hle H (fun t ht=>by injection ht with ht;subst ht;exact ⟨_,rfl,hb⟩)
   ·intro a w K hK H hdep hold Kc hKc;obtain ⟨g,ev,hs⟩:=hdep 1 11 (by kernel_rfl) (by rfl);have ea:a.tmps.getD 10 undef= .agg condV.toArray:=hdep 0 10 (by kernel_rfl) (by rfl);rw [ev] at hs;have hc:=y2i ⟨#[115,107,105,112]⟩ z2l _ _ _ _ _ _ _ _ _ _ _ _ _ _ _ _ _ pl3 3 3 (some ⟨g,0,none⟩) _ _ _ _ H rfl (by omega) hs z2t
    go_simp
    refine hc.mono ?_;rintro e w1 ⟨K1,gi,A,c,rfl,hle,H,hn,hi⟩;exact hKc _ _ _ hle H (fun t ht=>by injection ht with ht;subst ht;exact ⟨_,_,_,rfl,hn,hi⟩)
   ·intro a w K hK H hdep hold Kc hKc;have e1:a.tmps.getD 1 undef= .pointer (some ⟨g1,0,none⟩):=hold 1 (by kernel_rfl);refine y3h (by rfl) 123 (.tmp 1) (by rfl) g1 0 e1 condV _ Tryz.underlying123 rfl (by kernel_rfl) H 1 condV 123 (by rfl) (by rfl) ?_;exact hKc _ _ _ (Sat.refl _) H (fun t ht=>by injection ht with ht;subst ht;exact rfl)
   ·intro a w K hK H hdep hold Kc hKc;refine y1d (by rfl) 27 9 3 _ (by rfl) Tryz.underlying27 [(0,.string ⟨#[70,73,69,76,68]⟩),(1,.string ⟨#[70,82,65,71,77,69,78,84,95,83,80,82,69,65,68]⟩),(2,.string ⟨#[73,78,76,73,78,69,95,70,82,65,71,77,69,78,84]⟩)] (by kernel_rfl) [.string ⟨#[70,73,69,76,68]⟩,.string ⟨#[70,82,65,71,77,69,78,84,95,83,80,82,69,65,68]⟩,.string ⟨#[73,78,76,73,78,69,95,70,82,65,71,77,69,78,84]⟩] (by kernel_rfl) H ?_;intro w1 g H;obtain ⟨K1,hle,H,hb⟩:=H.freezeBox (n:=3) (ls:=y03 pl3) (rt_s (rt_s (rt_s (RL.z)))) (by simp [maxLen]);exact hKc _ _ _ hle H (fun t ht=>by injection ht with ht;subst ht;exact ⟨_,rfl,hb⟩)
   ·intro a w K hK H hdep hold Kc hKc;obtain ⟨g,ev,hs⟩:=hdep 4 14 (by kernel_rfl) (by rfl);have ea:a.tmps.getD 13 undef= .agg condV.toArray:=hdep 3 13 (by kernel_rfl) (by rfl);rw [ev] at hs;have hc:=y2i ⟨#[105,110,99,108,117,100,101]⟩ z2l _ _ _ _ _ _ _ _ _ _ _ _ _ _ _ _ _ pl3 3 3 (some ⟨g,0,none⟩) _ _ _ _ H rfl (by omega) hs z2t
    go_simp
    refine hc.mono ?_;rintro e w1 ⟨K1,gi,A,c,rfl,hle,H,hn,hi⟩;exact hKc _ _ _ hle H (fun t ht=>by injection ht with ht;subst ht;exact ⟨_,_,_,rfl,hn,hi⟩)
   ·intro a w K hK H hdep hold Kc hKc;have e1:a.tmps.getD 3 undef= .pointer (some ⟨g3,0,none⟩):=hold 3 (by kernel_rfl);refine y3h (by rfl) 123 (.tmp 3) (by rfl) g3 0 e1 reasonV _ Tryz.underlying123 rfl (by kernel_rfl) H 0 reasonV 123 (by rfl) (by rfl) ?_;exact hKc _ _ _ (Sat.refl _) H (fun t ht=>by injection ht with ht;subst ht;exact rfl)
   ·intro a w K hK H hdep hold Kc hKc;refine y1d (by rfl) 27 9 2 _ (by rfl) Tryz.underlying27 [(0,.string ⟨#[70,73,69,76,68,95,68,69,70,73,78,73,84,73,79,78]⟩),(1,.string ⟨#[69,78,85,77,95,86,65,76,85,69]⟩)] (by kernel_rfl) [.string ⟨#[70,73,69,76,68,95,68,69,70,73,78,73,84,73,79,78]⟩,.string ⟨#[69,78,85,77,95,86,65,76,85,69]⟩] (by kernel_rfl) H ?_;intro w1 g H;obtain ⟨K1,hle,H,hb⟩:=H.freezeBox (n:=2) (ls:=y03 pl2) (rt_s (rt_s (RL.z))) (by simp [maxLen]);exact hKc _ _ _ hle H (fun t ht=>by injection ht with ht;subst ht;exact ⟨_,rfl,hb⟩)
   ·intro a w K hK H hdep hold Kc hKc;obtain ⟨g,ev,hs⟩:=hdep 7 17 (by kernel_rfl) (by rfl);have ea:a.tmps.getD 16 undef= .agg reasonV.toArray:=hdep 6 16 (by kernel_rfl) (by rfl);rw [ev] at hs;have hc:=y2i ⟨#[100,101,112,114,101,99,97,116,101,100]⟩ y9m _ _ _ _ _ _ _ _ _ _ _ _ _ _ _ _ _ pl2 2 2 (some ⟨g,0,none⟩) _ _ _ _ H rfl (by omega) hs z54
    go_simp
    refine hc.mono ?_;rintro e w1 ⟨K1,gi,A,c,rfl,hle,H,hn,hi⟩;exact hKc _ _ _ hle H (fun t ht=>by injection ht with ht;subst ht;exact ⟨_,_,_,rfl,hn,hi⟩)
   ·intro a w K hK H hdep hold Kc hKc;have hc:=y7l ⟨#[83,116,114,105,110,103]⟩ ⟨#[33]⟩ _ _ _ _ H
    go_simp
    refine hc.mono ?_;rintro e w1 ⟨rfl,H⟩;exact hKc _ _ _ (Sat.refl _) H (fun t ht=>by injection ht with ht;subst ht;exact rfl)
   ·intro a w K hK H hdep hold Kc hKc;have e19:a.tmps.getD 19 undef= .agg #[.string ⟨#[83,116,114,105,110,103]⟩,.string ⟨#[33]⟩]:=hdep 9 19 (by kernel_rfl) (by rfl)
    have e19':a.tmps[19]?.getD undef= .agg #[.string ⟨#[83,116,114,105,110,103]⟩,.string ⟨#[33]⟩]:=by simpa using e19
    go_simp
    exact hKc _ _ _ (Sat.refl _) H (fun t ht=>by injection ht with ht;subst ht;exact rfl)
   ·intro a w K hK H hdep hold Kc hKc;refine y1d (by rfl) 27 9 1 _ (by rfl) Tryz.underlying27 [(0,.string ⟨#[83,67,65,76,65,82]⟩)] (by kernel_rfl) [.string ⟨#[83,67,65,76,65,82]⟩] (by kernel_rfl) H ?_;intro w1 g H;obtain ⟨K1,hle,H,hb⟩:=H.freezeBox (n:=1) (ls:=y03 pl1) (rt_s (RL.z)) (by simp [maxLen]);exact hKc _ _ _ hle H (fun t ht=>by injection ht with ht;subst ht;exact ⟨_,rfl,hb⟩)
   ·intro a w K hK H hdep hold Kc hKc;obtain ⟨g,ev,hs⟩:=hdep 11 21 (by kernel_rfl) (by rfl);have ea:a.tmps.getD 20 undef= .agg urlV.toArray:=hdep 10 20 (by kernel_rfl) (by rfl);rw [ev] at hs;have hc:=y2i ⟨#[115,112,101,99,105,102,105,101,100,66,121]⟩ urlD _ _ _ _ _ _ _ _ _ _ _ _ _ _ _ _ _ pl1 1 1 (some ⟨g,0,none⟩) _ _ _ _ H rfl (by omega) hs q0k
    go_simp
    refine hc.mono ?_;rintro e w1 ⟨K1,gi,A,c,rfl,hle,H,hn,hi⟩;exact hKc _ _ _ hle H (fun t ht=>by injection ht with ht;subst ht;exact ⟨_,_,_,rfl,hn,hi⟩)
   ·intro a w K hK H hdep hold Kc hKc;obtain ⟨ga,Aa,ca,e12,na,ia⟩:=hdep 2 12 (by kernel_rfl) (by rfl);obtain ⟨gb,Ab,cb,e15,nb,ib⟩:=hdep 5 15 (by kernel_rfl) (by rfl);obtain ⟨gc,Ac,cc,e18,nc,ic⟩:=hdep 8 18 (by kernel_rfl) (by rfl);obtain ⟨gd,Ad,cd,e22,nd,id⟩:=hdep 12 22 (by kernel_rfl) (by rfl);refine y1d (by rfl) 22 43 4 _ (by rfl) Tryz.underlying22 [(0,.agg #[.int .i64 8,.bool false,.bool false,.bool false,.string ⟨#[]⟩,.string ⟨#[115,107,105,112]⟩,.slice none 0 0,.slice none 0 0,.slice none 0 0,.slice (some ⟨ga,0,none⟩) 1 1,.slice none 0 0,.slice none 0 0,.slice none 0 0,.bool false,.slice Aa 3 ca,.int .i64 0,.int .i64 0]),(1,.agg #[.int .i64 8,.bool false,.bool false,.bool false,.string ⟨#[]⟩,.string ⟨#[105,110,99,108,117,100,101]⟩,.slice none 0 0,.slice none 0 0,.slice none 0 0,.slice (some ⟨gb,0,none⟩) 1 1,.slice none 0 0,.slice none 0 0,.slice none 0 0,.bool false,.slice Ab 3 cb,.int .i64 0,.int .i64 0]),(2,.agg #[.int .i64 8,.bool false,.bool false,.bool false,.string ⟨#[]⟩,.string ⟨#[100,101,112,114,101,99,97,116,101,100]⟩,.slice none 0 0,.slice none 0 0,.slice none 0 0,.slice (some ⟨gc,0,none⟩) 1 1,.slice none 0 0,.slice none 0 0,.slice none 0 0,.bool false,.slice Ac 2 cc,.int .i64 0,.int .i64 0]),(3,.agg #[.int .i64 8,.bool false,.bool false,.bool false,.string ⟨#[]⟩,.string ⟨#[115,112,101,99,105,102,105,101,100,66,121]⟩,.slice none 0 0,.slice none 0 0,.slice none 0 0,.slice (some ⟨gd,0,none⟩) 1 1,.slice none 0 0,.slice none 0 0,.slice none 0 0,.bool false,.slice Ad 1 cd,.int .i64 0,.int .i64 0])] (Eq.trans (b:=[(0,a.tmps.getD 12 undef),(1,a.tmps.getD 15 undef),(2,a.tmps.getD 18 undef),(3,a.tmps.getD 22 undef)]) (by kernel_rfl) (by rw [e12,e15,e18,e22])) [.int .i64 8,.bool false,.bool false,.bool false,.string ⟨#[]⟩,.string ⟨#[115,107,105,112]⟩,.slice none 0 0,.slice none 0 0,.slice none 0 0,.slice (some ⟨ga,0,none⟩) 1 1,.slice none 0 0,.slice none 0 0,.slice none 0 0,.bool false,.slice Aa 3 ca,.int .i64 0,.int .i64 0,.int .i64 8,.bool false,.bool false,.bool false,.string ⟨#[]⟩,.string ⟨#[105,110,99,108,117,100,101]⟩,.slice none 0 0,.slice none 0 0,.slice none 0 0,.slice (some ⟨gb,0,none⟩) 1 1,.slice none 0 0,.slice none 0 0,.slice none 0 0,.bool false,.slice Ab 3 cb,.int .i64 0,.int .i64 0,.int .i64 8,.bool false,.bool false,.bool false,.string ⟨#[]⟩,.string ⟨#[100,101,112,114,101,99,97,116,101,100]⟩,.slice none 0 0,.slice none 0 0,.slice none 0 0,.slice (some ⟨gc,0,none⟩) 1 1,.slice none 0 0,.slice none 0 0,.slice none 0 0,.bool false,.slice Ac 2 cc,.int .i64 0,.int .i64 0,.int .i64 8,.bool false,.bool false,.bool false,.string ⟨#[]⟩,.string ⟨#[115,112,101,99,105,102,105,101,100,66,121]⟩,.slice none 0 0,.slice none 0 0,.slice none 0 0,.slice (some ⟨gd,0,none⟩) 1 1,.slice none 0 0,.slice none 0 0,.slice none 0 0,.bool false,.slice Ad 1 cd,.int .i64 0,.int .i64 0] (by kernel_rfl) H ?_;intro w1 g H;obtain ⟨K1,hle,H,hb⟩:=H.freezeBox (n:=4) (ls:=y0r givenDirsD) (q0l na ia nb ib nc ic nd id) (by simp [maxLen]);exact hKc _ _ _ hle H (fun t ht=>by injection ht with ht;subst ht;exact ⟨_,rfl,hb⟩)
   ·intro a w K hK H hdep hold Kc hKc;obtain ⟨g,ev,hs⟩:=hdep 13 23 (by kernel_rfl) (by rfl)
    go_simp
    exact hKc _ _ _ (Sat.refl _) H (fun t ht=>by injection ht with ht;subst ht;exact ⟨g,rfl,by rw [←ev];exact hs⟩)
  ·intro a' w' K' hle H hd hsz hn hold;obtain ⟨g,ev,hv⟩:=hn 0 (by kernel_rfl)
   go_wp2_with fail
   have e0:a'.tmps[0]?.getD undef= .slice (some ⟨g,0,none⟩) 4 4:=by simpa using ev
   rw [ev] at hv;replace H:=H.tail.tail;exact bodyPost_ret (v:=.slice (some ⟨g,0,none⟩) 4 4) (by simp [results,Tryz.results57,go_sem,e0]) hd ⟨K',_,_,rfl,hle,H,hv⟩
end Go.Proofs.YtbpgkkoeehopjaaGreat.hp
namespace Go.Proofs.YtbpgkkoeehopjaaGreat.ty
open Go.RowKit lex gram dat hp
abbrev y0a (l:List DefD):List Txt:=l.map (·.name)
def addD (l:List DefD) (d:DefD):List DefD:=if d.name∈y0a l then l else l++[d]
abbrev IsTy (d:DefD):Prop:=2≤d.kind∧d.kind≤7∧d.ext=false
def y2e (p:List DefD×List DefD) (d:DefD):List DefD×List DefD:=
 if d.kind=8 then (p.1,if d.name∈y0a givenDirsD then p.2 else addD p.2 d)
 else if IsTy d then (if d.name∈y0a givenT then p.1 else addD p.1 d,p.2) else p
def y1y (l:List DefD) (x:Txt):Option Nat:=(y0a l).findIdx? (· ==x)
def step2 (l:List DefD) (d:DefD):List DefD:=
 match y1y l d.name with
 |none=>l
 |some i=>match l[i]? with
  |none=>l
  |some e=>if d.ext=true∧d.kind=e.kind∧d.kind≠1∧d.name∉y0a givenT then l.set i (y1h e d) else l
def bare (defs:List DefD):List DefD×List DefD:=defs.foldl y2e ([],[])
def y2z (defs:List DefD):List DefD:=givenT.foldl addD (bare defs).1
def y2r (defs:List DefD):List DefD:=givenDirsD.foldl addD (bare defs).2
def y0q (defs:List DefD):List DefD:=defs.foldl step2 (y2z defs)
def y0j (l:List DefD) (x:Txt):Int:=(((y1y l x).bind fun i=>l[i]?).map (·.kind)).getD 0
def y5c:DefD:={kind:=1,ext:=false,note:=y7n,name:=[],ifaces:=[],dirs:=[],fields:=[],inputs:=[],members:=[],values:=[],roots:=[],rep:=false,places:=[],line:=0,col:=0}
def y40:Txt:=[81,117,101,114,121]
def q0m:Txt:=[77,117,116,97,116,105,111,110]
def z7g:Txt:=[83,117,98,115,99,114,105,112,116,105,111,110]
def rootN:List Txt:=[y40,q0m,z7g]
def y39 (ts:List DefD):List RootD:=(rootN.zipIdx.filter fun p=>y0j ts p.1==3).map fun p=>⟨1+(p.2:Int),p.1,0,0⟩
def y1q (d:DefD):Bool:=d.kind==1&& !d.ext
def y13 (s d:DefD):DefD:=if d.kind=1∧d.ext=true then {s with dirs:=s.dirs++d.dirs,roots:=s.roots++d.roots} else s
def y1w (defs ts:List DefD):DefD:=
 match defs.find? y1q with
 |none=>{y5c with roots:=y39 ts}
 |some d=>defs.foldl y13 d
abbrev FMap:=List ((Txt×Txt)×Value)
def addF (m:FMap) (t f:Txt) (k:Nat):FMap:=if (y00 m (t,f)).isSome then m else m++[((t,f),.int .i64 (k:Int))]
def x6u (m:FMap) (d:DefD):FMap:=d.fields.zipIdx.foldl (fun m p=>addF m d.name p.1.name p.2) m
def fieldsOf (ts:List DefD):FMap:=ts.foldl x6u []
abbrev OMap:=List (Txt×List (Txt×Value))
def y1m (s:List (Txt×Value)) (x:Txt) (n:Nat):List (Txt×Value):=if (y00 s x).isSome then s else s++[(x,.int .i64 (n:Int))]
def addO:OMap→Txt→Txt→Nat→OMap
 |[],t,x,n=>[(t,[(x,.int .i64 (n:Int))])]
 |p::r,t,x,n=>if p.1=t then (t,y1m p.2 x n)::r else p::addO r t x n
def y4a (ts:List DefD) (m:OMap) (p:DefD×Nat):OMap:=
 if p.1.kind=3 then p.1.ifaces.foldl (fun m n=>if y0j ts n.name=4 then addO m n.name p.1.name p.2 else m) (addO m p.1.name p.1.name p.2)
 else if p.1.kind=5 then p.1.members.zipIdx.foldl (fun m q=>if y0j ts q.1.name=3 then addO m p.1.name q.1.name q.2 else m) m
 else m
def y11 (ts:List DefD):OMap:=ts.zipIdx.foldl (y4a ts) []
theorem z56 {l:List DefD} {i:Nat} {e e':DefD} (h:l[i]?=some e) (hn:e'.name=e.name):y0a (l.set i e')=y0a l:=by
 apply Qby;intro j;simp only [y0a,Qbz,List.getElem?_set];by_cases hj:i=j
 ·subst hj;have hlt:=(Qac.1 h).1;rw [if_pos rfl,if_pos hlt,h];simp [hn]
 ·rw [if_neg hj]
theorem y8r {l:List DefD} {d:DefD} (h:(y0a l).Nodup):(y0a (addD l d)).Nodup:=by
 unfold addD;split
 ·exact h
 ·rename_i hn;simp only [y0a,Qas,List.map_cons,List.map_nil];rw [Qbr];refine ⟨h,by simp,?_⟩;intro a ha b hb he;simp only [Qax] at hb;subst hb he;exact hn ha
theorem y2o {l:List DefD} {x:Txt} {i:Nat} (h:y1y l x=some i): ∃d,l[i]?=some d∧d.name=x:=by
 unfold y1y at h;rw [Qbs] at h;obtain ⟨hi,h1,_⟩:=h
 have hi':i<l.length:=by simpa using hi
 exact ⟨l[i],Qad hi',by simpa using h1⟩
theorem z1m {l:List DefD} {x:Txt} (h:y1y l x=none):x∉y0a l:=by
 unfold y1y at h;rw [List.findIdx?_eq_none_iff] at h;intro hx;have:=h x hx;simp at this
theorem x1w {l:List DefD} {d:DefD}:y0a (step2 l d)=y0a l:=by
 unfold step2;split
 ·rfl
 ·split
  ·rfl
  ·split
   ·rename_i he _;exact z56 he rfl
   ·rfl
theorem q0n {α:Type} {f:α→Nat}: ∀{l:List α} {i:Nat} {e:α} (e':α),l[i]?=some e→sumN f (l.set i e')+f e=sumN f l+f e'
 |[],i,e,e',h=>by simp at h
 |x::r,0,e,e',h=>by simp only [List.getElem?_cons_zero] at h;injection h with h;subst h;simp only [List.set_cons_zero,sumN];omega
 |x::r,i+1,e,e',h=>by simp only [List.getElem?_cons_succ] at h;have:=q0n (f:=f) e' h;simp only [List.set_cons_succ,sumN];omega
theorem z7h {α:Type} {f:α→Nat} (l:List α) (k:Nat):sumN f (l.take k)≤sumN f l:=by
 have:=y73 (f:=f) (l.take k) (l.drop k);rw [List.take_append_drop] at this;omega
theorem q46 (e d:DefD):defN (y1h e d)≤defN e+defN d:=by
 simp only [defN,y1h,y73,Qae];omega
theorem z2a (l:List DefD) (d:DefD):y0i (addD l d)≤y0i l+defN d:=by
 unfold addD;split
 ·omega
 ·unfold y0i;rw [y73];simp only [sumN];omega
theorem q0o (l:List DefD) (d:DefD):y0i (step2 l d)≤y0i l+defN d:=by
 unfold step2;split
 ·omega
 ·split
  ·omega
  ·split
   ·rename_i e he _;have h1:=q0n (f:=defN) (y1h e d) he;have h2:=q46 e d;unfold y0i;omega
   ·omega
theorem y9n {f:List DefD→DefD→List DefD} (h: ∀l d,y0i (f l d)≤y0i l+defN d): ∀(l s:List DefD),y0i (l.foldl f s)≤y0i s+y0i l
 |[],s=>by simp [y0i,sumN]
 |d::r,s=>by
  have h1:=y9n h r (f s d);have h2:=h s d;simp only [List.foldl_cons,y0i,sumN] at h1 h2 ⊢;omega
theorem z9n: ∀(l:List DefD) (p:List DefD×List DefD),y0i (l.foldl y2e p).1≤y0i p.1+y0i l∧y0i (l.foldl y2e p).2≤y0i p.2+y0i l
 |[],p=>by simp [y0i,sumN]
 |d::r,p=>by
  have h1:=z9n r (y2e p d)
  have h2:y0i (y2e p d).1≤y0i p.1+defN d∧y0i (y2e p d).2≤y0i p.2+defN d:=by
   have a1:=z2a p.1 d;have a2:=z2a p.2 d;unfold y2e;split
   ·dsimp only;split<;>omega
   ·split
    ·dsimp only;split<;>omega
    ·omega
  simp only [List.foldl_cons,y0i,sumN] at h1 h2 ⊢;omega
theorem y8s {α β:Type} {Q:β→Prop} {f:β→α→β} (h: ∀b a,Q b→Q (f b a)): ∀(l:List α) (b:β),Q b→Q (l.foldl f b)
 |[],b,hb=>hb
 |a::r,b,hb=>y8s h r (f b a) (h b a hb)
theorem z57 (l:List DefD):(y0a (bare l).1).Nodup∧(y0a (bare l).2).Nodup:=by
 refine y8s (Q:=fun p:List DefD×List DefD=>(y0a p.1).Nodup∧(y0a p.2).Nodup) ?_ l ([],[]) ⟨List.nodup_nil,List.nodup_nil⟩;intro p d h;have a1:=y8r (d:=d) h.1;have a2:=y8r (d:=d) h.2;unfold y2e;split
 ·dsimp only;split
  ·exact h
  ·exact ⟨h.1,a2⟩
 ·split
  ·dsimp only;split
   ·exact h
   ·exact ⟨a1,h.2⟩
  ·exact h
theorem z9o (l:List DefD):(y0a (y2z l)).Nodup:=y8s (Q:=fun p:List DefD=>(y0a p).Nodup) (fun p d h=>y8r h) givenT _ (z57 l).1
theorem x6v (l:List DefD):(y0a (y2r l)).Nodup:=y8s (Q:=fun p:List DefD=>(y0a p).Nodup) (fun p d h=>y8r h) givenDirsD _ (z57 l).2
theorem z4d: ∀(l s:List DefD),y0a (l.foldl step2 s)=y0a s
 |[],s=>rfl
 |d::r,s=>by rw [List.foldl_cons,z4d r,x1w]
theorem x1x (l:List DefD):y0a (y0q l)=y0a (y2z l):=z4d l _
theorem y9o (l:List DefD):(y0a (y0q l)).Nodup:=by rw [x1x];exact z9o l
theorem q8k (l:List DefD):y0i (y0q l)≤2*y0i l+y0i givenT:=by
 have h1:=y9n q0o l (y2z l);have h2:=y9n z2a givenT (bare l).1;have h3:=(z9n l ([],[])).1;simp only [y0q,y2z,bare,y0i,sumN] at h1 h2 h3 ⊢;omega
theorem dirs_N (l:List DefD):y0i (y2r l)≤y0i l+y0i givenDirsD:=by
 have h2:=y9n z2a givenDirsD (bare l).2;have h3:=(z9n l ([],[])).2;simp only [y2r,bare,y0i,sumN] at h2 h3 ⊢;omega
theorem q0p (s d:DefD):defN (y13 s d)≤defN s+defN d:=by
 unfold y13;split
 ·simp only [defN,y73,Qae];omega
 ·omega
theorem z4e: ∀(l:List DefD) (s:DefD),defN (l.foldl y13 s)≤defN s+y0i l
 |[],s=>by simp [y0i,sumN]
 |d::r,s=>by
  have h1:=z4e r (y13 s d);have h2:=q0p s d;simp only [List.foldl_cons,y0i,sumN] at h1 ⊢;omega
end Go.Proofs.YtbpgkkoeehopjaaGreat.ty
namespace Go.Proofs.YtbpgkkoeehopjaaGreat.hp
open Go.RowKit words enc tree gram lex rd dec dat held ty
section
variable {w0 w w' K K' : World} {M : List Ent}
theorem Hp.rotAt (C A B:List Ent) (H:Hp w0 w K (C++(A++(B++M)))):Hp w0 w K (C++(B++(A++M))):=
 H.perm (List.Perm.append_left C (by rw [←Qat,←Qat];exact (List.perm_append_comm).append_right M))
def Bst (g ga gd gf go:Nat) (ts ds:List DefD) (w0 w K:World) (M:List Ent):Prop:=
 ∃TS VT VD xD,ts=TS.map (·.1)∧tok K TS∧RL K (y0r ds) xD∧
  Hp w0 w K (tbox g ga gd gf go VT VD:: .map ga (y0y (nmap (y0a ts))):: .row 43 17 VT ts.length (y02 TS):: .map gd (y0y (nmap (y0a ds))):: .row 43 17 VD ds.length xD::(y1a TS++M))
theorem x6w {l:List DefD} {d:DefD} {xs ys:List Value} (h:RL K (y0r l) xs) (h':RL K (defL d) ys):RL K (y0r (l++[d])) (xs++ys):=by
 have:y0r (l++[d])=y0r l++defL d:=by simp [y0r]
 rw [this];exact h.app h'
theorem x1y (d:DefD) (cs:Array Value) (g ga gd gf go:Nat) (ts ds:List DefD) (H:Bst g ga gd gf go ts ds w0 w K M) (hd:RL K (defL d) cs.toList) (hm:defN d≤9000000) (hk:ts.length≤9000000):
  Calls Tryz.prog 59 #[.pointer (some ⟨g,0,none⟩),.agg cs] w fun e w'=>∃K',e= .returned (.tuple #[])∧Sat K' K∧Bst g ga gd gf go (addD ts d) ds w0 w' K' M:=by
 obtain ⟨TS,VT,VD,xD,hts,hok,hxD,H⟩:=H;have hlen:(y0a ts).length=ts.length:=Qay ..;by_cases hin:d.name∈y0a ts
 ·refine (x1t d cs (y0a ts) g ga gd gf go VT VD w0 w K _ H hd hin).mono ?_;rintro e w' ⟨rfl,H⟩;have hadd:addD ts d=ts:=if_pos hin;rw [hadd];exact ⟨K,rfl,Sat.refl K,TS,VT,VD,xD,hts,hok,hxD,H⟩
 ·have H1:Hp w0 w K (tbox g ga gd gf go VT VD:: .map ga (y0y (nmap (y0a ts))):: .row 43 17 VT (y0a ts).length (y02 TS)::(.map gd (y0y (nmap (y0a ds))):: .row 43 17 VD ds.length xD::(y1a TS++M))):=by rw [hlen];exact H
  refine (x1u d cs (y0a ts) g ga gd gf go VT VD (y02 TS) w0 w K _ H1 hd hin hm (by omega)).mono ?_;rintro e w' ⟨K',V,VT',rfl,hle,H2,hV⟩;have hadd:addD ts d=ts++[d]:=if_neg hin;rw [hadd];refine ⟨K',rfl,hle,TS++[(d,V)],VT',VD,xD,by rw [Qas,←hts];rfl,?_,hxD.sat hle,?_⟩
  ·intro p hp;rcases Qbf.1 hp with hp|hp
   ·exact (hok p hp).sat hle
   ·obtain rfl:=Qax.1 hp;exact hV
  ·have H3:=Hp.rotAt [tbox g ga gd gf go VT' VD,.map ga (y0y (nmap (y0a ts++[d.name]))),.row 43 17 VT' ((y0a ts).length+1) (y02 TS++DV.cells d V)] (DV.rows d V) (.map gd (y0y (nmap (y0a ds))):: .row 43 17 VD ds.length xD::y1a TS) (M:=M) H2
   have e1:y02 (TS++[(d,V)])=y02 TS++DV.cells d V:=by rw [z1l];simp [y02]
   have e2:y1a (TS++[(d,V)])=y1a TS++DV.rows d V:=by rw [z9l];simp [y1a]
   have e3:y0a (ts++[d])=y0a ts++[d.name]:=by simp [y0a]
   have e4:(ts++[d]).length=(y0a ts).length+1:=by rw [hlen];simp
   rw [e1,e2,e3,e4,Qat];exact H3
theorem x6x (d:DefD) (cs:Array Value) (g ga gd gf go:Nat) (ts ds:List DefD) (H:Bst g ga gd gf go ts ds w0 w K M) (hd:RL K (defL d) cs.toList) (hm:defN d≤9000000) (hk:ds.length≤9000000):
  Calls Tryz.prog 58 #[.pointer (some ⟨g,0,none⟩),.agg cs] w fun e w'=>∃K',e= .returned (.tuple #[])∧Sat K' K∧Bst g ga gd gf go ts (addD ds d) w0 w' K' M:=by
 obtain ⟨TS,VT,VD,xD,hts,hok,hxD,H⟩:=H;have hlen:(y0a ds).length=ds.length:=Qay ..
 have H1:Hp w0 w K (tbox g ga gd gf go VT VD:: .map gd (y0y (nmap (y0a ds))):: .row 43 17 VD (y0a ds).length xD::(.map ga (y0y (nmap (y0a ts))):: .row 43 17 VT ts.length (y02 TS)::(y1a TS++M))):=by
  rw [hlen];exact Hp.rotAt [tbox g ga gd gf go VT VD] [.map ga (y0y (nmap (y0a ts))),.row 43 17 VT ts.length (y02 TS)] [.map gd (y0y (nmap (y0a ds))),.row 43 17 VD ds.length xD] (M:=y1a TS++M) H
 by_cases hin:d.name∈y0a ds
 ·refine (x6q d cs (y0a ds) g ga gd gf go VT VD w0 w K _ H1 hd hin).mono ?_;rintro e w' ⟨rfl,H⟩;have hadd:addD ds d=ds:=if_pos hin;rw [hadd];refine ⟨K,rfl,Sat.refl K,TS,VT,VD,xD,hts,hok,hxD,?_⟩;rw [hlen] at H;exact Hp.rotAt [tbox g ga gd gf go VT VD] [.map gd (y0y (nmap (y0a ds))),.row 43 17 VD ds.length xD] [.map ga (y0y (nmap (y0a ts))),.row 43 17 VT ts.length (y02 TS)] (M:=y1a TS++M) H
 ·refine (x6r d cs (y0a ds) g ga gd gf go VT VD xD w0 w K _ H1 hd hin hm (by omega)).mono ?_;rintro e w' ⟨K',xs,VD',rfl,hle,H2,hxs⟩;have hadd:addD ds d=ds++[d]:=if_neg hin;rw [hadd];refine ⟨K',rfl,hle,TS,VT,VD',xD++xs,hts,hok.sat hle,x6w (hxD.sat hle) hxs,?_⟩
  have e3:y0a (ds++[d])=y0a ds++[d.name]:=by simp [y0a]
  have e4:(ds++[d]).length=(y0a ds).length+1:=by rw [hlen];simp
  rw [e3,e4];exact Hp.rotAt [tbox g ga gd gf go VT VD'] [.map gd (y0y (nmap (y0a ds++[d.name]))),.row 43 17 VD' ((y0a ds).length+1) (xD++xs)] [.map ga (y0y (nmap (y0a ts))),.row 43 17 VT ts.length (y02 TS)] (M:=y1a TS++M) H2
end
def y1u (OB:List (Txt×Nat×List (Txt×Value))):List Ent:=OB.map fun p=>.map p.2.1 (y0y p.2.2)
def y16 (OB:List (Txt×Nat×List (Txt×Value))):List (Txt×Value):=OB.map fun p=>(p.1,.map (some p.2.1))
def omap (OB:List (Txt×Nat×List (Txt×Value))):OMap:=OB.map fun p=>(p.1,p.2.2)
def Ost (go:Nat) (om:OMap) (w0 w K:World) (M:List Ent):Prop:=∃OB,om=omap OB∧Hp w0 w K (.map go (y0y (y16 OB))::(y1u OB++M))
theorem z58 (x:Txt): ∀OB:List (Txt×Nat×List (Txt×Value)),(y00 (y16 OB) x=none∧ ∀n m,addO (omap OB) x n m=omap OB++[(x,[(n,.int .i64 (m:Int))])])∨ ∃A b s B,OB=A++(x,b,s)::B∧y00 (y16 OB) x=some (.map (some b))∧ ∀n m,addO (omap OB) x n m=omap A++(x,y1m s n m)::omap B
 |[]=>.inl ⟨rfl,fun _ _=>rfl⟩
 |p::r=>by
  by_cases h:p.1=x
  ·obtain ⟨a,b,s⟩:=p;simp only at h;subst h;exact .inr ⟨[],b,s,r,rfl,by simp [y00,y16],fun n m=>by simp [addO,omap]⟩
  ·have hk:y00 (y16 (p::r)) x=y00 (y16 r) x:=by simp [y00,y16,h]
   have ha: ∀n m,addO (omap (p::r)) x n m=(p.1,p.2.2)::addO (omap r) x n m:=fun n m=>by simp [addO,omap,h]
   rcases z58 x r with ⟨h1,h2⟩|⟨A,b,s,B,rfl,h1,h2⟩
   ·exact .inl ⟨hk.trans h1,fun n m=>by rw [ha,h2];simp [omap]⟩
   ·exact .inr ⟨p::A,b,s,B,rfl,hk.trans h1,fun n m=>by rw [ha,h2];simp [omap]⟩
structure TysD where
 schema:DefD
 types:List DefD
 dirs:List DefD
 fields:FMap
 objects:OMap
def y05 (defs:List DefD):TysD:=⟨y1w defs (y0q defs),y0q defs,y2r defs,fieldsOf (y0q defs),y11 (y0q defs)⟩
structure TyA (K:World) (g ga gd gf go:Nat) (sch:List Value) (VT VD:Value) (s:DefD) (ts ds:List DefD):Prop where
 box:Kb K g (sch++[VT,.map (some ga),VD,.map (some gd),.map (some gf),.map (some go)]) 91
 sch:RL K (defL s) sch
 types:RD K (.list ts.length (y0r ts)) VT
 dirs:RD K (.list ds.length (y0r ds)) VD
 at_:Km K ga (y0s ks (nmap (y0a ts)))
 dirAt:Km K gd (y0s ks (nmap (y0a ds)))
theorem ty_c {sch:List Value} (h:sch.length=17) (l:List Value) (k:Nat):(sch++l)[17+k]?=l[k]?:=by
 rw [Qba (by omega),h];congr 1;omega
section
variable {K K' : World} {g ga gd gf go : Nat} {sch : List Value} {VT VD : Value} {s : DefD} {ts ds : List DefD}
theorem TyA.len (h:TyA K g ga gd gf go sch VT VD s ts ds):sch.length=17:=h.sch.len
theorem TyA.c17 (h:TyA K g ga gd gf go sch VT VD s ts ds):(sch++[VT,.map (some ga),VD,.map (some gd),.map (some gf),.map (some go)])[17]?=some VT:=ty_c h.len _ 0
theorem TyA.c18 (h:TyA K g ga gd gf go sch VT VD s ts ds):(sch++[VT,.map (some ga),VD,.map (some gd),.map (some gf),.map (some go)])[18]?=some (.map (some ga)):=ty_c h.len _ 1
theorem TyA.c19 (h:TyA K g ga gd gf go sch VT VD s ts ds):(sch++[VT,.map (some ga),VD,.map (some gd),.map (some gf),.map (some go)])[19]?=some VD:=ty_c h.len _ 2
theorem TyA.c21 (h:TyA K g ga gd gf go sch VT VD s ts ds):(sch++[VT,.map (some ga),VD,.map (some gd),.map (some gf),.map (some go)])[21]?=some (.map (some gf)):=ty_c h.len _ 4
theorem TyA.c22 (h:TyA K g ga gd gf go sch VT VD s ts ds):(sch++[VT,.map (some ga),VD,.map (some gd),.map (some gf),.map (some go)])[22]?=some (.map (some go)):=ty_c h.len _ 5
theorem TyA.sat (h:TyA K g ga gd gf go sch VT VD s ts ds) (hs:Sat K' K):TyA K' g ga gd gf go sch VT VD s ts ds:=
 ⟨h.box.sat hs,h.sch.sat hs,h.types.sat hs,h.dirs.sat hs,h.at_.sat hs,h.dirAt.sat hs⟩
end
structure Tys (K:World) (g:Nat) (D:TysD) (ga gd gf go:Nat) (sch:List Value) (VT VD:Value) (OB:List (Txt×Nat×List (Txt×Value))):Prop where
 a:TyA K g ga gd gf go sch VT VD D.schema D.types D.dirs
 fields:Km K gf (y0s kp D.fields)
 objects:Km K go (y0s ks (y16 OB))
 om:D.objects=omap OB
 sets: ∀p∈OB,Km K p.2.1 (y0s ks p.2.2)
def TysK (K:World) (g:Nat) (D:TysD):Prop:=∃ga gd gf go sch VT VD OB,Tys K g D ga gd gf go sch VT VD OB
section
variable {K K' : World} {g : Nat} {D : TysD}
theorem Tys.sat {ga gd gf go:Nat} {sch:List Value} {VT VD:Value} {OB:List (Txt×Nat×List (Txt×Value))} (h:Tys K g D ga gd gf go sch VT VD OB) (hs:Sat K' K):Tys K' g D ga gd gf go sch VT VD OB:=
 ⟨h.a.sat hs,h.fields.sat hs,h.objects.sat hs,h.om,fun p hp=>(h.sets p hp).sat hs⟩
theorem TysK.sat (h:TysK K g D) (hs:Sat K' K):TysK K' g D:=by
 obtain ⟨ga,gd,gf,go,sch,VT,VD,OB,h⟩:=h;exact ⟨ga,gd,gf,go,sch,VT,VD,OB,h.sat hs⟩
end
end Go.Proofs.YtbpgkkoeehopjaaGreat.hp
namespace Go.Proofs.YtbpgkkoeehopjaaGreat.ty
open Go.RowKit lex gram dat hp
theorem y6h {α β:Type} {Q:β→Prop} {f:β→α→β}: ∀(l:List α) (b:β),(∀b a,a∈l→Q b→Q (f b a))→Q b→Q (l.foldl f b)
 |[],b,_,hb=>hb
 |a::r,b,h,hb=>y6h r (f b a) (fun b' a' ha=>h b' a' (Qa2 _ ha)) (h b a (Qaz ..) hb)
theorem y8t {α:Type} {l:List α} {p:α×Nat} (h:p∈l.zipIdx):l[p.2]?=some p.1:=by
 rw [Qb0] at h;exact h
def FOk (ts:List DefD) (m:FMap):Prop:=∀p∈m,∃(i:Nat) (d:DefD) (k:Nat) (f:FieldD),ts[i]?=some d∧d.name=p.1.1∧d.fields[k]?=some f∧f.name=p.1.2∧p.2= .int .i64 ((k:Nat):Int)
theorem q8l {ts:List DefD} {m:FMap} {i k:Nat} {d:DefD} {f:FieldD} (h:FOk ts m) (hd:ts[i]?=some d) (hf:d.fields[k]?=some f):FOk ts (addF m d.name f.name k):=by
 unfold addF;split
 ·exact h
 ·intro p hp;rcases Qbf.1 hp with hp|hp
  ·exact h p hp
  ·obtain rfl:=Qax.1 hp;exact ⟨i,d,k,f,hd,rfl,hf,rfl,rfl⟩
theorem x1z (ts:List DefD):FOk ts (fieldsOf ts):=by
 refine y6h (Q:=FOk ts) ts [] ?_ (fun _ h=>by cases h);intro m d hd h;obtain ⟨i,hi⟩:=Qbp.1 hd;refine y6h (Q:=FOk ts) d.fields.zipIdx m ?_ h;intro m p hp h;exact q8l h hi (y8t hp)
theorem z2u {ts:List DefD} {i:Nat} {d:DefD} (hn:(y0a ts).Nodup) (h:ts[i]?=some d):y1y ts d.name=some i:=by
 unfold y1y
 have hi:i<(y0a ts).length:=by have:=(Qac.1 h).1;simpa using this
 have hx:(y0a ts)[i]=d.name:=by
  have h2:(y0a ts)[i]?=some d.name:=by simp [y0a,h]
  rw [Qad hi] at h2;injection h2
 rw [Qbs];refine ⟨hi,by simp [hx],?_⟩;intro j hj;have hne:(y0a ts)[j]≠(y0a ts)[i]:=List.pairwise_iff_getElem.1 hn j i (by omega) hi hj;rw [hx] at hne;simpa using hne
theorem z9p {ts:List DefD} {i:Nat} {d:DefD} (hn:(y0a ts).Nodup) (h:ts[i]?=some d):y0j ts d.name=d.kind:=by
 simp [y0j,z2u hn h,h]
theorem y9p {ts:List DefD} {i:Nat} {x:Txt} {d:DefD} (h:y1y ts x=some i) (hd:ts[i]?=some d):y0j ts x=d.kind:=by
 simp [y0j,h,hd]
theorem y5n {ts:List DefD} {x:Txt} (h:y1y ts x=none):y0j ts x=0:=by
 simp [y0j,h]
def nmAt (ts:List DefD) (t:Txt) (n:Nat):Option Txt:=
 if y0j ts t=5 then (((y1y ts t).bind fun i=>ts[i]?).bind fun d=>d.members[n]?).map (·.name) else (ts[n]?).map (·.name)
def SOk (f:Nat→Option Txt) (s:List (Txt×Value)):Prop:=(s.map (·.1)).Nodup∧ ∀q∈s,∃n:Nat,q.2= .int .i64 (n:Int)∧f n=some q.1
def OOk (ts:List DefD) (om:OMap):Prop:=∀p∈om,SOk (nmAt ts p.1) p.2
theorem q0q {f:Nat→Option Txt} {s:List (Txt×Value)} {x:Txt} {n:Nat} (h:SOk f s) (hx:f n=some x):SOk f (y1m s x n):=by
 unfold y1m;split
 ·exact h
 ·rename_i hs
  have hs:y00 s x=none:=by simpa using hs
  refine ⟨?_,?_⟩
  ·rw [Qas,Qbr];refine ⟨h.1,by simp,?_⟩;intro a ha b hb he;simp only [List.map_cons,List.map_nil,Qax] at hb;subst hb he;obtain ⟨p,hp,rfl⟩:=Qbe.1 ha;exact z5y hs p hp rfl
  ·intro q hq;rcases Qbf.1 hq with hq|hq
   ·exact h.2 q hq
   ·obtain rfl:=Qax.1 hq;exact ⟨n,rfl,hx⟩
theorem z7i {ts:List DefD}: ∀{om:OMap} {t x:Txt} {n:Nat},OOk ts om→nmAt ts t n=some x→OOk ts (addO om t x n)
 |[],t,x,n,_,hx=>by
  intro p hp;obtain rfl:=Qax.1 hp;exact ⟨by simp,fun q hq=>by obtain rfl:=Qax.1 hq;exact ⟨n,rfl,hx⟩⟩
 |p::r,t,x,n,h,hx=>by
  unfold addO;split
  ·rename_i hp;intro q hq;rcases Qbd.1 hq with rfl|hq
   ·have:=h p (Qaz ..);rw [hp] at this;exact q0q this hx
   ·exact h q (Qa2 _ hq)
  ·intro q hq;rcases Qbd.1 hq with rfl|hq
   ·exact h _ (Qaz ..)
   ·exact z7i (fun a ha=>h a (Qa2 _ ha)) hx q hq
theorem z2b {ts:List DefD} (hn:(y0a ts).Nodup):OOk ts (y11 ts):=by
 refine y6h (Q:=OOk ts) ts.zipIdx [] ?_ (fun _ h=>by cases h);rintro m ⟨d,i⟩ hd h;have hd:ts[i]?=some d:=y8t hd;have hk:=z9p hn hd
 have hi: ∀t,y0j ts t≠5→nmAt ts t i=some d.name:=fun t ht=>by simp [nmAt,ht,hd]
 unfold y4a;dsimp only;split
 ·rename_i h3;refine y6h (Q:=OOk ts) d.ifaces _ ?_ (z7i h (hi _ (by omega)));intro m n _ hm;split
  ·exact z7i hm (hi _ (by omega))
  ·exact hm
 ·split
  ·rename_i h5;refine y6h (Q:=OOk ts) d.members.zipIdx m ?_ h;rintro m ⟨n,k⟩ hnk hm;have hnk:d.members[k]?=some n:=y8t hnk;dsimp only;split
   ·refine z7i hm ?_;simp [nmAt,hk,h5,z2u hn hd,hd,hnk]
   ·exact hm
  ·exact h
def y14 (om:OMap) (t:Txt):List (Txt×Value):=((om.find? (fun p=>decide (p.1=t))).map (·.2)).getD []
theorem x4a {ts:List DefD} {om:OMap} (h:OOk ts om) (t:Txt):SOk (nmAt ts t) (y14 om t):=by
 unfold y14
 cases hq:om.find? (fun p=>decide (p.1=t)) with
 |none=>exact ⟨List.nodup_nil,fun _ h=>by cases h⟩
 |some p=>
  have h1:=List.find?_some hq;have h1:p.1=t:=Qa6 h1;have:=h p (List.mem_of_find?_eq_some hq);rw [h1] at this;exact this
theorem q8m {ts:List DefD} {t x:Txt} {n:Nat} (h:nmAt ts t n=some x):n<ts.length∨ ∃d∈ts,n<d.members.length:=by
 unfold nmAt at h;split at h
 ·right
  cases hi:y1y ts t with
  |none=>simp [hi] at h
  |some i=>
   cases hd:ts[i]? with
   |none=>simp [hi,hd] at h
   |some d=>
    refine ⟨d,Qaf hd,?_⟩;rcases Qbm n d.members.length with hl|hl
    ·exact hl
    ·simp [hi,hd,Qbg hl] at h
 ·left;rcases Qbm n ts.length with hl|hl
  ·exact hl
  ·simp [Qbg hl] at h
def y9q (s:List (Txt×Value)) (x:Txt):Int:=match y00 s x with|some (.int .i64 n)=>n|_=>0
theorem x4b {f:Nat→Option Txt} {s:List (Txt×Value)} (h:SOk f s) (x:Txt):(y00 s x=none∧ ∀p∈s,p.1≠x)∨ ∃n:Nat,y00 s x=some (.int .i64 (n:Int))∧f n=some x∧(x,.int .i64 (n:Int))∈s:=by
 cases hq:y00 s x with
 |none=>exact .inl ⟨rfl,z5y hq⟩
 |some v=>
  have hm:=x99 hq;obtain ⟨n,h1,h2⟩:=h.2 _ hm;simp only at h1 h2;subst h1;exact .inr ⟨n,rfl,h2,hm⟩
theorem q0r {f:Nat→Option Txt} {s:List (Txt×Value)} (h:SOk f s) (x:Txt):(y00 s x).getD (.int .i64 0)= .int .i64 (y9q s x):=by
 unfold y9q
 rcases x4b h x with ⟨h1,_⟩|⟨n,h1,_⟩<;>rw [h1]<;>rfl
theorem x4c {α:Type} {l:List α} {k:Nat} {x:α} (hx:l[k]?=some x):(l.take (k+1)).zipIdx=(l.take k).zipIdx++[(x,k)]:=by
 have hk:=(Qac.1 hx).1
 have h1:l.take (k+1)=l.take k++[x]:=by rw [List.take_add_one,hx];rfl
 have h2:(l.take k).length=k:=by rw [Qau];omega
 rw [h1,List.zipIdx_append,h2];simp
theorem y4r {α β:Type} {l:List α} {k:Nat} {x:α} (hx:l[k]?=some x) (f:β→α→β) (b:β):(l.take (k+1)).foldl f b=f ((l.take k).foldl f b) x:=by
 have h1:l.take (k+1)=l.take k++[x]:=by rw [List.take_add_one,hx];rfl
 rw [h1,List.foldl_append];rfl
theorem y3s {α β:Type} {l:List α} {k:Nat} {x:α} (hx:l[k]?=some x) (f:β→α×Nat→β) (b:β):(l.take (k+1)).zipIdx.foldl f b=f ((l.take k).zipIdx.foldl f b) (x,k):=by
 rw [x4c hx,List.foldl_append];rfl
theorem y4b {ts:List DefD} {i:Nat} {d:DefD} (h:ts[i]?=some d):defN d≤y0i ts:=by
 have h1:ts=ts.take i++d::ts.drop (i+1):=by
  obtain ⟨hi,rfl⟩:=Qac.1 h;simp
 rw [h1];unfold y0i;rw [y73];simp only [sumN];omega
theorem z1n (d:DefD):d.members.length≤defN d:=by unfold defN;omega
theorem z4f (d:DefD):d.ifaces.length≤defN d:=by unfold defN;omega
theorem q0s (d:DefD):d.fields.length≤defN d:=by have:=y0w y5b d.fields;unfold defN;omega
theorem q0t {ts:List DefD} {t x:Txt} {n:Nat} (h:nmAt ts t n=some x):n<y0i ts:=by
 have hl:ts.length≤y0i ts:=y0w y28 ts;rcases q8m h with h|⟨d,hd,h⟩
 ·omega
 ·obtain ⟨i,hi⟩:=Qbp.1 hd;have:=y4b hi;have:=z1n d;omega
end Go.Proofs.YtbpgkkoeehopjaaGreat.ty
namespace Go.Proofs.YtbpgkkoeehopjaaGreat.hp
open Go.RowKit words enc tree gram lex rd dec dat held ty
set_option maxRecDepth 100000
attribute [local go_sem ↓] Go.wp_at_zero Go.wp_at_succ
theorem q0u (l:List (Txt×Value)) (x:Txt):y00 l x=y5m l x:=by
 have e1:(fun p:Txt×Value=>p.1==x)=fun p=>decide (p.1=x):=by funext p;rw [Bool.eq_iff_iff];simp
 unfold y00 y5m;rw [e1]
theorem y2x (ts:List DefD) (x:Txt):y00 (nmap (y0a ts)) x=(y1y ts x).map fun i=>.int .i64 ((i:Nat):Int):=(q0u _ x).trans (z0p (y0a ts) x)
theorem y8u {ts:List DefD} {x:Txt} {i:Nat} (h:y1y ts x=some i):i<ts.length:=by
 obtain ⟨d,hd,_⟩:=y2o h;exact (Qac.1 hd).1
section
variable {K : World} {g ga gd gf go : Nat} {sch : List Value} {VT VD : Value} {s : DefD} {ts ds : List DefD}
theorem y4e {n:Nat} {l:List Leaf} {v:Value} (h:RD K (.list n l) v): ∃A c,v= .slice A n c∧n≤c∧c≤maxLen:=by
 obtain ⟨A,c,vs,h1,h2,h3,_⟩:=y0k h.reads;exact ⟨A,c,h1,h2,h3⟩
theorem y4s {α:Type} {f:α→List Leaf} {m n c k:Nat} {A:Option Addr} {l:List α} {x:α} (hf: ∀x,(f x).length=m) (h:RD K (.list n (l.flatMap f)) (.slice A n c)) (hk:l[k]?=some x) (hm:0<m):
  ∃ad vs,A=some ad∧RL K (f x) vs∧vs.length=m∧At K (ad.add (k*m)) vs:=by
 obtain ⟨ad,vs,h1,h2,h3,_,h5,h6⟩:=y74 hf h hk hm;exact ⟨ad,vs,h1,h2,h3,⟨h5,h6⟩⟩
end
set_option maxHeartbeats 4000000 in
theorem q8n (x:Txt) (g ga gd gf go:Nat) (sch:List Value) (VT VD:Value) (s:DefD) (ts ds:List DefD) (w0 w K:World) (M:List Ent) (H:Hp w0 w K M) (T:TyA K g ga gd gf go sch VT VD s ts ds):
  Calls Tryz.prog 79 #[.pointer (some ⟨g,0,none⟩),.string (str x)] w fun e w'=>e= .returned (.int .i64 (y0j ts x))∧Hp w0 w' K M:=by
 have hq:=y2x ts x;have h18:=T.c18
 cases hi:y1y ts x with
 |none=>
  rw [hi] at hq;have hk:y0j ts x=0:=y5n hi;go_enter Tryz.func79,Tryz.ntmps79;have cf1:(w).cell? ⟨g,18,none⟩=some (.map (some ga)):=H.kcell T.box h18
  go_upto_region 2 with (first
   |(refine y1p (by rfl) (.tmp 11) (.tmp 12) 87 true (by rfl) Tryz.underlying87 (y1i Tryz.underlying9) (.int .i64 0) y0p ga (nmap (y0a ts)) (H.kmap T.at_) (by first|rfl|simp [Act.eval,Act.put]) (x) (by first|rfl|simp [Act.eval,Act.put]) (.tuple #[.int .i64 0,.bool false]) (by rw [hq];rfl) ?_))
  go_wp2_with fail
  go_ret;exact ⟨by rw [hk];rfl,H⟩
 |some i=>
  rw [hi] at hq;obtain ⟨d,hd,-⟩:=y2o hi;have hlt:=y8u hi;have hk:y0j ts x=d.kind:=y9p hi hd;obtain ⟨A,c,rfl,hc1,hc2⟩:=y4e T.types;obtain ⟨ad,vs,rfl,hxd,_,hat⟩:=y65 (m:=17) (f:=defL) y1b H T.types hd (by omega);obtain ⟨A6,c6,A7,c7,A8,c8,A9,c9,A10,c10,A11,c11,A12,c12,A14,c14,rfl,-,-,-,-,-,-,-,-⟩:=y0h hxd;have hcell:=hat.1 _ rfl;clear hat hxd
  have hltI:(i:Int)<(ts.length:Int):=by omega
  have h17:=H.kcell T.box T.c17;go_enter Tryz.func79,Tryz.ntmps79;have cf2:(w).cell? ⟨g,18,none⟩=some (.map (some ga)):=H.kcell T.box h18
  go_upto_region 2 with (first
   |(refine y1p (by rfl) (.tmp 11) (.tmp 12) 87 true (by rfl) Tryz.underlying87 (y1i Tryz.underlying9) (.int .i64 0) y0p ga (nmap (y0a ts)) (H.kmap T.at_) (by first|rfl|simp [Act.eval,Act.put]) (x) (by first|rfl|simp [Act.eval,Act.put]) (.tuple #[.int .i64 (i:Int),.bool true]) (by rw [hq];rfl) ?_))
  go_wp2_with fail
  go_ret;exact ⟨by rw [hk];rfl,H⟩
theorem q0v (d:DefD) (cs:Array Value) (w0 w K:World) (M:List Ent) (H:Hp w0 w K M) (hd:RL K (defL d) cs.toList):
  Calls Tryz.prog 107 #[.agg cs] w fun e w'=>e= .returned (.bool (y1q d))∧Hp w0 w' K M:=by
 obtain ⟨A6,c6,A7,c7,A8,c8,A9,c9,A10,c10,A11,c11,A12,c12,A14,c14,hcs,-,-,-,-,-,-,-,-⟩:=y0h hd;clear hd;have hs:y1q d=(decide (d.kind=1)&& !d.ext):=rfl;obtain ⟨kd,hkd⟩: ∃kd,d.kind=kd:=⟨_,rfl⟩;obtain ⟨ex,hex⟩: ∃ex,d.ext=ex:=⟨_,rfl⟩;rw [hs];clear hs;rw [hkd,hex] at hcs ⊢;clear hkd hex;obtain rfl:cs= #[.int .i64 kd,.bool ex,.bool d.note.has,.bool d.note.block,.string (str d.note.text),.string (str d.name),.slice A6 d.ifaces.length c6,.slice A7 d.dirs.length c7,.slice A8 d.fields.length c8,.slice A9 d.inputs.length c9,.slice A10 d.members.length c10,.slice A11 d.values.length c11,.slice A12 d.roots.length c12,.bool d.rep,.slice A14 d.places.length c14,.int .i64 d.line,.int .i64 d.col]:=Qal.1 hcs;clear hcs;by_cases h1:kd=1
 ·subst h1;go_enter Tryz.func107,Tryz.ntmps107
  go_wp2_with (first
   |(refine z16 (by rfl) 43 (.tmp 0) (by rfl) [.int .i64 1,.bool ex,.bool d.note.has,.bool d.note.block,.string (str d.note.text),.string (str d.name),.slice A6 d.ifaces.length c6,.slice A7 d.dirs.length c7,.slice A8 d.fields.length c8,.slice A9 d.inputs.length c9,.slice A10 d.members.length c10,.slice A11 d.values.length c11,.slice A12 d.roots.length c12,.bool d.rep,.slice A14 d.places.length c14,.int .i64 d.line,.int .i64 d.col] _ (by rfl) (by rfl) (some 1) (by rfl) H ?_;clear H;intro w1 g1 H hg2;clear hg2;have:=H.c 0 0;have:=H.c 0 1))
  replace H:=H.sub (Qai _ (Qam _));go_ret;exact ⟨by simp,H⟩
 ·skip
  go_enter Tryz.func107,Tryz.ntmps107
  go_wp2_with (first
   |(refine z16 (by rfl) 43 (.tmp 0) (by rfl) [.int .i64 kd,.bool ex,.bool d.note.has,.bool d.note.block,.string (str d.note.text),.string (str d.name),.slice A6 d.ifaces.length c6,.slice A7 d.dirs.length c7,.slice A8 d.fields.length c8,.slice A9 d.inputs.length c9,.slice A10 d.members.length c10,.slice A11 d.values.length c11,.slice A12 d.roots.length c12,.bool d.rep,.slice A14 d.places.length c14,.int .i64 d.line,.int .i64 d.col] _ (by rfl) (by rfl) (some 1) (by rfl) H ?_;clear H;intro w3 g1 H hg4;clear hg4;have:=H.c 0 0;have:=H.c 0 1))
  replace H:=H.sub (Qai _ (Qam _));go_ret;exact ⟨by simp [h1],H⟩
theorem z1o {α:Type} {p:α→Bool}: ∀{l:List α} {k:Nat} {x:α},(∀y∈l.take k,p y=false)→l[k]?=some x→p x=true→l.findIdx? p=some k
 |[],k,x,_,h,_=>by simp at h
 |a::r,0,x,_,h,hp=>by
  simp only [List.getElem?_cons_zero,Option.some.injEq] at h;subst h;simp [List.findIdx?_cons,hp]
 |a::r,k+1,x,h0,h,hp=>by
  have ha:p a=false:=h0 a (by simp);have:=z1o (l:=r) (k:=k) (fun y hy=>h0 y (by rw [List.take_succ_cons];exact Qa2 _ hy)) (by simpa using h) hp;simp [List.findIdx?_cons,ha,this]
theorem z59 {α:Type} {p:α→Bool} {l:List α} (h: ∀y∈l,p y=false):l.findIdx? p=none:=by
 rw [List.findIdx?_eq_none_iff];exact h
def idxI (o:Option Nat):Int:=match o with|none=> -1|some i=>i
set_option maxHeartbeats 4000000 in
theorem z9q (defs:List DefD) (n c:Nat) (A:Option Addr) (w0 w K:World) (M:List Ent) (H:Hp w0 w K M) (hn:defs.length=n) (hd:RD K (.list n (y0r defs)) (.slice A n c)) (hm:n≤20000000):
  Calls Tryz.prog 106 #[.slice A n c,.func (.func 107) #[] #[]] w fun e w'=>e= .returned (.int .i64 (idxI (defs.findIdx? y1q)))∧Hp w0 w' K M:=by
 have HN:=hide hn;clear hn;go_enter Tryz.func106,Tryz.ntmps106
 go_wp2_with fail
 go_loopw [8] (fun i wr=>∃k:Nat,k≤n∧i= .int .i64 k∧Hp w0 wr K M∧ ∀y∈defs.take k,y1q y=false) (fun i _=>n - (intOf i).toNat)
 case atStart=>exact ⟨0,Qak _,rfl,H,by simp⟩
 case round=>
  clear H;obtain ⟨k,hk,rfl,H,hno⟩:=hrel;by_cases hlt:k<n
  ·have hkI:(k:Int)<(n:Int):=by omega
   obtain ⟨x,hx⟩: ∃x,defs[k]?=some x:=⟨_,Qad (by rw [HN.out];exact hlt)⟩;have HX:=hide hx;obtain ⟨ad,xs,rfl,hxd,_,hat⟩:=y65 (m:=17) (f:=defL) y1b H hd hx (by omega);clear hx;have hsz:(Tryz.prog.info? 43).map (·.size)=some 17:=y60;have hxl:xs.length=17:=hxd.len;have hno:=hide hno
   cases hb:y1q x with
   |true=>
    go_wp2_with (first
     |((with_reducible show wpList _ _ _ (_::_) _ _);refine y0c (by rfl) 43 (.tmp 14) (by rfl) (ad.add (k*17)) (by simp [Act.eval,Act.put]) _ _ hat Tryz.underlying43 rfl (by rw [hxl];exact hsz) ?_)
     |(go_at_call 107;refine (q0v x xs.toArray _ _ _ _ H hxd).mono ?_;clear H;rintro e w1 ⟨rfl,H⟩;rw [hb]))
    go_ret;exact ⟨by rw [z1o hno.out HX.out hb];rfl,H⟩
   |false=>
    go_wp2_with (first
     |((with_reducible show wpList _ _ _ (_::_) _ _);refine y0c (by rfl) 43 (.tmp 14) (by rfl) (ad.add (k*17)) (by simp [Act.eval,Act.put]) _ _ hat Tryz.underlying43 rfl (by rw [hxl];exact hsz) ?_)
     |(go_at_call 107;refine (q0v x xs.toArray _ _ _ _ H hxd).mono ?_;clear H;rintro e w1 ⟨rfl,H⟩;rw [hb]))
    go_roundw
    case rel=>exact ⟨k+1,by omega,by go_num,H,by
     intro y hy;rw [y1l HX.out] at hy;rcases Qbf.1 hy with hy|hy
     ·exact hno.out y hy
     ·obtain rfl:=Qax.1 hy;exact hb⟩
    case measure=>simp [intOf];omega
  ·obtain rfl:n=k:=by omega
   have htk:defs.take n=defs:=by rw [←HN.out];exact List.take_length
   rw [htk] at hno;have hno:=hide hno
   go_wp2_with fail
   go_ret;exact ⟨by rw [z59 hno.out];rfl,H⟩
def z0q (ts:List DefD) (k:Nat):List RootD:=((rootN.zipIdx.take k).filter fun p=>y0j ts p.1==3).map fun p=>⟨1+(p.2:Int),p.1,0,0⟩
theorem x6y (ts:List DefD):z0q ts 3=y39 ts:=rfl
theorem x15 (ts:List DefD) {k:Nat} {x:Txt} (h:rootN[k]?=some x):z0q ts (k+1)=z0q ts k++if y0j ts x=3 then [⟨1+(k:Int),x,0,0⟩] else []:=by
 have h1:rootN.zipIdx[k]?=some (x,k):=by rw [List.getElem?_zipIdx,h];simp
 unfold z0q;rw [List.take_add_one,h1,List.filter_append,Qas]
 congr 1
 by_cases h3:y0j ts x=3
 ·simp [h3]
 ·simp [h3]
theorem x6z {K:World} {l:List RootD} {r:RootD} {vs:List Value} (h:RL K (y30 l) vs):RL K (y30 (l++[r])) (vs++[.int .i64 r.op,.string (str r.type),.int .i64 r.line,.int .i64 r.col]):=by
 rw [y49];exact h.app (by simp only [y30,List.flatMap_cons,List.flatMap_nil,List.append_nil];exact .lit (.lit (.lit (.lit RL.z))))
def SchP (s:DefD) (w0 K:World) (M:List Ent) (e:Ending) (w':World):Prop:=
 ∃K' cs,e= .returned (.agg cs)∧Sat K' K∧Hp w0 w' K' M∧RL K' (defL s) cs.toList
set_option maxHeartbeats 16000000 in
theorem x60 (defs ts:List DefD) (n c nt ct:Nat) (A Aty:Option Addr) (g ga gd gf go:Nat) (VD:Value) (w0 w K:World) (M:List Ent) (H:Hp w0 w K (tbox g ga gd gf go (.slice Aty nt ct) VD::M)) (hn:defs.length=n) (hd:RD K (.list n (y0r defs)) (.slice A n c)) (hm:n≤20000000)
  (hnt:ts.length=nt) (ht:RD K (.list nt (y0r ts)) (.slice Aty nt ct)) (hat:Km K ga (y0s ks (nmap (y0a ts)))) (hno:defs.findIdx? y1q=none):
  Calls Tryz.prog 61 #[.pointer (some ⟨g,0,none⟩),.slice A n c] w (SchP {y5c with roots:=y39 ts} w0 K (tbox g ga gd gf go (.slice Aty nt ct) VD::M)):=by
 have HN:=hide hn;have HNT:=hide hnt;clear hn hnt;obtain ⟨k0,hk0,k0z,k0s,k0b⟩:=info_parts z3o;have hM: ∃M',(tbox g ga gd gf go (.slice Aty nt ct) VD::M)=M':=⟨_,rfl⟩;go_enter Tryz.func61,Tryz.ntmps61;replace H:Hp _ _ _ (.box _ [_,_,_,_,_,_,_,_,_,_,_,_,_,_,_,_,_,_,_,_,_,_,_] _::M):=H
 try dsimp only at H
 have hK:=Sat.refl K
 go_upto_region 4 with (first
  |(go_at_call 106;refine (z9q defs n c A _ _ _ _ H HN.out hd hm).mono ?_;clear H;rintro e w5 ⟨rfl,H⟩;rw [hno];clear hno;simp only [idxI])
  |((with_reducible refine isL ?_);first
   |(refine al z43 4 H ?_;clear H;intro w1 g4 H)
   |(refine al z43 6 H ?_;clear H;intro w4 g6 H)
   |(refine sA 6 0 H ?_;clear H;intro w6 H)))
 go_upto_region 5 with (first
  |(refine y2w (by rfl) 27 9 3 _ (by rfl) (some 20) (by rfl) Tryz.underlying27 [.string ⟨#[81,117,101,114,121]⟩,.string ⟨#[77,117,116,97,116,105,111,110]⟩,.string ⟨#[83,117,98,115,99,114,105,112,116,105,111,110]⟩] (by kernel_rfl) H ?_;clear H;intro w7 g20 H;obtain ⟨K2,hle8,H,hnames⟩:=H.freezeBox (n:=3) (ls:=y03 rootN) ((rt_s (rt_s (rt_s RL.z)))) (by simp only [maxLen];omega);replace hd:=hd.sat hle8;replace ht:=ht.sat hle8;replace hat:=hat.sat hle8;replace hK:=hle8.trans hK))
 go_wp2_with fail
 go_loopw [22] (fun i wr=>∃(k:Nat) (V:Value) (vs:List Value),k≤3∧i= .int .i64 k∧Hp w0 wr K2 (.row 100 4 V (z0q ts k).length vs:: .box g6 [.int .i64 1,.bool false,.bool false,.bool false,.string ⟨#[]⟩,.string ⟨#[]⟩,.slice none 0 0,.slice none 0 0,.slice none 0 0,.slice none 0 0,.slice none 0 0,.slice none 0 0,V,.bool false,.slice none 0 0,.int .i64 0,.int .i64 0] 43:: .box g4 [.int .i64 0,.bool false,.bool false,.bool false,.string ⟨#[]⟩,.string ⟨#[]⟩,.slice none 0 0,.slice none 0 0,.slice none 0 0,.slice none 0 0,.slice none 0 0,.slice none 0 0,.slice none 0 0,.bool false,.slice none 0 0,.int .i64 0,.int .i64 0] 43::tbox g ga gd gf go (.slice Aty nt ct) VD::M)∧RL K2 (y30 (z0q ts k)) vs) (fun i _=>3 - (intOf i).toNat)
 case atStart=>exact ⟨0,_,[],Qak _,rfl,H.nilRow 100 4,RL.z⟩
 case round=>
  clear H;obtain ⟨k,V,vs,hk,rfl,H,hvs⟩:=hrel;obtain ⟨Av,cv,rfl,_,_⟩:=H.slice (i:=0) rfl
  have hrl:(z0q ts k).length≤3:=by unfold z0q;rw [Qay];exact Qah (Qb3 _ _) (by rw [Qau];exact Nat.min_le_right _ _)
  obtain ⟨rs,hrs⟩: ∃rs,z0q ts k=rs:=⟨_,rfl⟩;by_cases hlt:k<3
  ·have hkI:(k:Int)<(3:Int):=by omega
   obtain ⟨x,hx⟩: ∃x,rootN[k]?=some x:=⟨_,Qad hlt⟩;have HE:=hide (x15 ts hx);rw [hrs] at H hvs HE hrl;clear hrs;obtain ⟨ad,had,hc⟩:=z4c H hnames hx;injection had with had;subst had;rw [y3i] at hc;clear hx;have hq:=y2x ts x;obtain ⟨m,hmr⟩: ∃m,rs.length=m:=⟨_,rfl⟩;have HM:=hide hmr;rw [hmr] at H hrl;clear hmr;replace H:Hp _ _ _ (_:: .box _ [_,_,_,_,_,_,_,_,_,_,_,_,_,_,_,_,_] _:: .box _ [_,_,_,_,_,_,_,_,_,_,_,_,_,_,_,_,_] _:: .box _ [_,_,_,_,_,_,_,_,_,_,_,_,_,_,_,_,_,_,_,_,_,_,_] _::M):=H
   try dsimp only at H
   cases hi:y1y ts x with
   |none=>
    rw [hi] at hq;have hk0:y0j ts x=0:=y5n hi;rw [if_neg (by omega),List.append_nil] at HE;have:=H.c 3 18
    go_upto_region 8 with (first
     |(refine y1p (by rfl) (.tmp 31) (.tmp 32) 87 true (by rfl) Tryz.underlying87 (y1i Tryz.underlying9) (.int .i64 0) y0p ga (nmap (y0a ts)) (H.kmap hat) (by first|rfl|simp [Act.eval,Act.put]) (x) (by first|rfl|simp [Act.eval,Act.put]) (.tuple #[.int .i64 0,.bool false]) (by rw [hq];rfl) ?_))
    go_wp2_with fail
    go_roundw
    case rel=>exact ⟨k+1,_,vs,by omega,by go_num,by rw [HE.out,HM.out];exact H,by rw [HE.out];exact hvs⟩
    case measure=>simp [intOf];omega
   |some i=>
    rw [hi] at hq;obtain ⟨d,hd1,-⟩:=y2o hi;have hil:=y8u hi;rw [HNT.out] at hil;have hkk:y0j ts x=d.kind:=y9p hi hd1;obtain ⟨ad2,xs,rfl,hxd,_,hat2⟩:=y65 (m:=17) (f:=defL) y1b H ht hd1 (by omega);obtain ⟨A6,c6,A7,c7,A8,c8,A9,c9,A10,c10,A11,c11,A12,c12,A14,c14,rfl,-,-,-,-,-,-,-,-⟩:=y0h hxd;have hcell:=hat2.1 _ rfl;clear hat2 hxd hd1;rw [hkk] at HE;clear hkk;obtain ⟨kd,hkd⟩: ∃kd,d.kind=kd:=⟨_,rfl⟩;rw [hkd] at hcell HE;clear hkd
    have hiI:(i:Int)<(nt:Int):=by omega
    by_cases h3:kd=3
    ·subst h3;rw [if_pos rfl] at HE;have:=H.c 3 18
     go_upto_region 8 with (first
      |(refine y1p (by rfl) (.tmp 31) (.tmp 32) 87 true (by rfl) Tryz.underlying87 (y1i Tryz.underlying9) (.int .i64 0) y0p ga (nmap (y0a ts)) (H.kmap hat) (by first|rfl|simp [Act.eval,Act.put]) (x) (by first|rfl|simp [Act.eval,Act.put]) (.tuple #[.int .i64 (i:Int),.bool true]) (by rw [hq];rfl) ?_))
     have:=H.c 3 17
     go_upto_region 9 with (fail)
     have:=H.c 1 12
     go_upto_region 10 with (first
      |(refine y2w (by rfl) 39 100 1 _ (by rfl) (some 54) (by rfl) Tryz.underlying39 [.int .i64 (1+(k:Int)),.string (str x),.int .i64 0,.int .i64 0] (by kernel_rfl) H ?_;clear H;intro w9 g54 H;have:=H.c 2 12)
      |(at_builtin;refine y4p (by rfl) _ _ 39 (by rfl) 100 k0 _ 4 40 Tryz.underlying39 hk0 k0z k0s k0b (by rfl) (by decide) H 1 (.slice Av m cv) (m) (vs) (by rfl) (by first|rfl|simp [Act.eval,Act.put]) (some ⟨g54,0,none⟩) 1 1 [.int .i64 (1+(k:Int)),.string (str x),.int .i64 0,.int .i64 0] (by first|rfl|simp [Act.eval,Act.put]) (by rfl) (H.rd (i:=0) rfl) (by simp [Value.oneCell']) (by simp only [maxLen];omega) (by omega) ?_;clear H;intro V2 w2 H;replace H:Hp w0 w2 K2 (.box g54 [.int .i64 (1+(k:Int)),.string (str x),.int .i64 0,.int .i64 0] 100:: .row 100 4 (V2) (m+1) (vs++[.int .i64 (1+(k:Int)),.string (str x),.int .i64 0,.int .i64 0]):: .box g6 [.int .i64 1,.bool false,.bool false,.bool false,.string ⟨#[]⟩,.string ⟨#[]⟩,.slice none 0 0,.slice none 0 0,.slice none 0 0,.slice none 0 0,.slice none 0 0,.slice none 0 0,.slice Av m cv,.bool false,.slice none 0 0,.int .i64 0,.int .i64 0] 43:: .box g4 [.int .i64 0,.bool false,.bool false,.bool false,.string ⟨#[]⟩,.string ⟨#[]⟩,.slice none 0 0,.slice none 0 0,.slice none 0 0,.slice none 0 0,.slice none 0 0,.slice none 0 0,.slice none 0 0,.bool false,.slice none 0 0,.int .i64 0,.int .i64 0] 43:: .box g [.int .i64 0,.bool false,.bool false,.bool false,.string ⟨#[]⟩,.string ⟨#[]⟩,.slice none 0 0,.slice none 0 0,.slice none 0 0,.slice none 0 0,.slice none 0 0,.slice none 0 0,.slice none 0 0,.bool false,.slice none 0 0,.int .i64 0,.int .i64 0,.slice (some ad2) nt ct,.map (some ga),VD,.map (some gd),.map (some gf),.map (some go)] 91::M):=H;obtain ⟨V2A,V2c,rfl,V2l,V2m⟩:=H.slice (i:=1) rfl;have:=H.c 2 12)
      |((with_reducible refine isL ?_);first
       |(refine s1 56 2 (.slice V2A (m+1) V2c) H ?_;clear H;intro w10 H;have:=H.c 2 12)))
     replace H:=H.sub (Qai _ (Qaa _ (Qaa _ (Qaa _ (Qaa _ (Qam _))))))
     go_wp2_with fail
     go_roundw
     case rel=>exact ⟨k+1,_,_,by omega,by go_num,by rw [HE.out];simp only [Qae,List.length_cons,List.length_nil,HM.out];exact H,by rw [HE.out];exact x6z hvs⟩
     case measure=>simp [intOf];omega
    ·rw [if_neg h3,List.append_nil] at HE;have:=H.c 3 18
     go_upto_region 8 with (first
      |(refine y1p (by rfl) (.tmp 31) (.tmp 32) 87 true (by rfl) Tryz.underlying87 (y1i Tryz.underlying9) (.int .i64 0) y0p ga (nmap (y0a ts)) (H.kmap hat) (by first|rfl|simp [Act.eval,Act.put]) (x) (by first|rfl|simp [Act.eval,Act.put]) (.tuple #[.int .i64 (i:Int),.bool true]) (by rw [hq];rfl) ?_))
     have:=H.c 3 17
     go_upto_region 9 with (fail)
     go_wp2_with fail
     go_roundw
     case rel=>exact ⟨k+1,_,vs,by omega,by go_num,by rw [HE.out,HM.out];exact H,by rw [HE.out];exact hvs⟩
     case measure=>simp [intOf];omega
  ·obtain rfl:k=3:=by omega
   rw [x6y] at H hvs hrs;clear hrs;replace H:Hp _ _ _ (_:: .box _ [_,_,_,_,_,_,_,_,_,_,_,_,_,_,_,_,_] _:: .box _ [_,_,_,_,_,_,_,_,_,_,_,_,_,_,_,_,_] _:: .box _ [_,_,_,_,_,_,_,_,_,_,_,_,_,_,_,_,_,_,_,_,_,_,_] _::M):=H
   try dsimp only at H
   go_upto_region 11 with (fail)
   go_wp2_with (first
    |((with_reducible refine isL ?_);first
     |(refine ld 6 1 17 Tryz.underlying43 H ?_)
     |(refine sA 4 2 H ?_;clear H;intro w11 H)))
   refine bodyPost_ret (v:=.agg #[.int .i64 1,.bool false,.bool false,.bool false,.string ⟨#[]⟩,.string ⟨#[]⟩,.slice none 0 0,.slice none 0 0,.slice none 0 0,.slice none 0 0,.slice none 0 0,.slice none 0 0,.slice Av (y39 ts).length cv,.bool false,.slice none 0 0,.int .i64 0,.int .i64 0]) (results_cell_row rfl _ _ g4 43 _ (0,0) _ (by rfl) (H.blkAt (i:=2) rfl) Tryz.underlying43 rfl (by kernel_rfl)) rfl ?_;replace H:=H.sub (Qaa _ (Qai _ (Qai _ (Qaa _ (Qam _)))));obtain ⟨K',hle,H,hv⟩:=H.freezeRow hvs;exact ⟨K',_,rfl,hle.trans hK,H,.lit (.lit (.lit (.lit (.lit (.lit (.cons RD.z (.cons RD.z (.cons RD.z (.cons RD.z (.cons RD.z (.cons RD.z (.cons hv (.lit (.cons RD.z (.lit (.lit RL.z))))))))))))))))⟩
set_option maxHeartbeats 16000000 in
theorem x61 (defs:List DefD) (d:DefD) (i0 n c:Nat) (A:Option Addr) (g:Nat) (w0 w K:World) (M:List Ent) (H:Hp w0 w K M) (hn:defs.length=n) (hd:RD K (.list n (y0r defs)) (.slice A n c)) (hm:y0i defs≤3000000)
  (hat0:defs[i0]?=some d) (hi0:defs.findIdx? y1q=some i0):
  Calls Tryz.prog 61 #[.pointer (some ⟨g,0,none⟩),.slice A n c] w (SchP (defs.foldl y13 d) w0 K M):=by
 have hnl:n≤3000000:=by have:=y0w y28 defs;unfold y0i at hm;omega
 have hdn:=y4b hat0
 have hlt0:i0<n:=by have:=(Qac.1 hat0).1;omega
 have hlt0I:(i0:Int)<(n:Int):=by omega
 have hneg: ¬((i0:Int)<0):=by omega
 have HN:=hide hn;clear hn;obtain ⟨k1,hk1,k1z,k1s,k1b⟩:=info_parts x3t;obtain ⟨k6,hk6,k6z,k6s,k6b⟩:=info_parts z3o;have hsz:(Tryz.prog.info? 43).map (·.size)=some 17:=y60;obtain ⟨ad,xs,rfl,hxd,hxl,hatK⟩:=y4s (m:=17) (f:=defL) y1b hd hat0 (by omega)
 have hdm:defN d≤9000000:=by omega
 go_enter Tryz.func61,Tryz.ntmps61;have hK:=Sat.refl K
 go_upto_region 2 with (first
  |(go_at_call 106;refine (z9q defs n c (some ad) _ _ _ _ H HN.out hd (by omega)).mono ?_;clear H;rintro e w5 ⟨rfl,H⟩;rw [hi0];simp only [idxI])
  |((with_reducible refine isL ?_);first
   |(refine al z43 4 H ?_;clear H;intro w1 g4 H)))
 go_upto_region 12 with (fail)
 go_upto_region 13 with (first
  |(go_at_call 65;refine (y75 d xs.toArray H hdm hxd).mono ?_;clear H;rintro e w6 ⟨K6,V,rfl,hle,H,hV⟩;replace hd:=hd.sat hle;replace hK:=hle.trans hK;have ho:=x3x H;replace H:Hp _ _ _ (_::_::_::_::_::_::_::_::_::M):=H)
  |((with_reducible show wpList _ _ _ (_::_) _ _);refine y0c (by rfl) 43 (.tmp 61) (by rfl) (ad.add (i0*17)) (by simp [Act.eval,Act.put]) _ _ (At.sat hatK H.sat) Tryz.underlying43 rfl (by rw [hxl];exact hsz) ?_)
  |((with_reducible refine isL ?_);first
   |(refine al z43 11 H ?_;clear H;intro w5 g11 H)
   |(refine sA 11 0 H ?_;clear H;intro w7 H)))
 clear hatK hxd ho
 go_wp2_with fail
 go_loopw [66] (fun i wr=>∃(k:Nat) (K7:World) (s:DefD) (V:DV),k≤n∧i= .int .i64 k∧(defs.take k).foldl y13 d=s∧Sat K7 K∧V.ok K7 s∧RD K7 (.list n (y0r defs)) (.slice (some ad) n c)∧Hp w0 wr K7 (.box g11 (DV.cells s V) 43::(DV.rows s V++(.box g4 [.int .i64 0,.bool false,.bool false,.bool false,.string ⟨#[]⟩,.string ⟨#[]⟩,.slice none 0 0,.slice none 0 0,.slice none 0 0,.slice none 0 0,.slice none 0 0,.slice none 0 0,.slice none 0 0,.bool false,.slice none 0 0,.int .i64 0,.int .i64 0] 43::M)))) (fun i _=>n - (intOf i).toNat)
 case atStart=>exact ⟨0,K6,d,V,Qak _,rfl,rfl,hK,hV,hd,H⟩
 case round=>
  clear H hV hd hK;obtain ⟨k,K7,s,V,hk,rfl,hs,hK,hV,hd,H⟩:=hrel
  have hsN:defN s≤9000000:=by
   have h1:=z4e (defs.take k) d;have h2:=z7h (f:=defN) defs k;rw [hs] at h1;unfold y0i at h1 hm hdn;omega
  by_cases hlt:k<n
  ·have hkI:(k:Int)<(n:Int):=by omega
   obtain ⟨x,hx⟩: ∃x,defs[k]?=some x:=⟨_,Qad (by rw [HN.out];exact hlt)⟩;have HE:=hide (y4r hx y13 d);rw [hs] at HE;clear hs;obtain ⟨ad',xs,had,hxd,hxl,hatK⟩:=y4s (m:=17) (f:=defL) y1b hd hx (by omega);injection had with had;subst had;have hxN:=y4b hx;clear hx
   have hxm:defN x≤9000000:=by omega
   have hxdK:=hxd;obtain ⟨A6,c6,A7,c7,A8,c8,A9,c9,A10,c10,A11,c11,A12,c12,A14,c14,hxs,-,-,-,-,-,-,-,-⟩:=y0h hxdK;clear hxdK;obtain ⟨kd,hkd⟩: ∃kd,x.kind=kd:=⟨_,rfl⟩;obtain ⟨ex,hex⟩: ∃ex,x.ext=ex:=⟨_,rfl⟩;rw [hkd,hex] at hxs;have HS:=hide (show y13 s x=if kd=1∧ex=true then {s with dirs:=s.dirs++x.dirs,roots:=s.roots++x.roots} else s by rw [←hkd,←hex];rfl);have HKD:=hide hkd;have HEX:=hide hex;clear hkd hex;subst hxs;obtain ⟨V8,V11,V6,V10,V14,V12,V9,V7,x8,x11,x6,x10,x14,x12,x9,x7⟩:=V;replace H:Hp _ _ _ (.box _ [_,_,_,_,_,_,_,_,_,_,_,_,_,_,_,_,_] _::_::_::_::_::_::_::_::_:: .box _ [_,_,_,_,_,_,_,_,_,_,_,_,_,_,_,_,_] _::M):=H
   try dsimp only at H
   by_cases h1:kd=1
   ·subst h1
    cases ex with
    |true=>
     have HS2:=hide (HS.out.trans (if_pos ⟨rfl,rfl⟩));clear HS
     go_upto_region 17 with (first
      |((with_reducible show wpList _ _ _ (_::_) _ _);refine y0c (by rfl) 43 (.tmp 68) (by rfl) (ad.add (k*17)) (by simp [Act.eval,Act.put]) _ _ (At.sat hatK H.sat) Tryz.underlying43 rfl hsz ?_)
      |((with_reducible refine isL ?_);first
       |(refine al z43 13 H ?_;clear H;intro w8 g13 H;have:=H.c 0 0;have:=H.c 0 1)
       |(refine sA 13 0 H ?_;clear H;intro w10 H;have:=H.c 0 0;have:=H.c 0 1)))
     go_upto_region 18 with (first
      |(go_at_call 65;refine (y6f x _ H hxm hxd).mono ?_;clear H;rintro e w8 ⟨K8,cs8,rfl,hle,H,hd8⟩;replace hd:=hd.sat hle;replace hV:=hV.sat hle;replace hxd:=hxd.sat hle;replace hK:=hle.trans hK;obtain ⟨D6,f6,D7,f7,D8,f8,D9,f9,D10,f10,D11,f11,D12,f12,D14,f14,hcs5,e6,e7,e8,e9,e10,e11,e12,e14⟩:=y0h hd8;obtain rfl:cs8= #[.int .i64 x.kind,.bool x.ext,.bool x.note.has,.bool x.note.block,.string (str x.note.text),.string (str x.name),.slice D6 x.ifaces.length f6,.slice D7 x.dirs.length f7,.slice D8 x.fields.length f8,.slice D9 x.inputs.length f9,.slice D10 x.members.length f10,.slice D11 x.values.length f11,.slice D12 x.roots.length f12,.bool x.rep,.slice D14 x.places.length f14,.int .i64 x.line,.int .i64 x.col]:=Qal.1 hcs5;clear hcs5 hd8)
      |((with_reducible refine isL ?_);first
       |(refine ld 13 0 17 Tryz.underlying43 H ?_)
       |(refine al z43 14 H ?_;clear H;intro w12 g14 H)
       |(refine sA 14 0 H ?_;clear H;intro w14 H)))
     clear hatK;have hl7:=y0w y63 s.dirs;have hx7:=y0w y63 x.dirs
     have hb7:s.dirs.length+x.dirs.length≤20000000:=by unfold defN at hsN hxm;omega
     have hb12:s.roots.length+x.roots.length≤20000000:=by unfold defN at hsN hxm;omega
     clear hl7 hx7;have:=H.c 2 7;have:=H.c 0 7
     go_upto_region 19 with (first
      |(at_builtin;refine ap 10 e35 e7 (z3s x.dirs) H ?_;clear H;intro us15 U7A U7c u7 hus15 lus15 _ _ H;dsimp only [List.set] at H;have:=H.c 2 7;have:=H.c 0 7)
      |((with_reducible refine isL ?_);first
       |(refine s1 84 2 (.slice U7A (s.dirs.length+x.dirs.length) U7c) H ?_;clear H;intro w16 H;have:=H.c 2 7;have:=H.c 0 7)))
     have:=H.c 2 12;have:=H.c 0 12
     go_upto_region 20 with (first
      |(at_builtin;refine ap 8 e39 e12 (y6c x.roots) H ?_;clear H;intro us17 U12A U12c u12 hus17 lus17 _ _ H;dsimp only [List.set] at H;have:=H.c 2 12;have:=H.c 0 12)
      |((with_reducible refine isL ?_);first
       |(refine s1 90 2 (.slice U12A (s.roots.length+x.roots.length) U12c) H ?_;clear H;intro w18 H;have:=H.c 2 12;have:=H.c 0 12)))
     replace H:=H.sub (Qai _ (Qai _ (Qaa _ (Qaa _ (Qaa _ (Qaa _ (Qaa _ (Qaa _ (Qaa _ (Qaa _ (Qaa _ (Qaa _ (Qam _)))))))))))))
     go_wp2_with fail
     go_roundw
     case rel=>
      simp only [←Qae] at H;refine ⟨k+1,K8,{s with dirs:=s.dirs++x.dirs,roots:=s.roots++x.roots},⟨_,_,_,_,_,_,_,_,_,_,_,_,_,_,_,_⟩,by omega,by go_num,by rw [HE.out,HS2.out],hK,?_,hd,H⟩;exact ⟨hV.r8,hV.r11,hV.r6,hV.r10,hV.r14,by dsimp only;rw [y49];exact hV.r12.app (by assumption),hV.r9,by dsimp only;rw [y70];exact hV.r7.app (by assumption)⟩
     case measure=>simp [intOf];omega
    |false=>
     have HS2:=hide (HS.out.trans (if_neg (by simp)));clear HS
     go_upto_region 17 with (first
      |((with_reducible show wpList _ _ _ (_::_) _ _);refine y0c (by rfl) 43 (.tmp 68) (by rfl) (ad.add (k*17)) (by simp [Act.eval,Act.put]) _ _ (At.sat hatK H.sat) Tryz.underlying43 rfl hsz ?_)
      |((with_reducible refine isL ?_);first
       |(refine al z43 13 H ?_;clear H;intro w19 g13 H;have:=H.c 0 0;have:=H.c 0 1)
       |(refine sA 13 0 H ?_;clear H;intro w21 H;have:=H.c 0 0;have:=H.c 0 1)))
     replace H:=H.sub (Qai _ (Qaa _ (Qaa _ (Qaa _ (Qaa _ (Qaa _ (Qaa _ (Qaa _ (Qaa _ (Qaa _ (Qaa _ (Qam _))))))))))))
     go_wp2_with fail
     go_roundw
     case rel=>exact ⟨k+1,K7,s,⟨V8,V11,V6,V10,V14,V12,V9,V7,x8,x11,x6,x10,x14,x12,x9,x7⟩,by omega,by go_num,by rw [HE.out,HS2.out],hK,hV,hd,H⟩
     case measure=>simp [intOf];omega
   ·have HS2:=hide (HS.out.trans (if_neg (fun h=>h1 h.1)));clear HS
    go_upto_region 17 with (first
     |((with_reducible show wpList _ _ _ (_::_) _ _);refine y0c (by rfl) 43 (.tmp 68) (by rfl) (ad.add (k*17)) (by simp [Act.eval,Act.put]) _ _ (At.sat hatK H.sat) Tryz.underlying43 rfl hsz ?_)
     |((with_reducible refine isL ?_);first
      |(refine al z43 13 H ?_;clear H;intro w22 g13 H;have:=H.c 0 0;have:=H.c 0 1)
      |(refine sA 13 0 H ?_;clear H;intro w24 H;have:=H.c 0 0;have:=H.c 0 1)))
    replace H:=H.sub (Qai _ (Qaa _ (Qaa _ (Qaa _ (Qaa _ (Qaa _ (Qaa _ (Qaa _ (Qaa _ (Qaa _ (Qaa _ (Qam _))))))))))))
    go_wp2_with fail
    go_roundw
    case rel=>exact ⟨k+1,K7,s,⟨V8,V11,V6,V10,V14,V12,V9,V7,x8,x11,x6,x10,x14,x12,x9,x7⟩,by omega,by go_num,by rw [HE.out,HS2.out],hK,hV,hd,H⟩
    case measure=>simp [intOf];omega
  ·obtain rfl:n=k:=by omega
   have htk:defs.take n=defs:=by rw [←HN.out];exact List.take_length
   rw [htk] at hs;clear htk;have HS:=hide hs;clear hs;have ho:=x3x H.tail;obtain ⟨V8,V11,V6,V10,V14,V12,V9,V7,x8,x11,x6,x10,x14,x12,x9,x7⟩:=V;replace H:Hp _ _ _ (.box _ [_,_,_,_,_,_,_,_,_,_,_,_,_,_,_,_,_] _::_::_::_::_::_::_::_::_:: .box _ [_,_,_,_,_,_,_,_,_,_,_,_,_,_,_,_,_] _::M):=H
   try dsimp only at H
   go_upto_region 21 with (fail)
   go_wp2_with (first
    |((with_reducible refine isL ?_);first
     |(refine ld 11 0 17 Tryz.underlying43 H ?_)
     |(refine sA 4 9 H ?_;clear H;intro w25 H)))
   refine bodyPost_ret (v:=.agg #[.int .i64 s.kind,.bool s.ext,.bool s.note.has,.bool s.note.block,.string (str s.note.text),.string (str s.name),V6,V7,V8,V9,V10,V11,V12,.bool s.rep,V14,.int .i64 s.line,.int .i64 s.col]) (results_cell_row rfl _ _ g4 43 _ (0,0) _ (by rfl) (H.blkAt (i:=9) rfl) Tryz.underlying43 rfl (by kernel_rfl)) rfl ?_;replace H:=H.sub (Qai _ (Qaa _ (Qaa _ (Qaa _ (Qaa _ (Qaa _ (Qaa _ (Qaa _ (Qaa _ (Qai _ (Qam _)))))))))));obtain ⟨K',hle,H,hv⟩:=Hp.freezeDef H hV;exact ⟨K',_,rfl,hle.trans hK,H,by rw [HS.out];exact hv⟩
end Go.Proofs.YtbpgkkoeehopjaaGreat.hp
