/- Part 12 of 17 of a proof: see the last part. -/
import Derived.Test.YtbpgkkoeehopjaaGreatP7
import Derived.Test.YtbpgkkoeehopjaaGreatP11
import Derived.Laws.StructEq
import Derived.WalkSpells
set_option linter.unusedVariables false
set_option linter.unusedSimpArgs false
namespace Go.Proofs.YtbpgkkoeehopjaaGreat.hp
open Go.RowKit words enc tree gram lex rd dec dat held
set_option maxRecDepth 100000
attribute [local go_sem ↓] Go.wp_at_zero Go.wp_at_succ
def ifT:Txt:=[105,102]
def y61:Txt:=[83,116,114,105,110,103]
def z0o:InputD:=⟨y2v,ifT,(y8m,[33]),false,litZ,[],0,0⟩
def whyT:Txt:=[78,111,32,108,111,110,103,101,114,32,115,117,112,112,111,114,116,101,100]
def y72:InputD:=⟨y2v,[114,101,97,115,111,110],(y61,[]),true,.mk 4 whyT false [] [] 0 0,[],0,0⟩
def urlD:InputD:=⟨y2v,[117,114,108],(y61,[33]),false,litZ,[],0,0⟩
def dirD (s:Txt) (arg:InputD) (l:List Txt):DefD:=⟨8,false,y2v,s,[],[],[],[arg],[],[],[],false,l.map plD,0,0⟩
def pl3:List Txt:=[[70,73,69,76,68],[70,82,65,71,77,69,78,84,95,83,80,82,69,65,68],[73,78,76,73,78,69,95,70,82,65,71,77,69,78,84]]
def pl2:List Txt:=[[70,73,69,76,68,95,68,69,70,73,78,73,84,73,79,78],[69,78,85,77,95,86,65,76,85,69]]
def pl1:List Txt:=[[83,67,65,76,65,82]]
def givenDirsD:List DefD:=[dirD [115,107,105,112] z0o pl3,dirD [105,110,99,108,117,100,101] z0o pl3,dirD [100,101,112,114,101,99,97,116,101,100] y72 pl2,dirD [115,112,101,99,105,102,105,101,100,66,121] urlD pl1]
abbrev condV:List Value:=[.bool false,.bool false,.string ⟨#[]⟩,.string ⟨#[105,102]⟩,.string ⟨#[66,111,111,108,101,97,110]⟩,.string ⟨#[33]⟩,.bool false,.int .i64 0,.string ⟨#[]⟩,.bool false,.slice none 0 0,.slice none 0 0,.int .i64 0,.int .i64 0,.slice none 0 0,.int .i64 0,.int .i64 0]
abbrev urlV:List Value:=[.bool false,.bool false,.string ⟨#[]⟩,.string ⟨#[117,114,108]⟩,.string ⟨#[83,116,114,105,110,103]⟩,.string ⟨#[33]⟩,.bool false,.int .i64 0,.string ⟨#[]⟩,.bool false,.slice none 0 0,.slice none 0 0,.int .i64 0,.int .i64 0,.slice none 0 0,.int .i64 0,.int .i64 0]
abbrev reasonV:List Value:=[.bool false,.bool false,.string ⟨#[]⟩,.string ⟨#[114,101,97,115,111,110]⟩,.string ⟨#[83,116,114,105,110,103]⟩,.string ⟨#[]⟩,.bool true,.int .i64 4,.string ⟨#[78,111,32,108,111,110,103,101,114,32,115,117,112,112,111,114,116,101,100]⟩,.bool false,.slice none 0 0,.slice none 0 0,.int .i64 0,.int .i64 0,.slice none 0 0,.int .i64 0,.int .i64 0]
theorem y8n {K:World}:RL K (y31 z0o) condV:=by unfold z0o;exact .lit (.lit (.lit (.lit (.lit (.lit (.lit (.lit (.lit (.lit (.cons RD.z (.cons RD.z (.lit (.lit (.cons RD.z (.lit (.lit RL.z))))))))))))))))
theorem x1t {K:World}:RL K (y31 urlD) urlV:=by unfold urlD;exact .lit (.lit (.lit (.lit (.lit (.lit (.lit (.lit (.lit (.lit (.cons RD.z (.cons RD.z (.lit (.lit (.cons RD.z (.lit (.lit RL.z))))))))))))))))
theorem z1i {K:World}:RL K (y31 y72) reasonV:=by unfold y72;exact .lit (.lit (.lit (.lit (.lit (.lit (.lit (.lit (.lit (.lit (.cons RD.z (.cons RD.z (.lit (.lit (.cons RD.z (.lit (.lit RL.z))))))))))))))))
def DirR (s:ByteArray) (arg:InputD) (n:Nat) (l:List Txt) (K:World) (v:Value):Prop:=
 ∃g A c,v= .agg #[.int .i64 8,.bool false,.bool false,.bool false,.string ⟨#[]⟩,.string s,.slice none 0 0,.slice none 0 0,.slice none 0 0,.slice (some ⟨g,0,none⟩) 1 1,.slice none 0 0,.slice none 0 0,.slice none 0 0,.bool false,.slice A n c,.int .i64 0,.int .i64 0]∧RD K (.list n (y0t (l.map plD))) (.slice A n c)∧RD K (.list 1 (y0k [arg])) (.slice (some ⟨g,0,none⟩) 1 1)
theorem DirR.sat {s:ByteArray} {arg:InputD} {n:Nat} {l:List Txt} {K K':World} {v:Value} (h:DirR s arg n l K v) (hs:Sat K' K):DirR s arg n l K' v:=by
 obtain ⟨g,A,c,h1,h2,h3⟩:=h;exact ⟨g,A,c,h1,h2.sat hs,h3.sat hs⟩
def SlR (n:Nat) (l:List Txt) (K:World) (v:Value):Prop:=∃g,v= .slice (some ⟨g,0,none⟩) n n∧RD K (.list n (y03 l)) v
theorem SlR.sat {n:Nat} {l:List Txt} {K K':World} {v:Value} (h:SlR n l K v) (hs:Sat K' K):SlR n l K' v:=h.imp fun _ h=>⟨h.1,h.2.sat hs⟩
def EndR (K:World) (v:Value):Prop:=∃g,v= .slice (some ⟨g,0,none⟩) 4 4∧RD K (.list 4 (y0q givenDirsD)) v
theorem EndR.sat {K K':World} {v:Value} (h:EndR K v) (hs:Sat K' K):EndR K' v:=h.imp fun _ h=>⟨h.1,h.2.sat hs⟩
def BdR (t:Nat) (K:World) (v:Value):Prop:=
 match t with
 |10=>v= .agg condV.toArray
 |13=>v= .agg condV.toArray
 |16=>v= .agg reasonV.toArray
 |20=>v= .agg urlV.toArray
 |19=>v= .agg #[.string ⟨#[83,116,114,105,110,103]⟩,.string ⟨#[33]⟩]
 |11=>SlR 3 pl3 K v
 |14=>SlR 3 pl3 K v
 |17=>SlR 2 pl2 K v
 |21=>SlR 1 pl1 K v
 |12=>DirR ⟨#[115,107,105,112]⟩ z0o 3 pl3 K v
 |15=>DirR ⟨#[105,110,99,108,117,100,101]⟩ z0o 3 pl3 K v
 |18=>DirR ⟨#[100,101,112,114,101,99,97,116,101,100]⟩ y72 2 pl2 K v
 |22=>DirR ⟨#[115,112,101,99,105,102,105,101,100,66,121]⟩ urlD 1 pl1 K v
 |23=>EndR K v
 |0=>EndR K v
 |_=>True
theorem BdR.sat (t:Nat) (K K':World) (v:Value) (hs:Sat K' K) (h:BdR t K v):BdR t K' v:=by
 unfold BdR at h ⊢;split
 all_goals first|exact h|exact SlR.sat h hs|exact DirR.sat h hs|exact EndR.sat h hs|trivial
theorem x3p {K:World} {s:Txt} {arg:InputD} {l:List Txt} {n:Nat} {v v':Value} {r:List DefD} {ys:List Value} (hn:RD K (.list n (y0t (l.map plD))) v) (hi:RD K (.list 1 (y0k [arg])) v') (h:RL K (y0q r) ys) (hl:l.length=n:=by rfl):
  RL K (y0q (dirD s arg l::r)) (.int .i64 8:: .bool false:: .bool false:: .bool false:: .string ⟨#[]⟩:: .string (str s):: .slice none 0 0:: .slice none 0 0:: .slice none 0 0::v':: .slice none 0 0:: .slice none 0 0:: .slice none 0 0:: .bool false::v:: .int .i64 0:: .int .i64 0::ys):=by
 subst hl;exact DatL.app (y01 RD.z RD.z RD.z hi RD.z RD.z RD.z (by simpa using hn)) h
theorem x1u {K:World} {a b c d a' b' c' d':Value} (na:RD K (.list 3 (y0t (pl3.map plD))) a) (ia:RD K (.list 1 (y0k [z0o])) a') (nb:RD K (.list 3 (y0t (pl3.map plD))) b) (ib:RD K (.list 1 (y0k [z0o])) b') (nc:RD K (.list 2 (y0t (pl2.map plD))) c) (ic:RD K (.list 1 (y0k [y72])) c') (nd:RD K (.list 1 (y0t (pl1.map plD))) d) (id:RD K (.list 1 (y0k [urlD])) d'):
  RL K (y0q givenDirsD) [.int .i64 8,.bool false,.bool false,.bool false,.string ⟨#[]⟩,.string ⟨#[115,107,105,112]⟩,.slice none 0 0,.slice none 0 0,.slice none 0 0,a',.slice none 0 0,.slice none 0 0,.slice none 0 0,.bool false,a,.int .i64 0,.int .i64 0,.int .i64 8,.bool false,.bool false,.bool false,.string ⟨#[]⟩,.string ⟨#[105,110,99,108,117,100,101]⟩,.slice none 0 0,.slice none 0 0,.slice none 0 0,b',.slice none 0 0,.slice none 0 0,.slice none 0 0,.bool false,b,.int .i64 0,.int .i64 0,.int .i64 8,.bool false,.bool false,.bool false,.string ⟨#[]⟩,.string ⟨#[100,101,112,114,101,99,97,116,101,100]⟩,.slice none 0 0,.slice none 0 0,.slice none 0 0,c',.slice none 0 0,.slice none 0 0,.slice none 0 0,.bool false,c,.int .i64 0,.int .i64 0,.int .i64 8,.bool false,.bool false,.bool false,.string ⟨#[]⟩,.string ⟨#[115,112,101,99,105,102,105,101,100,66,121]⟩,.slice none 0 0,.slice none 0 0,.slice none 0 0,d',.slice none 0 0,.slice none 0 0,.slice none 0 0,.bool false,d,.int .i64 0,.int .i64 0]:=x3p na ia (x3p nb ib (x3p nc ic (x3p nd id q76)))
def BdP (w0 K:World) (M:List Ent) (e:Ending) (w':World):Prop:=
 ∃K' A c,e= .returned (.slice A 4 c)∧Sat K' K∧Hp w0 w' K' M∧RD K' (.list 4 (y0q givenDirsD)) (.slice A 4 c)
set_option maxHeartbeats 16000000 in
theorem z9b (w0 w K:World) (M:List Ent) (H:Hp w0 w K M):
  Calls Tryz.prog 57 #[] w (BdP w0 K M):=by
 go_enter Tryz.func57,Tryz.ntmps57
 go_upto_region 3 with (first
  |(go_at_call 104;refine (y69 _ _ _ _ _ _ H).mono ?_;clear H;rintro e x1 ⟨rfl,H⟩)
  |((with_reducible refine isL ?_);first
   |(refine al z123 1 H ?_;clear H;intro w2 g1 H)
   |(refine sA 1 0 H ?_;clear H;intro w4 H)
   |(refine al z121 2 H ?_;clear H;intro w5 g2 H)
   |(refine sA 2 0 H ?_;clear H;intro w7 H)))
 refine held.begin_ (fun w'=>w'.cell? ⟨g2,0,none⟩=some (.int .i64 4)∧w'.cell? ⟨g2,1,none⟩=some (.string ⟨#[78,111,32,108,111,110,103,101,114,32,115,117,112,112,111,114,116,101,100]⟩)∧w'.cell? ⟨g2,2,none⟩=some (.bool false)∧w'.cell? ⟨g2,3,none⟩=some (.slice none 0 0)∧w'.cell? ⟨g2,4,none⟩=some (.slice none 0 0)∧w'.cell? ⟨g2,5,none⟩=some (.int .i64 0)∧w'.cell? ⟨g2,6,none⟩=some (.int .i64 0)) [4] (by kernel_rfl) ?_;replace H:=H.drew1;obtain ⟨w8,hq9⟩: ∃x,(w7).drew=x:=⟨_,rfl⟩;rw [hq9] at H ⊢;clear hq9;have hS10:w8.cell? ⟨g2,0,none⟩=some (.int .i64 4)∧w8.cell? ⟨g2,1,none⟩=some (.string ⟨#[78,111,32,108,111,110,103,101,114,32,115,117,112,112,111,114,116,101,100]⟩)∧w8.cell? ⟨g2,2,none⟩=some (.bool false)∧w8.cell? ⟨g2,3,none⟩=some (.slice none 0 0)∧w8.cell? ⟨g2,4,none⟩=some (.slice none 0 0)∧w8.cell? ⟨g2,5,none⟩=some (.int .i64 0)∧w8.cell? ⟨g2,6,none⟩=some (.int .i64 0):=⟨H.cell (i:=0) rfl rfl,H.cell (i:=0) rfl rfl,H.cell (i:=0) rfl rfl,H.cell (i:=0) rfl rfl,H.cell (i:=0) rfl rfl,H.cell (i:=0) rfl rfl,H.cell (i:=0) rfl rfl⟩;refine tk 1 hS10 ?_;refine step2 (i:=0) (j:=3) (by kernel_rfl) rfl rfl (fun Kq hKq=>?_) (fun Kq hKq=>?_)
 ·skip
  go_simp
  refine (y69 _ _ _ _ _ _ H).mono ?_;clear H;rintro e x2 ⟨rfl,H⟩;replace H:Hp _ _ _ (_::_::M):=H
  try go_simp
  have hS11:x2.cell? ⟨g2,0,none⟩=some (.int .i64 4)∧x2.cell? ⟨g2,1,none⟩=some (.string ⟨#[78,111,32,108,111,110,103,101,114,32,115,117,112,112,111,114,116,101,100]⟩)∧x2.cell? ⟨g2,2,none⟩=some (.bool false)∧x2.cell? ⟨g2,3,none⟩=some (.slice none 0 0)∧x2.cell? ⟨g2,4,none⟩=some (.slice none 0 0)∧x2.cell? ⟨g2,5,none⟩=some (.int .i64 0)∧x2.cell? ⟨g2,6,none⟩=some (.int .i64 0):=⟨H.cell (i:=0) rfl rfl,H.cell (i:=0) rfl rfl,H.cell (i:=0) rfl rfl,H.cell (i:=0) rfl rfl,H.cell (i:=0) rfl rfl,H.cell (i:=0) rfl rfl,H.cell (i:=0) rfl rfl⟩;refine hKq.out _ _ (fun _=>hS11) (fun _=>?_);clear hKq Kq;refine tk 2 hS11 ?_;refine held.step (i:=3) (by kernel_rfl) rfl (fun Kq hKq=>?_)
  go_simp
  replace H:=H.alloc [.bool false,.bool false,.string ⟨#[]⟩,.string ⟨#[]⟩,.string ⟨#[]⟩,.string ⟨#[]⟩,.bool false,.int .i64 0,.string ⟨#[]⟩,.bool false,.slice none 0 0,.slice none 0 0,.int .i64 0,.int .i64 0,.slice none 0 0,.int .i64 0,.int .i64 0] 123;obtain ⟨w13,hq14⟩: ∃x,(x2).alloc (.cells #[.bool false,.bool false,.string ⟨#[]⟩,.string ⟨#[]⟩,.string ⟨#[]⟩,.string ⟨#[]⟩,.bool false,.int .i64 0,.string ⟨#[]⟩,.bool false,.slice none 0 0,.slice none 0 0,.int .i64 0,.int .i64 0,.slice none 0 0,.int .i64 0,.int .i64 0] 123)=x:=⟨_,rfl⟩;obtain ⟨g3,hg12⟩: ∃x,(x2).heap.size=x:=⟨_,rfl⟩;rw [hg12] at H ⊢;rw [hq14] at H ⊢;clear hg12 hq14;have hS15:w13.cell? ⟨g2,0,none⟩=some (.int .i64 4)∧w13.cell? ⟨g2,1,none⟩=some (.string ⟨#[78,111,32,108,111,110,103,101,114,32,115,117,112,112,111,114,116,101,100]⟩)∧w13.cell? ⟨g2,2,none⟩=some (.bool false)∧w13.cell? ⟨g2,3,none⟩=some (.slice none 0 0)∧w13.cell? ⟨g2,4,none⟩=some (.slice none 0 0)∧w13.cell? ⟨g2,5,none⟩=some (.int .i64 0)∧w13.cell? ⟨g2,6,none⟩=some (.int .i64 0):=⟨H.cell (i:=1) rfl rfl,H.cell (i:=1) rfl rfl,H.cell (i:=1) rfl rfl,H.cell (i:=1) rfl rfl,H.cell (i:=1) rfl rfl,H.cell (i:=1) rfl rfl,H.cell (i:=1) rfl rfl⟩;refine hKq.out _ _ (fun _=>hS15) (fun _=>?_);clear hKq Kq;refine held.step (i:=4) (by kernel_rfl) rfl (fun Kq hKq=>?_);refine y3u (by rfl) 123 (.tmp 3) (.tmp 9) (by rfl) g3 0 (by first|rfl|simp [Act.eval,Act.put]) (.agg #[.bool false,.bool false,.string ⟨#[]⟩,.string ⟨#[114,101,97,115,111,110]⟩,.string ⟨#[83,116,114,105,110,103]⟩,.string ⟨#[]⟩,.bool true,.int .i64 4,.string ⟨#[78,111,32,108,111,110,103,101,114,32,115,117,112,112,111,114,116,101,100]⟩,.bool false,.slice none 0 0,.slice none 0 0,.int .i64 0,.int .i64 0,.slice none 0 0,.int .i64 0,.int .i64 0]) (by first|rfl|simp [Act.eval,Act.put]) [.bool false,.bool false,.string ⟨#[]⟩,.string ⟨#[114,101,97,115,111,110]⟩,.string ⟨#[83,116,114,105,110,103]⟩,.string ⟨#[]⟩,.bool true,.int .i64 4,.string ⟨#[78,111,32,108,111,110,103,101,114,32,115,117,112,112,111,114,116,101,100]⟩,.bool false,.slice none 0 0,.slice none 0 0,.int .i64 0,.int .i64 0,.slice none 0 0,.int .i64 0,.int .i64 0] (by rfl) (by simp [Value.oneCell']) (by kernel_rfl) H 0 [.bool false,.bool false,.string ⟨#[]⟩,.string ⟨#[]⟩,.string ⟨#[]⟩,.string ⟨#[]⟩,.bool false,.int .i64 0,.string ⟨#[]⟩,.bool false,.slice none 0 0,.slice none 0 0,.int .i64 0,.int .i64 0,.slice none 0 0,.int .i64 0,.int .i64 0] [.bool false,.bool false,.string ⟨#[]⟩,.string ⟨#[114,101,97,115,111,110]⟩,.string ⟨#[83,116,114,105,110,103]⟩,.string ⟨#[]⟩,.bool true,.int .i64 4,.string ⟨#[78,111,32,108,111,110,103,101,114,32,115,117,112,112,111,114,116,101,100]⟩,.bool false,.slice none 0 0,.slice none 0 0,.int .i64 0,.int .i64 0,.slice none 0 0,.int .i64 0,.int .i64 0] 123 (by rfl) (Qbn (by rfl)) (by rfl) ?_;clear H;intro w16 H;refine hKq.out _ _ (fun h=>absurd (Qax.2 rfl) h) (fun _=>?_);clear hKq Kq;refine held.done (by kernel_rfl) ?_ _;simp only [Act.put,List.getElem_toArray,List.getElem_cons_zero,List.getElem_cons_succ,List.setIfInBounds_toArray,List.set_cons_zero,List.set_cons_succ];replace H:Hp _ _ _ (_::_::_::M):=H
  go_upto_region 4 with (fail)
  replace H:=H.sub (Qaa _ (Qai _ (Qaa _ (Qam _))));refine x92 (R:=BdR) (by kernel_rfl) (by kernel_rfl) (by kernel_rfl) (by kernel_rfl) BdR.sat ?_ H ?_
  ·simp only [Qbd,List.not_mem_nil,or_false,forall_eq_or_imp,forall_eq];refine ⟨?_,?_,?_,?_,?_,?_,?_,?_,?_,?_,?_,?_,?_,?_,?_⟩
   ·intro a w K hK H hdep hold Kc hKc;have e1:a.tmps.getD 1 undef= .pointer (some ⟨g1,0,none⟩):=hold 1 (by kernel_rfl);refine y3j (by rfl) 123 (.tmp 1) (by rfl) g1 0 e1 condV _ Tryz.underlying123 rfl (by kernel_rfl) H 1 condV 123 (by rfl) (by rfl) ?_;exact hKc _ _ _ (Sat.refl _) H (fun t ht=>by injection ht with ht;subst ht;exact rfl)
   ·intro a w K hK H hdep hold Kc hKc;refine y1n (by rfl) 27 9 3 _ (by rfl) Tryz.underlying27 [(0,.string ⟨#[70,73,69,76,68]⟩),(1,.string ⟨#[70,82,65,71,77,69,78,84,95,83,80,82,69,65,68]⟩),(2,.string ⟨#[73,78,76,73,78,69,95,70,82,65,71,77,69,78,84]⟩)] (by kernel_rfl) [.string ⟨#[70,73,69,76,68]⟩,.string ⟨#[70,82,65,71,77,69,78,84,95,83,80,82,69,65,68]⟩,.string ⟨#[73,78,76,73,78,69,95,70,82,65,71,77,69,78,84]⟩] (by kernel_rfl) H ?_;intro w1 g H;obtain ⟨K1,hle,H,hb⟩:=H.freezeBox (n:=3) (ls:=y03 pl3) (rt_s (rt_s (rt_s (RL.z)))) (by simp [maxLen]);exact hKc _ _ _ hle H (fun t ht=>by injection ht with ht;subst ht;exact ⟨_,rfl,hb⟩)
   ·intro a w K hK H hdep hold Kc hKc;obtain ⟨g,ev,hs⟩:=hdep 1 11 (by kernel_rfl) (by rfl);have ea:a.tmps.getD 10 undef= .agg condV.toArray:=hdep 0 10 (by kernel_rfl) (by rfl);rw [ev] at hs;have hc:=y2e ⟨#[115,107,105,112]⟩ z0o _ _ _ _ _ _ _ _ _ _ _ _ _ _ _ _ _ pl3 3 3 (some ⟨g,0,none⟩) _ _ _ _ H rfl (by omega) hs y8n
    go_simp
    refine hc.mono ?_;rintro e w1 ⟨K1,gi,A,c,rfl,hle,H,hn,hi⟩;exact hKc _ _ _ hle H (fun t ht=>by injection ht with ht;subst ht;exact ⟨_,_,_,rfl,hn,hi⟩)
   ·intro a w K hK H hdep hold Kc hKc;have e1:a.tmps.getD 1 undef= .pointer (some ⟨g1,0,none⟩):=hold 1 (by kernel_rfl);refine y3j (by rfl) 123 (.tmp 1) (by rfl) g1 0 e1 condV _ Tryz.underlying123 rfl (by kernel_rfl) H 1 condV 123 (by rfl) (by rfl) ?_;exact hKc _ _ _ (Sat.refl _) H (fun t ht=>by injection ht with ht;subst ht;exact rfl)
   ·intro a w K hK H hdep hold Kc hKc;refine y1n (by rfl) 27 9 3 _ (by rfl) Tryz.underlying27 [(0,.string ⟨#[70,73,69,76,68]⟩),(1,.string ⟨#[70,82,65,71,77,69,78,84,95,83,80,82,69,65,68]⟩),(2,.string ⟨#[73,78,76,73,78,69,95,70,82,65,71,77,69,78,84]⟩)] (by kernel_rfl) [.string ⟨#[70,73,69,76,68]⟩,.string ⟨#[70,82,65,71,77,69,78,84,95,83,80,82,69,65,68]⟩,.string ⟨#[73,78,76,73,78,69,95,70,82,65,71,77,69,78,84]⟩] (by kernel_rfl) H ?_;intro w1 g H;obtain ⟨K1,hle,H,hb⟩:=H.freezeBox (n:=3) (ls:=y03 pl3) (rt_s (rt_s (rt_s (RL.z)))) (by simp [maxLen]);exact hKc _ _ _ hle H (fun t ht=>by injection ht with ht;subst ht;exact ⟨_,rfl,hb⟩)
   ·intro a w K hK H hdep hold Kc hKc;obtain ⟨g,ev,hs⟩:=hdep 4 14 (by kernel_rfl) (by rfl);have ea:a.tmps.getD 13 undef= .agg condV.toArray:=hdep 3 13 (by kernel_rfl) (by rfl);rw [ev] at hs;have hc:=y2e ⟨#[105,110,99,108,117,100,101]⟩ z0o _ _ _ _ _ _ _ _ _ _ _ _ _ _ _ _ _ pl3 3 3 (some ⟨g,0,none⟩) _ _ _ _ H rfl (by omega) hs y8n
    go_simp
    refine hc.mono ?_;rintro e w1 ⟨K1,gi,A,c,rfl,hle,H,hn,hi⟩;exact hKc _ _ _ hle H (fun t ht=>by injection ht with ht;subst ht;exact ⟨_,_,_,rfl,hn,hi⟩)
   ·intro a w K hK H hdep hold Kc hKc;have e1:a.tmps.getD 3 undef= .pointer (some ⟨g3,0,none⟩):=hold 3 (by kernel_rfl);refine y3j (by rfl) 123 (.tmp 3) (by rfl) g3 0 e1 reasonV _ Tryz.underlying123 rfl (by kernel_rfl) H 0 reasonV 123 (by rfl) (by rfl) ?_;exact hKc _ _ _ (Sat.refl _) H (fun t ht=>by injection ht with ht;subst ht;exact rfl)
   ·intro a w K hK H hdep hold Kc hKc;refine y1n (by rfl) 27 9 2 _ (by rfl) Tryz.underlying27 [(0,.string ⟨#[70,73,69,76,68,95,68,69,70,73,78,73,84,73,79,78]⟩),(1,.string ⟨#[69,78,85,77,95,86,65,76,85,69]⟩)] (by kernel_rfl) [.string ⟨#[70,73,69,76,68,95,68,69,70,73,78,73,84,73,79,78]⟩,.string ⟨#[69,78,85,77,95,86,65,76,85,69]⟩] (by kernel_rfl) H ?_;intro w1 g H;obtain ⟨K1,hle,H,hb⟩:=H.freezeBox (n:=2) (ls:=y03 pl2) (rt_s (rt_s (RL.z))) (by simp [maxLen]);exact hKc _ _ _ hle H (fun t ht=>by injection ht with ht;subst ht;exact ⟨_,rfl,hb⟩)
   ·intro a w K hK H hdep hold Kc hKc;obtain ⟨g,ev,hs⟩:=hdep 7 17 (by kernel_rfl) (by rfl);have ea:a.tmps.getD 16 undef= .agg reasonV.toArray:=hdep 6 16 (by kernel_rfl) (by rfl);rw [ev] at hs;have hc:=y2e ⟨#[100,101,112,114,101,99,97,116,101,100]⟩ y72 _ _ _ _ _ _ _ _ _ _ _ _ _ _ _ _ _ pl2 2 2 (some ⟨g,0,none⟩) _ _ _ _ H rfl (by omega) hs z1i
    go_simp
    refine hc.mono ?_;rintro e w1 ⟨K1,gi,A,c,rfl,hle,H,hn,hi⟩;exact hKc _ _ _ hle H (fun t ht=>by injection ht with ht;subst ht;exact ⟨_,_,_,rfl,hn,hi⟩)
   ·intro a w K hK H hdep hold Kc hKc;have hc:=y69 ⟨#[83,116,114,105,110,103]⟩ ⟨#[33]⟩ _ _ _ _ H
    go_simp
    refine hc.mono ?_;rintro e w1 ⟨rfl,H⟩;exact hKc _ _ _ (Sat.refl _) H (fun t ht=>by injection ht with ht;subst ht;exact rfl)
   ·intro a w K hK H hdep hold Kc hKc;have e19:a.tmps.getD 19 undef= .agg #[.string ⟨#[83,116,114,105,110,103]⟩,.string ⟨#[33]⟩]:=hdep 9 19 (by kernel_rfl) (by rfl)
    have e19':a.tmps[19]?.getD undef= .agg #[.string ⟨#[83,116,114,105,110,103]⟩,.string ⟨#[33]⟩]:=by simpa using e19
    go_simp
    exact hKc _ _ _ (Sat.refl _) H (fun t ht=>by injection ht with ht;subst ht;exact rfl)
   ·intro a w K hK H hdep hold Kc hKc;refine y1n (by rfl) 27 9 1 _ (by rfl) Tryz.underlying27 [(0,.string ⟨#[83,67,65,76,65,82]⟩)] (by kernel_rfl) [.string ⟨#[83,67,65,76,65,82]⟩] (by kernel_rfl) H ?_;intro w1 g H;obtain ⟨K1,hle,H,hb⟩:=H.freezeBox (n:=1) (ls:=y03 pl1) (rt_s (RL.z)) (by simp [maxLen]);exact hKc _ _ _ hle H (fun t ht=>by injection ht with ht;subst ht;exact ⟨_,rfl,hb⟩)
   ·intro a w K hK H hdep hold Kc hKc;obtain ⟨g,ev,hs⟩:=hdep 11 21 (by kernel_rfl) (by rfl);have ea:a.tmps.getD 20 undef= .agg urlV.toArray:=hdep 10 20 (by kernel_rfl) (by rfl);rw [ev] at hs;have hc:=y2e ⟨#[115,112,101,99,105,102,105,101,100,66,121]⟩ urlD _ _ _ _ _ _ _ _ _ _ _ _ _ _ _ _ _ pl1 1 1 (some ⟨g,0,none⟩) _ _ _ _ H rfl (by omega) hs x1t
    go_simp
    refine hc.mono ?_;rintro e w1 ⟨K1,gi,A,c,rfl,hle,H,hn,hi⟩;exact hKc _ _ _ hle H (fun t ht=>by injection ht with ht;subst ht;exact ⟨_,_,_,rfl,hn,hi⟩)
   ·intro a w K hK H hdep hold Kc hKc;obtain ⟨ga,Aa,ca,e12,na,ia⟩:=hdep 2 12 (by kernel_rfl) (by rfl);obtain ⟨gb,Ab,cb,e15,nb,ib⟩:=hdep 5 15 (by kernel_rfl) (by rfl);obtain ⟨gc,Ac,cc,e18,nc,ic⟩:=hdep 8 18 (by kernel_rfl) (by rfl);obtain ⟨gd,Ad,cd,e22,nd,id⟩:=hdep 12 22 (by kernel_rfl) (by rfl);refine y1n (by rfl) 22 43 4 _ (by rfl) Tryz.underlying22 [(0,.agg #[.int .i64 8,.bool false,.bool false,.bool false,.string ⟨#[]⟩,.string ⟨#[115,107,105,112]⟩,.slice none 0 0,.slice none 0 0,.slice none 0 0,.slice (some ⟨ga,0,none⟩) 1 1,.slice none 0 0,.slice none 0 0,.slice none 0 0,.bool false,.slice Aa 3 ca,.int .i64 0,.int .i64 0]),(1,.agg #[.int .i64 8,.bool false,.bool false,.bool false,.string ⟨#[]⟩,.string ⟨#[105,110,99,108,117,100,101]⟩,.slice none 0 0,.slice none 0 0,.slice none 0 0,.slice (some ⟨gb,0,none⟩) 1 1,.slice none 0 0,.slice none 0 0,.slice none 0 0,.bool false,.slice Ab 3 cb,.int .i64 0,.int .i64 0]),(2,.agg #[.int .i64 8,.bool false,.bool false,.bool false,.string ⟨#[]⟩,.string ⟨#[100,101,112,114,101,99,97,116,101,100]⟩,.slice none 0 0,.slice none 0 0,.slice none 0 0,.slice (some ⟨gc,0,none⟩) 1 1,.slice none 0 0,.slice none 0 0,.slice none 0 0,.bool false,.slice Ac 2 cc,.int .i64 0,.int .i64 0]),(3,.agg #[.int .i64 8,.bool false,.bool false,.bool false,.string ⟨#[]⟩,.string ⟨#[115,112,101,99,105,102,105,101,100,66,121]⟩,.slice none 0 0,.slice none 0 0,.slice none 0 0,.slice (some ⟨gd,0,none⟩) 1 1,.slice none 0 0,.slice none 0 0,.slice none 0 0,.bool false,.slice Ad 1 cd,.int .i64 0,.int .i64 0])] (Eq.trans (b:=[(0,a.tmps.getD 12 undef),(1,a.tmps.getD 15 undef),(2,a.tmps.getD 18 undef),(3,a.tmps.getD 22 undef)]) (by kernel_rfl) (by rw [e12,e15,e18,e22])) [.int .i64 8,.bool false,.bool false,.bool false,.string ⟨#[]⟩,.string ⟨#[115,107,105,112]⟩,.slice none 0 0,.slice none 0 0,.slice none 0 0,.slice (some ⟨ga,0,none⟩) 1 1,.slice none 0 0,.slice none 0 0,.slice none 0 0,.bool false,.slice Aa 3 ca,.int .i64 0,.int .i64 0,.int .i64 8,.bool false,.bool false,.bool false,.string ⟨#[]⟩,.string ⟨#[105,110,99,108,117,100,101]⟩,.slice none 0 0,.slice none 0 0,.slice none 0 0,.slice (some ⟨gb,0,none⟩) 1 1,.slice none 0 0,.slice none 0 0,.slice none 0 0,.bool false,.slice Ab 3 cb,.int .i64 0,.int .i64 0,.int .i64 8,.bool false,.bool false,.bool false,.string ⟨#[]⟩,.string ⟨#[100,101,112,114,101,99,97,116,101,100]⟩,.slice none 0 0,.slice none 0 0,.slice none 0 0,.slice (some ⟨gc,0,none⟩) 1 1,.slice none 0 0,.slice none 0 0,.slice none 0 0,.bool false,.slice Ac 2 cc,.int .i64 0,.int .i64 0,.int .i64 8,.bool false,.bool false,.bool false,.string ⟨#[]⟩,.string ⟨#[115,112,101,99,105,102,105,101,100,66,121]⟩,.slice none 0 0,.slice none 0 0,.slice none 0 0,.slice (some ⟨gd,0,none⟩) 1 1,.slice none 0 0,.slice none 0 0,.slice none 0 0,.bool false,.slice Ad 1 cd,.int .i64 0,.int .i64 0] (by kernel_rfl) H ?_;intro w1 g H;obtain ⟨K1,hle,H,hb⟩:=H.freezeBox (n:=4) (ls:=y0q givenDirsD) (x1u na ia nb ib nc ic nd id) (by simp [maxLen]);exact hKc _ _ _ hle H (fun t ht=>by injection ht with ht;subst ht;exact ⟨_,rfl,hb⟩)
   ·intro a w K hK H hdep hold Kc hKc;obtain ⟨g,ev,hs⟩:=hdep 13 23 (by kernel_rfl) (by rfl)
    go_simp
    exact hKc _ _ _ (Sat.refl _) H (fun t ht=>by injection ht with ht;subst ht;exact ⟨g,rfl,by rw [←ev];exact hs⟩)
  ·intro a' w' K' hle H hd hsz hn hold;obtain ⟨g,ev,hv⟩:=hn 0 (by kernel_rfl)
   go_wp2_with fail
   have e0:a'.tmps[0]?.getD undef= .slice (some ⟨g,0,none⟩) 4 4:=by simpa using ev
   rw [ev] at hv;replace H:=H.tail.tail;exact bodyPost_ret (v:=.slice (some ⟨g,0,none⟩) 4 4) (by simp [results,Tryz.results57,go_sem,e0]) hd ⟨K',_,_,rfl,hle,H,hv⟩
 ·skip
  go_simp
  replace H:=H.alloc [.bool false,.bool false,.string ⟨#[]⟩,.string ⟨#[]⟩,.string ⟨#[]⟩,.string ⟨#[]⟩,.bool false,.int .i64 0,.string ⟨#[]⟩,.bool false,.slice none 0 0,.slice none 0 0,.int .i64 0,.int .i64 0,.slice none 0 0,.int .i64 0,.int .i64 0] 123;obtain ⟨w18,hq19⟩: ∃x,(w8).alloc (.cells #[.bool false,.bool false,.string ⟨#[]⟩,.string ⟨#[]⟩,.string ⟨#[]⟩,.string ⟨#[]⟩,.bool false,.int .i64 0,.string ⟨#[]⟩,.bool false,.slice none 0 0,.slice none 0 0,.int .i64 0,.int .i64 0,.slice none 0 0,.int .i64 0,.int .i64 0] 123)=x:=⟨_,rfl⟩;obtain ⟨g3,hg17⟩: ∃x,(w8).heap.size=x:=⟨_,rfl⟩;rw [hg17] at H ⊢;rw [hq19] at H ⊢;clear hg17 hq19;have hS20:w18.cell? ⟨g2,0,none⟩=some (.int .i64 4)∧w18.cell? ⟨g2,1,none⟩=some (.string ⟨#[78,111,32,108,111,110,103,101,114,32,115,117,112,112,111,114,116,101,100]⟩)∧w18.cell? ⟨g2,2,none⟩=some (.bool false)∧w18.cell? ⟨g2,3,none⟩=some (.slice none 0 0)∧w18.cell? ⟨g2,4,none⟩=some (.slice none 0 0)∧w18.cell? ⟨g2,5,none⟩=some (.int .i64 0)∧w18.cell? ⟨g2,6,none⟩=some (.int .i64 0):=⟨H.cell (i:=1) rfl rfl,H.cell (i:=1) rfl rfl,H.cell (i:=1) rfl rfl,H.cell (i:=1) rfl rfl,H.cell (i:=1) rfl rfl,H.cell (i:=1) rfl rfl,H.cell (i:=1) rfl rfl⟩;refine hKq.out _ _ (fun _=>hS20) (fun _=>?_);clear hKq Kq;refine held.step (i:=0) (by kernel_rfl) rfl (fun Kq hKq=>?_)
  go_simp
  refine (y69 _ _ _ _ _ _ H).mono ?_;clear H;rintro e x2 ⟨rfl,H⟩;replace H:Hp _ _ _ (_::_::_::M):=H
  try go_simp
  have hS21:x2.cell? ⟨g2,0,none⟩=some (.int .i64 4)∧x2.cell? ⟨g2,1,none⟩=some (.string ⟨#[78,111,32,108,111,110,103,101,114,32,115,117,112,112,111,114,116,101,100]⟩)∧x2.cell? ⟨g2,2,none⟩=some (.bool false)∧x2.cell? ⟨g2,3,none⟩=some (.slice none 0 0)∧x2.cell? ⟨g2,4,none⟩=some (.slice none 0 0)∧x2.cell? ⟨g2,5,none⟩=some (.int .i64 0)∧x2.cell? ⟨g2,6,none⟩=some (.int .i64 0):=⟨H.cell (i:=1) rfl rfl,H.cell (i:=1) rfl rfl,H.cell (i:=1) rfl rfl,H.cell (i:=1) rfl rfl,H.cell (i:=1) rfl rfl,H.cell (i:=1) rfl rfl,H.cell (i:=1) rfl rfl⟩;refine hKq.out _ _ (fun _=>hS21) (fun _=>?_);clear hKq Kq;refine tk 2 hS21 ?_;refine held.step (i:=4) (by kernel_rfl) rfl (fun Kq hKq=>?_);refine y3u (by rfl) 123 (.tmp 3) (.tmp 9) (by rfl) g3 0 (by first|rfl|simp [Act.eval,Act.put]) (.agg #[.bool false,.bool false,.string ⟨#[]⟩,.string ⟨#[114,101,97,115,111,110]⟩,.string ⟨#[83,116,114,105,110,103]⟩,.string ⟨#[]⟩,.bool true,.int .i64 4,.string ⟨#[78,111,32,108,111,110,103,101,114,32,115,117,112,112,111,114,116,101,100]⟩,.bool false,.slice none 0 0,.slice none 0 0,.int .i64 0,.int .i64 0,.slice none 0 0,.int .i64 0,.int .i64 0]) (by first|rfl|simp [Act.eval,Act.put]) [.bool false,.bool false,.string ⟨#[]⟩,.string ⟨#[114,101,97,115,111,110]⟩,.string ⟨#[83,116,114,105,110,103]⟩,.string ⟨#[]⟩,.bool true,.int .i64 4,.string ⟨#[78,111,32,108,111,110,103,101,114,32,115,117,112,112,111,114,116,101,100]⟩,.bool false,.slice none 0 0,.slice none 0 0,.int .i64 0,.int .i64 0,.slice none 0 0,.int .i64 0,.int .i64 0] (by rfl) (by simp [Value.oneCell']) (by kernel_rfl) H 0 [.bool false,.bool false,.string ⟨#[]⟩,.string ⟨#[]⟩,.string ⟨#[]⟩,.string ⟨#[]⟩,.bool false,.int .i64 0,.string ⟨#[]⟩,.bool false,.slice none 0 0,.slice none 0 0,.int .i64 0,.int .i64 0,.slice none 0 0,.int .i64 0,.int .i64 0] [.bool false,.bool false,.string ⟨#[]⟩,.string ⟨#[114,101,97,115,111,110]⟩,.string ⟨#[83,116,114,105,110,103]⟩,.string ⟨#[]⟩,.bool true,.int .i64 4,.string ⟨#[78,111,32,108,111,110,103,101,114,32,115,117,112,112,111,114,116,101,100]⟩,.bool false,.slice none 0 0,.slice none 0 0,.int .i64 0,.int .i64 0,.slice none 0 0,.int .i64 0,.int .i64 0] 123 (by rfl) (Qbn (by rfl)) (by rfl) ?_;clear H;intro w22 H;refine hKq.out _ _ (fun h=>absurd (Qax.2 rfl) h) (fun _=>?_);clear hKq Kq;refine held.done (by kernel_rfl) ?_ _;simp only [Act.put,List.getElem_toArray,List.getElem_cons_zero,List.getElem_cons_succ,List.setIfInBounds_toArray,List.set_cons_zero,List.set_cons_succ];replace H:Hp _ _ _ (_::_::_::M):=H
  go_upto_region 4 with (fail)
  replace H:=H.sub (Qaa _ (Qai _ (Qaa _ (Qam _))));refine x92 (R:=BdR) (by kernel_rfl) (by kernel_rfl) (by kernel_rfl) (by kernel_rfl) BdR.sat ?_ H ?_
  ·simp only [Qbd,List.not_mem_nil,or_false,forall_eq_or_imp,forall_eq];refine ⟨?_,?_,?_,?_,?_,?_,?_,?_,?_,?_,?_,?_,?_,?_,?_⟩
   ·intro a w K hK H hdep hold Kc hKc;have e1:a.tmps.getD 1 undef= .pointer (some ⟨g1,0,none⟩):=hold 1 (by kernel_rfl);refine y3j (by rfl) 123 (.tmp 1) (by rfl) g1 0 e1 condV _ Tryz.underlying123 rfl (by kernel_rfl) H 1 condV 123 (by rfl) (by rfl) ?_;exact hKc _ _ _ (Sat.refl _) H (fun t ht=>by injection ht with ht;subst ht;exact rfl)
   ·intro a w K hK H hdep hold Kc hKc;refine y1n (by rfl) 27 9 3 _ (by rfl) Tryz.underlying27 [(0,.string ⟨#[70,73,69,76,68]⟩),(1,.string ⟨#[70,82,65,71,77,69,78,84,95,83,80,82,69,65,68]⟩),(2,.string ⟨#[73,78,76,73,78,69,95,70,82,65,71,77,69,78,84]⟩)] (by kernel_rfl) [.string ⟨#[70,73,69,76,68]⟩,.string ⟨#[70,82,65,71,77,69,78,84,95,83,80,82,69,65,68]⟩,.string ⟨#[73,78,76,73,78,69,95,70,82,65,71,77,69,78,84]⟩] (by kernel_rfl) H ?_;intro w1 g H;obtain ⟨K1,hle,H,hb⟩:=H.freezeBox (n:=3) (ls:=y03 pl3) (rt_s (rt_s (rt_s (RL.z)))) (by simp [maxLen]);exact hKc _ _ _ hle H (fun t ht=>by injection ht with ht;subst ht;exact ⟨_,rfl,hb⟩)
   ·intro a w K hK H hdep hold Kc hKc;obtain ⟨g,ev,hs⟩:=hdep 1 11 (by kernel_rfl) (by rfl);have ea:a.tmps.getD 10 undef= .agg condV.toArray:=hdep 0 10 (by kernel_rfl) (by rfl);rw [ev] at hs;have hc:=y2e ⟨#[115,107,105,112]⟩ z0o _ _ _ _ _ _ _ _ _ _ _ _ _ _ _ _ _ pl3 3 3 (some ⟨g,0,none⟩) _ _ _ _ H rfl (by omega) hs y8n
    go_simp
    refine hc.mono ?_;rintro e w1 ⟨K1,gi,A,c,rfl,hle,H,hn,hi⟩;exact hKc _ _ _ hle H (fun t ht=>by injection ht with ht;subst ht;exact ⟨_,_,_,rfl,hn,hi⟩)
   ·intro a w K hK H hdep hold Kc hKc;have e1:a.tmps.getD 1 undef= .pointer (some ⟨g1,0,none⟩):=hold 1 (by kernel_rfl);refine y3j (by rfl) 123 (.tmp 1) (by rfl) g1 0 e1 condV _ Tryz.underlying123 rfl (by kernel_rfl) H 1 condV 123 (by rfl) (by rfl) ?_;exact hKc _ _ _ (Sat.refl _) H (fun t ht=>by injection ht with ht;subst ht;exact rfl)
   ·intro a w K hK H hdep hold Kc hKc;refine y1n (by rfl) 27 9 3 _ (by rfl) Tryz.underlying27 [(0,.string ⟨#[70,73,69,76,68]⟩),(1,.string ⟨#[70,82,65,71,77,69,78,84,95,83,80,82,69,65,68]⟩),(2,.string ⟨#[73,78,76,73,78,69,95,70,82,65,71,77,69,78,84]⟩)] (by kernel_rfl) [.string ⟨#[70,73,69,76,68]⟩,.string ⟨#[70,82,65,71,77,69,78,84,95,83,80,82,69,65,68]⟩,.string ⟨#[73,78,76,73,78,69,95,70,82,65,71,77,69,78,84]⟩] (by kernel_rfl) H ?_;intro w1 g H;obtain ⟨K1,hle,H,hb⟩:=H.freezeBox (n:=3) (ls:=y03 pl3) (rt_s (rt_s (rt_s (RL.z)))) (by simp [maxLen]);exact hKc _ _ _ hle H (fun t ht=>by injection ht with ht;subst ht;exact ⟨_,rfl,hb⟩)
   ·intro a w K hK H hdep hold Kc hKc;obtain ⟨g,ev,hs⟩:=hdep 4 14 (by kernel_rfl) (by rfl);have ea:a.tmps.getD 13 undef= .agg condV.toArray:=hdep 3 13 (by kernel_rfl) (by rfl);rw [ev] at hs;have hc:=y2e ⟨#[105,110,99,108,117,100,101]⟩ z0o _ _ _ _ _ _ _ _ _ _ _ _ _ _ _ _ _ pl3 3 3 (some ⟨g,0,none⟩) _ _ _ _ H rfl (by omega) hs y8n
    go_simp
    refine hc.mono ?_;rintro e w1 ⟨K1,gi,A,c,rfl,hle,H,hn,hi⟩;exact hKc _ _ _ hle H (fun t ht=>by injection ht with ht;subst ht;exact ⟨_,_,_,rfl,hn,hi⟩)
   ·intro a w K hK H hdep hold Kc hKc;have e1:a.tmps.getD 3 undef= .pointer (some ⟨g3,0,none⟩):=hold 3 (by kernel_rfl);refine y3j (by rfl) 123 (.tmp 3) (by rfl) g3 0 e1 reasonV _ Tryz.underlying123 rfl (by kernel_rfl) H 0 reasonV 123 (by rfl) (by rfl) ?_;exact hKc _ _ _ (Sat.refl _) H (fun t ht=>by injection ht with ht;subst ht;exact rfl)
   ·intro a w K hK H hdep hold Kc hKc;refine y1n (by rfl) 27 9 2 _ (by rfl) Tryz.underlying27 [(0,.string ⟨#[70,73,69,76,68,95,68,69,70,73,78,73,84,73,79,78]⟩),(1,.string ⟨#[69,78,85,77,95,86,65,76,85,69]⟩)] (by kernel_rfl) [.string ⟨#[70,73,69,76,68,95,68,69,70,73,78,73,84,73,79,78]⟩,.string ⟨#[69,78,85,77,95,86,65,76,85,69]⟩] (by kernel_rfl) H ?_;intro w1 g H;obtain ⟨K1,hle,H,hb⟩:=H.freezeBox (n:=2) (ls:=y03 pl2) (rt_s (rt_s (RL.z))) (by simp [maxLen]);exact hKc _ _ _ hle H (fun t ht=>by injection ht with ht;subst ht;exact ⟨_,rfl,hb⟩)
   ·intro a w K hK H hdep hold Kc hKc;obtain ⟨g,ev,hs⟩:=hdep 7 17 (by kernel_rfl) (by rfl);have ea:a.tmps.getD 16 undef= .agg reasonV.toArray:=hdep 6 16 (by kernel_rfl) (by rfl);rw [ev] at hs;have hc:=y2e ⟨#[100,101,112,114,101,99,97,116,101,100]⟩ y72 _ _ _ _ _ _ _ _ _ _ _ _ _ _ _ _ _ pl2 2 2 (some ⟨g,0,none⟩) _ _ _ _ H rfl (by omega) hs z1i
    go_simp
    refine hc.mono ?_;rintro e w1 ⟨K1,gi,A,c,rfl,hle,H,hn,hi⟩;exact hKc _ _ _ hle H (fun t ht=>by injection ht with ht;subst ht;exact ⟨_,_,_,rfl,hn,hi⟩)
   ·intro a w K hK H hdep hold Kc hKc;have hc:=y69 ⟨#[83,116,114,105,110,103]⟩ ⟨#[33]⟩ _ _ _ _ H
    go_simp
    refine hc.mono ?_;rintro e w1 ⟨rfl,H⟩;exact hKc _ _ _ (Sat.refl _) H (fun t ht=>by injection ht with ht;subst ht;exact rfl)
   ·intro a w K hK H hdep hold Kc hKc;have e19:a.tmps.getD 19 undef= .agg #[.string ⟨#[83,116,114,105,110,103]⟩,.string ⟨#[33]⟩]:=hdep 9 19 (by kernel_rfl) (by rfl)
    have e19':a.tmps[19]?.getD undef= .agg #[.string ⟨#[83,116,114,105,110,103]⟩,.string ⟨#[33]⟩]:=by simpa using e19
    go_simp
    exact hKc _ _ _ (Sat.refl _) H (fun t ht=>by injection ht with ht;subst ht;exact rfl)
   ·intro a w K hK H hdep hold Kc hKc;refine y1n (by rfl) 27 9 1 _ (by rfl) Tryz.underlying27 [(0,.string ⟨#[83,67,65,76,65,82]⟩)] (by kernel_rfl) [.string ⟨#[83,67,65,76,65,82]⟩] (by kernel_rfl) H ?_;intro w1 g H;obtain ⟨K1,hle,H,hb⟩:=H.freezeBox (n:=1) (ls:=y03 pl1) (rt_s (RL.z)) (by simp [maxLen]);exact hKc _ _ _ hle H (fun t ht=>by injection ht with ht;subst ht;exact ⟨_,rfl,hb⟩)
   ·intro a w K hK H hdep hold Kc hKc;obtain ⟨g,ev,hs⟩:=hdep 11 21 (by kernel_rfl) (by rfl);have ea:a.tmps.getD 20 undef= .agg urlV.toArray:=hdep 10 20 (by kernel_rfl) (by rfl);rw [ev] at hs;have hc:=y2e ⟨#[115,112,101,99,105,102,105,101,100,66,121]⟩ urlD _ _ _ _ _ _ _ _ _ _ _ _ _ _ _ _ _ pl1 1 1 (some ⟨g,0,none⟩) _ _ _ _ H rfl (by omega) hs x1t
    go_simp
    refine hc.mono ?_;rintro e w1 ⟨K1,gi,A,c,rfl,hle,H,hn,hi⟩;exact hKc _ _ _ hle H (fun t ht=>by injection ht with ht;subst ht;exact ⟨_,_,_,rfl,hn,hi⟩)
   ·intro a w K hK H hdep hold Kc hKc;obtain ⟨ga,Aa,ca,e12,na,ia⟩:=hdep 2 12 (by kernel_rfl) (by rfl);obtain ⟨gb,Ab,cb,e15,nb,ib⟩:=hdep 5 15 (by kernel_rfl) (by rfl);obtain ⟨gc,Ac,cc,e18,nc,ic⟩:=hdep 8 18 (by kernel_rfl) (by rfl);obtain ⟨gd,Ad,cd,e22,nd,id⟩:=hdep 12 22 (by kernel_rfl) (by rfl);refine y1n (by rfl) 22 43 4 _ (by rfl) Tryz.underlying22 [(0,.agg #[.int .i64 8,.bool false,.bool false,.bool false,.string ⟨#[]⟩,.string ⟨#[115,107,105,112]⟩,.slice none 0 0,.slice none 0 0,.slice none 0 0,.slice (some ⟨ga,0,none⟩) 1 1,.slice none 0 0,.slice none 0 0,.slice none 0 0,.bool false,.slice Aa 3 ca,.int .i64 0,.int .i64 0]),(1,.agg #[.int .i64 8,.bool false,.bool false,.bool false,.string ⟨#[]⟩,.string ⟨#[105,110,99,108,117,100,101]⟩,.slice none 0 0,.slice none 0 0,.slice none 0 0,.slice (some ⟨gb,0,none⟩) 1 1,.slice none 0 0,.slice none 0 0,.slice none 0 0,.bool false,.slice Ab 3 cb,.int .i64 0,.int .i64 0]),(2,.agg #[.int .i64 8,.bool false,.bool false,.bool false,.string ⟨#[]⟩,.string ⟨#[100,101,112,114,101,99,97,116,101,100]⟩,.slice none 0 0,.slice none 0 0,.slice none 0 0,.slice (some ⟨gc,0,none⟩) 1 1,.slice none 0 0,.slice none 0 0,.slice none 0 0,.bool false,.slice Ac 2 cc,.int .i64 0,.int .i64 0]),(3,.agg #[.int .i64 8,.bool false,.bool false,.bool false,.string ⟨#[]⟩,.string ⟨#[115,112,101,99,105,102,105,101,100,66,121]⟩,.slice none 0 0,.slice none 0 0,.slice none 0 0,.slice (some ⟨gd,0,none⟩) 1 1,.slice none 0 0,.slice none 0 0,.slice none 0 0,.bool false,.slice Ad 1 cd,.int .i64 0,.int .i64 0])] (Eq.trans (b:=[(0,a.tmps.getD 12 undef),(1,a.tmps.getD 15 undef),(2,a.tmps.getD 18 undef),(3,a.tmps.getD 22 undef)]) (by kernel_rfl) (by rw [e12,e15,e18,e22])) [.int .i64 8,.bool false,.bool false,.bool false,.string ⟨#[]⟩,.string ⟨#[115,107,105,112]⟩,.slice none 0 0,.slice none 0 0,.slice none 0 0,.slice (some ⟨ga,0,none⟩) 1 1,.slice none 0 0,.slice none 0 0,.slice none 0 0,.bool false,.slice Aa 3 ca,.int .i64 0,.int .i64 0,.int .i64 8,.bool false,.bool false,.bool false,.string ⟨#[]⟩,.string ⟨#[105,110,99,108,117,100,101]⟩,.slice none 0 0,.slice none 0 0,.slice none 0 0,.slice (some ⟨gb,0,none⟩) 1 1,.slice none 0 0,.slice none 0 0,.slice none 0 0,.bool false,.slice Ab 3 cb,.int .i64 0,.int .i64 0,.int .i64 8,.bool false,.bool false,.bool false,.string ⟨#[]⟩,.string ⟨#[100,101,112,114,101,99,97,116,101,100]⟩,.slice none 0 0,.slice none 0 0,.slice none 0 0,.slice (some ⟨gc,0,none⟩) 1 1,.slice none 0 0,.slice none 0 0,.slice none 0 0,.bool false,.slice Ac 2 cc,.int .i64 0,.int .i64 0,.int .i64 8,.bool false,.bool false,.bool false,.string ⟨#[]⟩,.string ⟨#[115,112,101,99,105,102,105,101,100,66,121]⟩,.slice none 0 0,.slice none 0 0,.slice none 0 0,.slice (some ⟨gd,0,none⟩) 1 1,.slice none 0 0,.slice none 0 0,.slice none 0 0,.bool false,.slice Ad 1 cd,.int .i64 0,.int .i64 0] (by kernel_rfl) H ?_;intro w1 g H;obtain ⟨K1,hle,H,hb⟩:=H.freezeBox (n:=4) (ls:=y0q givenDirsD) (x1u na ia nb ib nc ic nd id) (by simp [maxLen]);exact hKc _ _ _ hle H (fun t ht=>by injection ht with ht;subst ht;exact ⟨_,rfl,hb⟩)
   ·intro a w K hK H hdep hold Kc hKc;obtain ⟨g,ev,hs⟩:=hdep 13 23 (by kernel_rfl) (by rfl)
    go_simp
    exact hKc _ _ _ (Sat.refl _) H (fun t ht=>by injection ht with ht;subst ht;exact ⟨g,rfl,by rw [←ev];exact hs⟩)
  ·intro a' w' K' hle H hd hsz hn hold;obtain ⟨g,ev,hv⟩:=hn 0 (by kernel_rfl)
   go_wp2_with fail
   have e0:a'.tmps[0]?.getD undef= .slice (some ⟨g,0,none⟩) 4 4:=by simpa using ev
   rw [ev] at hv;replace H:=H.tail.tail;exact bodyPost_ret (v:=.slice (some ⟨g,0,none⟩) 4 4) (by simp [results,Tryz.results57,go_sem,e0]) hd ⟨K',_,_,rfl,hle,H,hv⟩
end Go.Proofs.YtbpgkkoeehopjaaGreat.hp
namespace Go.Proofs.YtbpgkkoeehopjaaGreat.hp
open Go.RowKit words enc tree gram lex rd dec dat held
def y06 (l:List (Txt×Value)):List (Value×Value):=l.map fun p=>(.string (str p.1),p.2)
def y5i (l:List (Txt×Value)) (x:Txt):Option Value:=(l.find? (·.1==x)).map (·.2)
def sput:List (Txt×Value)→Txt→Value→List (Txt×Value)
 |[],x,v=>[(x,v)]
 |p::r,x,v=>if p.1=x then (x,v)::r else p::sput r x v
theorem q3n {l:List (Txt×Value)} {x:Txt} {v:Value} (h:y5i l x=none):sput l x v=l++[(x,v)]:=by
 induction l with
 |nil=>rfl
 |cons p r ih=>
  by_cases hp:p.1=x
  ·simp [y5i,hp] at h
  ·have:y5i r x=none:=by simpa [y5i,hp] using h
   rw [sput,if_neg hp,ih this];rfl
theorem str_eq (a b:Txt):(str a==str b)=decide (a=b):=by
 show ((str a).data==(str b).data)=_
 rw [Bool.eq_iff_iff];simp [str]
theorem z2s {w:World} {b:Nat} {l:List (Value×Value)} {P:Program} (h:w.heap[b]?=some (mobj l)):(getObj b).run P w= .ok (.map (y2w l).toArray l.length) w:=by
 unfold getObj;simp only [Sem.run,h,mobj]
theorem z9c (x:Txt): ∀(l:List (Txt×Value)) (j i:Nat),Instr.findNow .string (.string (str x)) (((y06 l).zipIdx j).map fun p=>({key:=p.1.1,val:=p.1.2,born:=p.2}:MapEntry)) i=some ((l.findIdx? (·.1==x)).bind fun k=>(l[k]?).map fun p=>(i+k,p.2))
 |[],j,i=>rfl
 |p::r,j,i=>by
  simp only [y06,List.map_cons,List.zipIdx_cons,Instr.findNow,Instr.sameNow,str_eq];by_cases h:p.1=x
  ·have h':x=p.1:=h.symm;simp [h',List.findIdx?_cons]
  ·have h': ¬x=p.1:=fun e=>h e.symm;have:=z9c x r (j+1) (i+1);simp only [y06] at this;simp only [h',decide_false,this,List.findIdx?_cons,h,Qa7,if_false,Bool.false_eq_true]
   cases hq:r.findIdx? (·.1==x) with
   |none=>simp
   |some k=>simp [Nat.add_comm,Nat.add_left_comm,Nat.add_assoc]
section
variable {P : Program} {w : World} {b t kt et : Nat} {l : List (Txt × Value)}
theorem z0p (hk:P.underlying kt=some .string) (x:Txt):(Instr.findKey kt (.string (str x)) (y2w (y06 l))).run P w= .ok ((l.findIdx? (·.1==x)).bind fun k=>(l[k]?).map fun p=>(k,p.2)) w:=by
 have:=z9c x l 0 0;simp only [Nat.zero_add] at this;unfold Instr.findKey y2w;rw [Sem.run_bind,run_underlying hk w];simp only [Result.andThen_ok,this,Sem.run_pure]
theorem y8o (hk:P.underlying kt=some .string) (e:Bool) (x:Txt):(Instr.checkKey e 10000 kt (.string (str x))).run P w= .ok () w:=by
 unfold Instr.checkKey;rw [Sem.run_bind,run_underlying hk w];rfl
theorem z9d (x:Txt): ∀l:List (Txt×Value),((l.findIdx? (·.1==x)).bind fun k=>(l[k]?).map fun p=>(k,p.2)).map (·.2)=y5i l x
 |[]=>rfl
 |p::r=>by
  by_cases h:p.1=x
  ·simp [List.findIdx?_cons,h,y5i]
  ·have:=z9d x r;simp only [y5i,List.find?_cons,List.findIdx?_cons,h,Qa7,if_false,Bool.false_eq_true] at this ⊢;have hb:(p.1==x)=false:=Qa3.2 h;simp only [hb];rw [←this]
   cases hq:r.findIdx? (·.1==x) with
   |none=>simp
   |some k=>simp [Function.comp_def]
theorem z9e (ht:P.underlying t=some (.map kt et)) (hk:P.underlying kt=some .string) (z:Value) (hz:(zeroValue et).run P w= .ok z w) (hb:w.heap[b]?=some (mobj (y06 l))) (x:Txt) (ok:Bool):
  (Instr.lookup t (.map (some b)) (.string (str x)) ok).run P w= .ok (if ok then .tuple #[(y5i l x).getD z,.bool (y5i l x).isSome] else (y5i l x).getD z) w:=by
 have hf:=z0p (P:=P) (w:=w) (l:=l) hk x;have hi:=z9d x l;unfold Instr.lookup;simp only [Sem.run_bind,run_underlying ht w,Result.andThen_ok,z2s hb,Sem.run_pure,y8o hk,hf]
 cases hq:((l.findIdx? (·.1==x)).bind fun k=>(l[k]?).map fun p=>(k,p.2)) with
 |none=>
  rw [hq] at hi;have hi:y5i l x=none:=hi.symm;simp [hi,hz,Sem.run_bind]
 |some p=>
  rw [hq] at hi;have hi:y5i l x=some p.2:=hi.symm;simp [hi,Sem.run_bind]
theorem x3q (x:Txt) (v:Value): ∀(l:List (Txt×Value)),match l.findIdx? (·.1==x) with
  |none=>sput l x v=l++[(x,v)]
  |some k=>k<l.length∧sput l x v=l.set k (x,v)∧(l[k]?).map (·.1)=some x
 |[]=>rfl
 |p::r=>by
  by_cases h:p.1=x
  ·simp [List.findIdx?_cons,h,sput]
  ·have ih:=x3q x v r;have hb:(p.1==x)=false:=Qa3.2 h;simp only [List.findIdx?_cons,hb,Bool.false_eq_true,if_false,sput,h]
   cases hq:r.findIdx? (·.1==x) with
   |none=>rw [hq] at ih;simp only [Option.map_none] at ih ⊢;simp [ih]
   |some k=>rw [hq] at ih;simp only [Option.map_some] at ih ⊢;exact ⟨by simpa using ih.1,by rw [ih.2.1];rfl,by simpa using ih.2.2⟩
theorem x93 (l:List (Txt×Value)) (k:Nat) (hk:k<l.length) (p:Txt×Value):y2w (y06 (l.set k p))=(y2w (y06 l)).modify k fun e=>{e with key:=.string (str p.1),val:=p.2}:=by
 apply Qbz;intro j;simp only [y2w,y06,Qb0,List.getElem?_zipIdx,List.getElem?_modify,List.getElem?_set,List.map_set];by_cases hj:k=j
 ·subst hj;simp [hk]
 ·simp [hj]
theorem z5y {o o':Obj} (hb:w.heap[b]?=some o) (hn: ∀c e f,o≠ .cells c e f):(setObj b o').run P w= .ok () {w with heap:=w.heap.setIfInBounds b o'}:=by
 unfold setObj
 cases o with
 |cells c e f=>exact absurd rfl (hn c e f)
 |_=>simp [Sem.run,hb]
theorem z9f (ht:P.underlying t=some (.map kt et)) (hk:P.underlying kt=some .string) (hb:w.heap[b]?=some (mobj (y06 l))) (x:Txt) (v:Value):
  (Instr.mapUpdate t (.map (some b)) (.string (str x)) v).run P w= .ok () {w with heap:=w.heap.setIfInBounds b (mobj (y06 (sput l x v)))}:=by
 have hf:=z0p (P:=P) (w:=w) (l:=l) hk x;have hi:=x3q x v l;have hs: ∀o',(setObj b o').run P w= .ok () {w with heap:=w.heap.setIfInBounds b o'}:=fun o'=>z5y hb (fun c e f h=>by cases h);unfold Instr.mapUpdate;simp only [Sem.run_bind,run_underlying ht w,Result.andThen_ok,z2s hb,y8o hk,hf]
 cases hq:l.findIdx? (·.1==x) with
 |none=>
  rw [hq] at hi;simp only [Option.bind_none];rw [hs,hi];simp [mobj,y06,y2w,List.zipIdx_append]
 |some k=>
  rw [hq] at hi;obtain ⟨hkl,hsp,hkx⟩:=hi;obtain ⟨p,hp⟩: ∃p,l[k]?=some p:=⟨_,Qad hkl⟩
  have hpx:p.1=x:=by simpa [hp] using hkx
  have hes:((y2w (y06 l)).toArray[k]?).map (·.key)=some (.string (str x)):=by simp [y2w,y06,hp,hpx]
  have hst:(Instr.keyThatStays (.string (str x)) (.string (str x))).run P w= .ok (.string (str x)) w:=by
   unfold Instr.keyThatStays;rw [if_pos (by simp [Instr.sameBits,str_eq])];rfl
  simp only [Option.bind_some,hp,Option.map_some,Sem.run_bind,hes,Option.getD_some,hst,Result.andThen_ok,hs];rw [hsp];have:=x93 l k hkl (x,v)
  have hob:Obj.map ((y2w (y06 l)).toArray.modify k fun e=>{e with key:=.string (str x),val:=v}) l.length=mobj (y06 (l.set k (x,v))):=by
   unfold mobj;rw [this];simp [y06]
  rw [←hob];simp [y06]
end
section
variable {P : Program} {w0 w K : World} {M : List Ent} {ops : Array Oper} {rest : List Oper} {o : Oper} {a : Act} {Q : Exit → Act → World → Prop} {i b t kt et : Nat}
theorem Hp.mapAt (H:Hp w0 w K M) {l:List (Value×Value)} (hi:M[i]?=some (.map b l)):w.heap[b]?=some (mobj l):=H.ok _ (Qaf hi)
theorem Hp.mapSet (H:Hp w0 w K M) {l:List (Value×Value)} (hi:M[i]?=some (.map b l)) (l':List (Value×Value)):Hp w0 {w with heap:=w.heap.setIfInBounds b (mobj l')} K (M.set i (.map b l')):=by
 have hb:=H.mapAt hi;have hlt:=(Qan.1 hb).1;refine H.setAt hi ⟨rfl,rfl,rfl,by simp,fun k hk hne=>?_⟩ ?_ (.inl rfl)
 ·have hkb:b≠k:=fun e=>hne (by subst e;rfl);simp [hkb]
 ·simp [Ent.ok,hlt]
end
def nmap (ks:List Txt):List (Txt×Value):=ks.zipIdx.map fun p=>(p.1,.int .i64 p.2)
theorem y9c (x:Txt): ∀(ks:List Txt) (j:Nat),y5i (ks.zipIdx j |>.map fun p=>(p.1,(Value.int .i64 p.2:Value))) x=(ks.findIdx? (· ==x)).map fun i=>.int .i64 ((j+i:Nat):Int)
 |[],j=>rfl
 |k::r,j=>by
  by_cases h:k=x
  ·simp [y5i,h,List.findIdx?_cons]
  ·have ih:=y9c x r (j+1);simp only [y5i] at ih;have hb:(k==x)=false:=Qa3.2 h;simp only [y5i,List.zipIdx_cons,List.map_cons,List.find?_cons,hb,List.findIdx?_cons,Bool.false_eq_true,if_false,ih]
   cases r.findIdx? (· ==x) with
   |none=>rfl
   |some i=>simp;omega
theorem z0q (ks:List Txt) (x:Txt):y5i (nmap ks) x=(ks.findIdx? (· ==x)).map fun i=>.int .i64 ((i:Nat):Int):=by
 have:=y9c x ks 0;simpa [nmap] using this
theorem x3r (ks:List Txt) (x:Txt) (h:x∉ks):sput (nmap ks) x (.int .i64 (ks.length:Int))=nmap (ks++[x]):=by
 rw [q3n]
 ·simp [nmap,List.zipIdx_append]
 ·rw [z0q]
  have:ks.findIdx? (· ==x)=none:=by
   rw [List.findIdx?_eq_none_iff];intro y hy;exact Qa3.2 (fun e=>h (e▸hy))
  rw [this];rfl
set_option maxRecDepth 100000
set_option maxHeartbeats 40000000
attribute [local go_sem ↓] Go.wp_at_zero Go.wp_at_succ
instance scM87:Sc Tryz.prog 87:=⟨⟨_,Tryz.underlying87,rfl⟩⟩
instance scD22:Sc Tryz.prog 22:=⟨⟨_,Tryz.underlying22,rfl⟩⟩
abbrev tbox (g ga gd gf go:Nat) (VT VD:Value):Ent:=.box g [.int .i64 0,.bool false,.bool false,.bool false,.string ⟨#[]⟩,.string ⟨#[]⟩,.slice none 0 0,.slice none 0 0,.slice none 0 0,.slice none 0 0,.slice none 0 0,.slice none 0 0,.slice none 0 0,.bool false,.slice none 0 0,.int .i64 0,.int .i64 0,VT,.map (some ga),VD,.map (some gd),.map (some gf),.map (some go)] 91
theorem y0j (w:World):(zeroValue 3).run Tryz.prog w= .ok (.int .i64 0) w:=by kernel_rfl
theorem z4h {ks:List Txt} {x:Txt} (h:x∉ks):y5i (nmap ks) x=none:=by
 rw [z0q]
 have:ks.findIdx? (· ==x)=none:=by
  rw [List.findIdx?_eq_none_iff];intro y hy;exact Qa3.2 (fun e=>h (e▸hy))
 rw [this];rfl
theorem z9g {ks:List Txt} {x:Txt} (h:x∈ks): ∃i,ks[i]?=some x∧(∀j,j<i→ks[j]?≠some x)∧y5i (nmap ks) x=some (.int .i64 (i:Nat)):=by
 rw [z0q]
 cases hq:ks.findIdx? (· ==x) with
 |none=>
  rw [List.findIdx?_eq_none_iff] at hq;have:=hq x h;simp at this
 |some i=>
  rw [Qbs] at hq;obtain ⟨hi,h1,h2⟩:=hq;refine ⟨i,?_,?_,rfl⟩
  ·rw [Qad hi];exact congrArg some (eq_of_beq h1)
  ·intro j hj he;have:=h2 j hj;rw [Qad (by omega)] at he;injection he with he;simp [he] at this
section
variable {P : Program} {w0 w K : World} {M M' : List Ent} {a : Act} {o : Oper}
theorem dlM {t kt et:TypeId} {m x:Operand} {b i:Nat} {l:List (Txt×Value)} {k:Txt} {z r:Value} (ht:P.underlying t=some (.map kt et)) (hk:P.underlying kt=some .string) (hz: ∀w,(zeroValue et).run P w= .ok z w) (hr:Value.tuple #[(y5i l k).getD z,.bool (y5i l k).isSome]=r)
  (ho:o.op= .lookup t m x true:=by rfl) (hm:a.eval m= .map (some b):=by rfl) (hx:a.eval x= .string (str k):=by rfl) (hi:M[i]?=some (.map b (y06 l)):=by ((repeat (first|exact i0|apply iS))<;>fail)):z06 P o a K M r:=fun w0 w H=>by
 have hrun:=z9e (w:=w) ht hk z (hz w) (H.mapAt hi) k true;rw [if_pos rfl,hr] at hrun;unfold execOp;simp only [ho,hm,hx,Sem.run_bind,hrun,Result.andThen_ok,Sem.run_pure]
theorem dsM {t kt et:TypeId} {m x y:Operand} {b i:Nat} {l l':List (Txt×Value)} {k:Txt} {v:Value} (ht:P.underlying t=some (.map kt et)) (hk:P.underlying kt=some .string) (hl:sput l k v=l')
  (ho:o.op= .mapUpdate t m x y:=by rfl) (hm:a.eval m= .map (some b):=by rfl) (hx:a.eval x= .string (str k):=by rfl) (hy:a.eval y=v:=by rfl) (hi:M[i]?=some (.map b (y06 l)):=by ((repeat (first|exact i0|apply iS))<;>fail)) (hM:M.set i (.map b (y06 l'))=M':=by (dsimp only [List.set];try rfl)):Does P o a w0 w K M (fun _=>undef) (fun _=>M'):=fun C Q H h=>by
 have hrun:=z9f (w:=w) ht hk (H.mapAt hi) k v;rw [hl] at hrun;unfold Oper.wp execOp;simp only [ho,hm,hx,hy,Sem.run_bind,hrun,Result.andThen_ok,Sem.run_pure];exact h _ 0 (hM▸H.mapSet hi _)
end
theorem x1v (d:DefD) (cs:Array Value) (ks:List Txt) (g ga gd gf go:Nat) (VT VD:Value) (w0 w K:World) (M:List Ent) (H:Hp w0 w K (tbox g ga gd gf go VT VD:: .map ga (y06 (nmap ks))::M)) (hd:RL K (defL d) cs.toList) (hin:d.name∈ks):
  Calls Tryz.prog 59 #[.pointer (some ⟨g,0,none⟩),.agg cs] w fun e w'=>e= .returned (.tuple #[])∧Hp w0 w' K (tbox g ga gd gf go VT VD:: .map ga (y06 (nmap ks))::M):=by
 obtain ⟨A6,c6,A7,c7,A8,c8,A9,c9,A10,c10,A11,c11,A12,c12,A14,c14,hcs,-⟩:=y0c hd;obtain rfl:cs= #[_,_,_,_,_,_,_,_,_,_,_,_,_,_,_,_,_]:=Qal.1 hcs;obtain ⟨i,-,-,hf⟩:=z9g hin;clear hcs hd;go_enter Tryz.func59,Tryz.ntmps59
 go_upto_region 1 with (first|(refine oL H ?_)|(refine oA 3 H ?_;clear H;intro w g3 H)|(refine oP H ?_;clear H;intro w _ H))
 refine rB [] H ?_;clear H;intro w H;refine rT 0 H ?_;refine rT 1 H ?_;refine rT 2 H ?_;refine rT 3 H ?_;refine rT 4 H ?_;refine rT 5 H ?_;refine rT 6 H ?_ (hd:=dlM Tryz.underlying87 Tryz.underlying9 y0j (by rw [hf]));refine rT 7 H ?_;refine rT 8 H ?_;refine rT 9 H ?_;refine rT 10 H ?_;refine rT 11 H ?_;refine rE ?_
 go_wp2_with fail
 refine o0 ?_;exact ⟨rfl,H.fin⟩
def AddT (d:DefD) (ks:List Txt) (g ga gd gf go:Nat) (VD:Value) (xT:List Value) (w0 K:World) (M:List Ent) (e:Ending) (w':World):Prop:=
 ∃K' V VT',e= .returned (.tuple #[])∧Sat K' K∧Hp w0 w' K' (tbox g ga gd gf go VT' VD:: .map ga (y06 (nmap (ks++[d.name]))):: .row 43 17 VT' (ks.length+1) (xT++DV.cells d V)::DV.rows d V++M)∧V.ok K' d
theorem x1w (d:DefD) (cs:Array Value) (ks:List Txt) (g ga gd gf go:Nat) (VT VD:Value) (xT:List Value) (w0 w K:World) (M:List Ent) (H:Hp w0 w K (tbox g ga gd gf go VT VD:: .map ga (y06 (nmap ks)):: .row 43 17 VT ks.length xT::M)) (hd:RL K (defL d) cs.toList) (hin:d.name∉ks) (hm:defN d≤9000000) (hk:ks.length≤9000000):
  Calls Tryz.prog 59 #[.pointer (some ⟨g,0,none⟩),.agg cs] w (AddT d ks g ga gd gf go VD xT w0 K M):=by
 obtain ⟨A6,c6,A7,c7,A8,c8,A9,c9,A10,c10,A11,c11,A12,c12,A14,c14,hcs,-⟩:=y0c hd;obtain rfl:cs= #[_,_,_,_,_,_,_,_,_,_,_,_,_,_,_,_,_]:=Qal.1 hcs;have hf:=z4h hin;have hput:=x3r ks d.name hin;obtain ⟨VA,Vc,rfl,-,-⟩:=H.slice (i:=2) rfl;clear hcs;go_enter Tryz.func59,Tryz.ntmps59
 go_upto_region 1 with (first|(refine oL H ?_)|(refine oA 3 H ?_;clear H;intro w g3 H)|(refine oP H ?_;clear H;intro w _ H))
 refine rB [] H ?_;clear H;intro w H;refine rT 0 H ?_;refine rT 1 H ?_;refine rT 2 H ?_;refine rT 3 H ?_;refine rT 4 H ?_;refine rT 5 H ?_;refine rT 6 H ?_ (hd:=dlM Tryz.underlying87 Tryz.underlying9 y0j (by rw [hf]));refine rT 7 H ?_;refine rT 8 H ?_;refine rT 9 H ?_;refine rT 10 H ?_;refine rT 11 H ?_;refine rE ?_
 go_wp2_with fail
 refine rB [11] H ?_;clear H;intro w H;refine rT 0 H ?_;refine rT 1 H ?_;refine rT 2 H ?_;refine rT 3 H ?_;refine rT 4 H ?_;refine rT 5 H ?_;refine rT 6 H ?_;refine rT 7 H ?_;refine rT 8 H ?_;refine rT 9 H ?_;refine rT 10 H ?_;refine rL 11 H ?_ (hd:=dsM Tryz.underlying87 Tryz.underlying9 hput);clear H;intro w _ H;refine rE ?_
 go_wp2_with fail
 refine rN [.box g3 _ _,.box g _ _] [11] H ?_;clear H;intro w H;refine rT 0 H ?_;refine rT 1 H ?_;refine rT 2 H ?_;refine rT 3 H ?_;refine rT 4 H ?_;refine rT 5 H ?_;refine rC 6 (y7w d _ H hm hd) ?_;clear H;rintro e w ⟨K5,V,rfl,hle,H,hV⟩;have ho:=y87 H;replace H:Hp _ _ _ (.row 52 10 V.v8 d.fields.length V.x8:: .row 133 7 V.v11 d.values.length V.x11:: .row 113 3 V.v6 d.ifaces.length V.x6:: .row 113 3 V.v10 d.members.length V.x10:: .row 113 3 V.v14 d.places.length V.x14:: .row 100 4 V.v12 d.roots.length V.x12:: .row 123 17 V.v9 d.inputs.length V.x9:: .row 181 4 V.v7 d.dirs.length V.x7::_):=H;refine rX H ?_ (v:=.agg #[.int .i64 d.kind,.bool d.ext,.bool d.note.has,.bool d.note.block,.string (str d.note.text),.string (str d.name),V.v6,V.v7,V.v8,V.v9,V.v10,V.v11,V.v12,.bool d.rep,V.v14,.int .i64 d.line,.int .i64 d.col]);refine rW 7 H ?_;clear H;intro w g7 H;refine rA 8 H ?_ (h1:=ho);clear H;intro A8 c8 w _ _ H;dsimp only [List.set] at H;refine rT 9 H ?_;refine rT 10 H ?_;refine rL 11 H ?_;clear H;intro w _ H;refine rE ?_
 go_wp2_with fail
 refine o0 ?_;exact ⟨K5,V,_,rfl,hle,(show Hp _ _ _ (tbox _ _ _ _ _ _ _::_::_:: .row 52 10 V.v8 d.fields.length V.x8:: .row 133 7 V.v11 d.values.length V.x11:: .row 113 3 V.v6 d.ifaces.length V.x6:: .row 113 3 V.v10 d.members.length V.x10:: .row 113 3 V.v14 d.places.length V.x14:: .row 100 4 V.v12 d.roots.length V.x12:: .row 123 17 V.v9 d.inputs.length V.x9:: .row 181 4 V.v7 d.dirs.length V.x7::M) from H.fin),hV⟩
theorem x58 (d:DefD) (cs:Array Value) (ks:List Txt) (g ga gd gf go:Nat) (VT VD:Value) (w0 w K:World) (M:List Ent) (H:Hp w0 w K (tbox g ga gd gf go VT VD:: .map gd (y06 (nmap ks))::M)) (hd:RL K (defL d) cs.toList) (hin:d.name∈ks):
  Calls Tryz.prog 58 #[.pointer (some ⟨g,0,none⟩),.agg cs] w fun e w'=>e= .returned (.tuple #[])∧Hp w0 w' K (tbox g ga gd gf go VT VD:: .map gd (y06 (nmap ks))::M):=by
 obtain ⟨A6,c6,A7,c7,A8,c8,A9,c9,A10,c10,A11,c11,A12,c12,A14,c14,hcs,-⟩:=y0c hd;obtain rfl:cs= #[_,_,_,_,_,_,_,_,_,_,_,_,_,_,_,_,_]:=Qal.1 hcs;obtain ⟨i,-,-,hf⟩:=z9g hin;clear hcs hd;go_enter Tryz.func58,Tryz.ntmps58
 go_upto_region 1 with (first|(refine oL H ?_)|(refine oA 3 H ?_;clear H;intro w g3 H)|(refine oP H ?_;clear H;intro w _ H))
 refine rB [] H ?_;clear H;intro w H;refine rT 0 H ?_;refine rT 1 H ?_;refine rT 2 H ?_;refine rT 3 H ?_;refine rT 4 H ?_;refine rT 5 H ?_;refine rT 6 H ?_ (hd:=dlM Tryz.underlying87 Tryz.underlying9 y0j (by rw [hf]));refine rT 7 H ?_;refine rT 8 H ?_;refine rT 9 H ?_;refine rT 10 H ?_;refine rT 11 H ?_;refine rE ?_
 go_wp2_with fail
 refine o0 ?_;exact ⟨rfl,H.fin⟩
def AddD (d:DefD) (ks:List Txt) (g ga gd gf go:Nat) (VT:Value) (xD:List Value) (w0 K:World) (M:List Ent) (e:Ending) (w':World):Prop:=
 ∃K' xs VD',e= .returned (.tuple #[])∧Sat K' K∧Hp w0 w' K' (tbox g ga gd gf go VT VD':: .map gd (y06 (nmap (ks++[d.name]))):: .row 43 17 VD' (ks.length+1) (xD++xs)::M)∧RL K' (defL d) xs
theorem x59 (d:DefD) (cs:Array Value) (ks:List Txt) (g ga gd gf go:Nat) (VT VD:Value) (xD:List Value) (w0 w K:World) (M:List Ent) (H:Hp w0 w K (tbox g ga gd gf go VT VD:: .map gd (y06 (nmap ks)):: .row 43 17 VD ks.length xD::M)) (hd:RL K (defL d) cs.toList) (hin:d.name∉ks) (hm:defN d≤9000000) (hk:ks.length≤9000000):
  Calls Tryz.prog 58 #[.pointer (some ⟨g,0,none⟩),.agg cs] w (AddD d ks g ga gd gf go VT xD w0 K M):=by
 obtain ⟨A6,c6,A7,c7,A8,c8,A9,c9,A10,c10,A11,c11,A12,c12,A14,c14,hcs,-⟩:=y0c hd;obtain rfl:cs= #[_,_,_,_,_,_,_,_,_,_,_,_,_,_,_,_,_]:=Qal.1 hcs;have hf:=z4h hin;have hput:=x3r ks d.name hin;obtain ⟨VA,Vc,rfl,-,-⟩:=H.slice (i:=2) rfl;clear hcs;go_enter Tryz.func58,Tryz.ntmps58
 go_upto_region 1 with (first|(refine oL H ?_)|(refine oA 3 H ?_;clear H;intro w g3 H)|(refine oP H ?_;clear H;intro w _ H))
 refine rB [] H ?_;clear H;intro w H;refine rT 0 H ?_;refine rT 1 H ?_;refine rT 2 H ?_;refine rT 3 H ?_;refine rT 4 H ?_;refine rT 5 H ?_;refine rT 6 H ?_ (hd:=dlM Tryz.underlying87 Tryz.underlying9 y0j (by rw [hf]));refine rT 7 H ?_;refine rT 8 H ?_;refine rT 9 H ?_;refine rT 10 H ?_;refine rT 11 H ?_;refine rE ?_
 go_wp2_with fail
 refine rB [11] H ?_;clear H;intro w H;refine rT 0 H ?_;refine rT 1 H ?_;refine rT 2 H ?_;refine rT 3 H ?_;refine rT 4 H ?_;refine rT 5 H ?_;refine rT 6 H ?_;refine rT 7 H ?_;refine rT 8 H ?_;refine rT 9 H ?_;refine rT 10 H ?_;refine rL 11 H ?_ (hd:=dsM Tryz.underlying87 Tryz.underlying9 hput);clear H;intro w _ H;refine rE ?_
 go_wp2_with fail
 refine rN [.box g3 _ _,.box g _ _] [11] H ?_;clear H;intro w H;refine rT 0 H ?_;refine rT 1 H ?_;refine rT 2 H ?_;refine rT 3 H ?_;refine rT 4 H ?_;refine rT 5 H ?_;refine rC 6 (y8g d _ H hm hd) ?_;clear H;rintro e w ⟨K5,cs5,rfl,hle,H,he⟩;have ho:=he.one;obtain ⟨B6,e6,B7,e7,B8,e8,B9,e9,B10,e10,B11,e11,B12,e12,B14,e14,hcs,-⟩:=y0c he;obtain rfl:cs5= #[_,_,_,_,_,_,_,_,_,_,_,_,_,_,_,_,_]:=Qal.1 hcs;clear hcs;refine rX H ?_;refine rW 7 H ?_;clear H;intro w g7 H;refine rA 8 H ?_ (h1:=ho);clear H;intro A8 c8 w _ _ H;dsimp only [List.set] at H;refine rT 9 H ?_;refine rT 10 H ?_;refine rL 11 H ?_;clear H;intro w _ H;refine rE ?_
 go_wp2_with fail
 refine o0 ?_;exact ⟨K5,_,_,rfl,hle,H.fin,he⟩
end Go.Proofs.YtbpgkkoeehopjaaGreat.hp
namespace Go.Proofs.YtbpgkkoeehopjaaGreat.hp
open Go.RowKit words enc tree gram lex rd dec dat held
section
variable {κ : Type} [DecidableEq κ]
def y00 (kv:κ→Value) (l:List (κ×Value)):List (Value×Value):=l.map fun p=>(kv p.1,p.2)
def y0x (l:List (κ×Value)) (x:κ):Option Value:=(l.find? (fun p=>decide (p.1=x))).map (·.2)
def kidx (l:List (κ×Value)) (x:κ):Option Nat:=l.findIdx? (fun p=>decide (p.1=x))
def kput:List (κ×Value)→κ→Value→List (κ×Value)
 |[],x,v=>[(x,v)]
 |p::r,x,v=>if p.1=x then (x,v)::r else p::kput r x v
theorem z2t {l:List (κ×Value)} {x:κ} {v:Value} (h:y0x l x=none):kput l x v=l++[(x,v)]:=by
 induction l with
 |nil=>rfl
 |cons p r ih=>
  by_cases hp:p.1=x
  ·simp [y0x,hp] at h
  ·have:y0x r x=none:=by simpa [y0x,hp] using h
   rw [kput,if_neg hp,ih this];rfl
structure Keys (P:Program) (kt:TypeId) (kv:κ→Value):Prop where
 find: ∀(w:World) (x:κ) (l:List (κ×Value)),(Instr.findKey kt (kv x) (y2w (y00 kv l))).run P w= .ok ((kidx l x).bind fun k=>(l[k]?).map fun p=>(k,p.2)) w
 check: ∀(w:World) (e:Bool) (x:κ),(Instr.checkKey e 10000 kt (kv x)).run P w= .ok () w
 stays: ∀(x:κ),Instr.sameBits 10000 (kv x) (kv x)=true
section
variable {P : Program} {w : World} {b t kt et : Nat} {l : List (κ × Value)} {kv : κ → Value}
theorem z9h (x:κ): ∀l:List (κ×Value),((kidx l x).bind fun k=>(l[k]?).map fun p=>(k,p.2)).map (·.2)=y0x l x
 |[]=>rfl
 |p::r=>by
  by_cases h:p.1=x
  ·simp [kidx,List.findIdx?_cons,h,y0x]
  ·have:=z9h x r;simp only [kidx,y0x,List.find?_cons,List.findIdx?_cons,h,decide_false,if_false,Bool.false_eq_true] at this ⊢;rw [←this]
   cases hq:r.findIdx? (fun p=>decide (p.1=x)) with
   |none=>simp
   |some k=>simp [Function.comp_def]
theorem y0p (ht:P.underlying t=some (.map kt et)) (hk:Keys P kt kv) (z:Value) (hz:(zeroValue et).run P w= .ok z w) (hb:w.heap[b]?=some (mobj (y00 kv l))) (x:κ) (ok:Bool):
  (Instr.lookup t (.map (some b)) (kv x) ok).run P w= .ok (if ok then .tuple #[(y0x l x).getD z,.bool (y0x l x).isSome] else (y0x l x).getD z) w:=by
 have hf:=hk.find w x l;have hi:=z9h x l;unfold Instr.lookup;simp only [Sem.run_bind,run_underlying ht w,Result.andThen_ok,z2s hb,Sem.run_pure,hk.check,hf]
 cases hq:((kidx l x).bind fun k=>(l[k]?).map fun p=>(k,p.2)) with
 |none=>
  rw [hq] at hi;have hi:y0x l x=none:=hi.symm;simp [hi,hz,Sem.run_bind]
 |some p=>
  rw [hq] at hi;have hi:y0x l x=some p.2:=hi.symm;simp [hi,Sem.run_bind]
theorem x3s (x:κ) (v:Value): ∀(l:List (κ×Value)),match kidx l x with
  |none=>kput l x v=l++[(x,v)]
  |some k=>k<l.length∧kput l x v=l.set k (x,v)∧(l[k]?).map (·.1)=some x
 |[]=>rfl
 |p::r=>by
  by_cases h:p.1=x
  ·simp [kidx,List.findIdx?_cons,h,kput]
  ·have ih:=x3s x v r;simp only [kidx,List.findIdx?_cons,h,decide_false,Bool.false_eq_true,if_false,kput] at ih ⊢
   cases hq:r.findIdx? (fun p=>decide (p.1=x)) with
   |none=>rw [hq] at ih;simp only [Option.map_none] at ih ⊢;simp [ih]
   |some k=>rw [hq] at ih;simp only [Option.map_some] at ih ⊢;exact ⟨by simpa using ih.1,by rw [ih.2.1];rfl,by simpa using ih.2.2⟩
omit [DecidableEq κ] in
theorem x6a (l:List (κ×Value)) (k:Nat) (hk:k<l.length) (p:κ×Value):y2w (y00 kv (l.set k p))=(y2w (y00 kv l)).modify k fun e=>{e with key:=kv p.1,val:=p.2}:=by
 apply Qbz;intro j;simp only [y2w,y00,Qb0,List.getElem?_zipIdx,List.getElem?_modify,List.getElem?_set,List.map_set];by_cases hj:k=j
 ·subst hj;simp [hk]
 ·simp [hj]
theorem z9i (ht:P.underlying t=some (.map kt et)) (hk:Keys P kt kv) (hb:w.heap[b]?=some (mobj (y00 kv l))) (x:κ) (v:Value):
  (Instr.mapUpdate t (.map (some b)) (kv x) v).run P w= .ok () {w with heap:=w.heap.setIfInBounds b (mobj (y00 kv (kput l x v)))}:=by
 have hf:=hk.find w x l;have hi:=x3s x v l;have hs: ∀o',(setObj b o').run P w= .ok () {w with heap:=w.heap.setIfInBounds b o'}:=fun o'=>z5y hb (fun c e f h=>by cases h);unfold Instr.mapUpdate;simp only [Sem.run_bind,run_underlying ht w,Result.andThen_ok,z2s hb,hk.check,hf]
 cases hq:kidx l x with
 |none=>
  rw [hq] at hi;simp only [Option.bind_none];rw [hs,hi];simp [mobj,y00,y2w,List.zipIdx_append]
 |some k=>
  rw [hq] at hi;obtain ⟨hkl,hsp,hkx⟩:=hi;obtain ⟨p,hp⟩: ∃p,l[k]?=some p:=⟨_,Qad hkl⟩
  have hpx:p.1=x:=by simpa [hp] using hkx
  have hes:((y2w (y00 kv l)).toArray[k]?).map (·.key)=some (kv x):=by simp [y2w,y00,hp,hpx]
  have hst:(Instr.keyThatStays (kv x) (kv x)).run P w= .ok (kv x) w:=by
   unfold Instr.keyThatStays;rw [if_pos (hk.stays x)];rfl
  simp only [Option.bind_some,hp,Option.map_some,Sem.run_bind,hes,Option.getD_some,hst,Result.andThen_ok,hs];rw [hsp];have:=x6a (kv:=kv) l k hkl (x,v)
  have hob:Obj.map ((y2w (y00 kv l)).toArray.modify k fun e=>{e with key:=kv x,val:=v}) l.length=mobj (y00 kv (l.set k (x,v))):=by
   unfold mobj;rw [this];simp [y00]
  rw [←hob];simp [y00]
end
theorem z9j {l:List (κ×Value)} {x:κ} {v:Value} (h:y0x l x=some v):(x,v)∈l:=by
 unfold y0x at h
 cases hq:l.find? (fun p=>decide (p.1=x)) with
 |none=>rw [hq] at h;cases h
 |some p=>
  rw [hq] at h;injection h with h;have h1:=List.find?_some hq;have h2:=List.mem_of_find?_eq_some hq;have h1:p.1=x:=Qa6 h1;obtain ⟨a,c⟩:=p;simp only at h1 h;subst h1 h;exact h2
theorem z5z {l:List (κ×Value)} {x:κ} (h:y0x l x=none): ∀p∈l,p.1≠x:=by
 intro p hp he;unfold y0x at h
 cases hq:l.find? (fun p=>decide (p.1=x)) with
 |none=>rw [List.find?_eq_none] at hq;exact hq p hp (Qa5 he)
 |some p=>rw [hq] at h;cases h
end
abbrev ks (x:Txt):Value:=.string (str x)
abbrev kp (p:Txt×Txt):Value:=.agg #[.string (str p.1),.string (str p.2)]
section
variable {P : Program}
theorem y08 {kt:TypeId} (hk:P.underlying kt=some .string):Keys P kt ks:=by
 refine ⟨fun w x l=>?_,fun w e x=>y8o hk e x,fun x=>by simp [Instr.sameBits,str_eq]⟩;have h:=z0p (P:=P) (w:=w) (l:=l) hk x
 have e1:(fun p:Txt×Value=>p.1==x)=fun p=>decide (p.1=x):=by funext p;rw [Bool.eq_iff_iff];simp
 rw [e1] at h;exact h
theorem y11 (a b:Txt):((str a).toList==(str b).toList)=decide (a=b):=by
 rw [←beq_toListBytes,str_eq]
theorem z9k {d:TypeDesc} {k:Value} {e:MapEntry} {r:List MapEntry} {i:Nat} (h:Instr.sameNow d k e.key=none):Instr.findNow d k (e::r) i=none:=by
 unfold Instr.findNow;simp only [h]
structure PairT (P:Program) (kt st:TypeId):Prop where
 ht:P.underlying kt=some (.struct (P.fieldsOf kt))
 held:P.stoodInHeld kt=false
 flds:(P.fieldsOf kt).toList.map (fun f=>(f.type,f.offset,f.name== "_"))=[(st,0,false),(st,1,false)]
 hs:P.underlying st=some .string
theorem q6f {kt st:TypeId} (h:PairT P kt st) (w:World) (x y:Txt×Txt):(Op.equal kt (kp x) (kp y)).run P w= .ok (decide (x=y)) w:=by
 obtain ⟨f,g,hfg⟩: ∃f g,(P.fieldsOf kt).toList=[f,g]:=by
  have:=congrArg List.length h.flds;simp only [Qay,List.length_cons,List.length_nil] at this
  match hq:(P.fieldsOf kt).toList,this with
  |[f,g],_=>exact ⟨f,g,rfl⟩
 have hf:=h.flds;rw [hfg] at hf;simp only [List.map_cons,List.map_nil,List.cons.injEq,Prod.mk.injEq,Qa3,ne_eq,and_true] at hf;obtain ⟨⟨f1,f2,f3⟩,⟨g1,g2,g3⟩⟩:=hf
 have hpart: ∀(cs:Array Value) (j:Nat) (v:Value),cs[j]?=some v→(part st cs j).run P w= .ok v w:=by
  intro cs j v hv;unfold part
  have:(isAgg st).run P w= .ok false w:=by
   unfold isAgg;simp [Sem.run_bind,run_underlying h.hs,Result.andThen_ok]
  simp only [Sem.run_bind,this,Result.andThen_ok,Bool.false_eq_true,if_false,hv,Sem.run_pure]
 unfold Op.equal
 show (Op.equalIn (9999+1) kt (kp x) (kp y)).run P w=_
 rw [run_equalIn_struct w 9999 kt _ _ h.ht h.held,hfg];have p0: ∀a b:Value,(part st #[a,b] 0).run P w= .ok a w:=fun a b=>hpart _ 0 _ rfl;have p1: ∀a b:Value,(part st #[a,b] 1).run P w= .ok b w:=fun a b=>hpart _ 1 _ rfl;simp only [Op.eqFields,f1,f2,f3,g1,g2,g3,ne_eq,not_false_eq_true,if_true,Sem.run_bind,p0,p1,Result.andThen_ok,run_equalIn_string w 9998 st _ _ h.hs,y11];obtain ⟨a,c⟩:=x;obtain ⟨a',c'⟩:=y;by_cases h1:a=a'
 ·by_cases h2:c=c'
  ·simp [h1,h2,Sem.run_pure,Sem.run_bind,p1,run_equalIn_string w 9998 st _ _ h.hs,y11]
  ·simp [h1,h2,Sem.run_pure,Sem.run_bind,p1,run_equalIn_string w 9998 st _ _ h.hs,y11]
 ·simp [h1,Sem.run_pure]
theorem z0r {kt st:TypeId} (h:PairT P kt st):Keys P kt kp:=by
 have hask: ∀(w:World) (x:Txt×Txt) (l:List ((Txt×Txt)×Value)) (j i:Nat),(Instr.findAsking kt (kp x) (((y00 kp l).zipIdx j).map fun p=>({key:=p.1.1,val:=p.1.2,born:=p.2}:MapEntry)) i).run P w= .ok ((kidx l x).bind fun k=>(l[k]?).map fun p=>(i+k,p.2)) w:=by
  intro w x l
  induction l with
  |nil=>intro j i;rfl
  |cons p r ih=>
   intro j i;simp only [y00,List.map_cons,List.zipIdx_cons,Instr.findAsking,Sem.run_bind,q6f h,Result.andThen_ok];by_cases hx:p.1=x
   ·simp [kidx,List.findIdx?_cons,hx,Sem.run_pure]
   ·have hx': ¬x=p.1:=fun e=>hx e.symm;have:=ih (j+1) (i+1);simp only [y00] at this;simp only [hx',decide_false,Bool.false_eq_true,if_false,this,kidx,List.findIdx?_cons,hx]
    cases hq:r.findIdx? (fun p=>decide (p.1=x)) with
    |none=>simp
    |some k=>simp [Nat.add_comm,Nat.add_left_comm,Nat.add_assoc]
 refine ⟨fun w x l=>?_,fun w e x=>?_,fun x=>by simp [Instr.sameBits,kp,str_eq]⟩
 ·have ha:=hask w x l 0 0;unfold Instr.findKey y2w;rw [Sem.run_bind,run_underlying h.ht w];simp only [Result.andThen_ok]
  cases l with
  |nil=>rfl
  |cons p r=>
   have hn:Instr.findNow (.struct (P.fieldsOf kt)) (kp x) (((y00 kp (p::r)).zipIdx 0).map fun p=>({key:=p.1.1,val:=p.1.2,born:=p.2}:MapEntry)) 0=none:=by
    simp only [y00,List.map_cons,List.zipIdx_cons];exact z9k rfl
   simp only [Nat.zero_add] at ha;rw [hn];exact ha
 ·obtain ⟨f,g,hfg⟩: ∃f g,(P.fieldsOf kt).toList=[f,g]:=by
   have:=congrArg List.length h.flds;simp only [Qay,List.length_cons,List.length_nil] at this
   match hq:(P.fieldsOf kt).toList,this with
   |[f,g],_=>exact ⟨f,g,rfl⟩
  have hf:=h.flds;rw [hfg] at hf;simp only [List.map_cons,List.map_nil,List.cons.injEq,Prod.mk.injEq,Qa3,ne_eq,and_true] at hf;obtain ⟨⟨f1,f2,f3⟩,⟨g1,g2,g3⟩⟩:=hf
  have hpart: ∀(cs:Array Value) (j:Nat) (v:Value),cs[j]?=some v→(part st cs j).run P w= .ok v w:=by
   intro cs j v hv;unfold part
   have:(isAgg st).run P w= .ok false w:=by
    unfold isAgg;simp [Sem.run_bind,run_underlying h.hs,Result.andThen_ok]
   simp only [Sem.run_bind,this,Result.andThen_ok,Bool.false_eq_true,if_false,hv,Sem.run_pure]
  have hck: ∀(n:Nat) (v:ByteArray),(Instr.checkKey e (n+1) st (.string v)).run P w= .ok () w:=by
   intro n v;unfold Instr.checkKey;rw [Sem.run_bind,run_underlying h.hs w];rfl
  show (Instr.checkKey e (9999+1) kt (kp x)).run P w=_
  unfold Instr.checkKey;rw [Sem.run_bind,run_underlying h.ht w];simp only [Result.andThen_ok,kp];rw [←Array.forIn_toList,hfg];have p0: ∀a b:Value,(part st #[a,b] 0).run P w= .ok a w:=fun a b=>hpart _ 0 _ rfl;have p1: ∀a b:Value,(part st #[a,b] 1).run P w= .ok b w:=fun a b=>hpart _ 1 _ rfl;simp [f1,f2,f3,g1,g2,g3,Sem.run_bind,p0,p1,hck 9998,Sem.run_pure]
end
theorem z7j:PairT Tryz.prog 125 9:=⟨by kernel_rfl,by kernel_rfl,by kernel_rfl,Tryz.underlying9⟩
def Kb (K:World) (g:Nat) (cs:List Value) (t:TypeId):Prop:=K.heap[g]?=some (.cells cs.toArray t (0,0))
def Km (K:World) (b:Nat) (l:List (Value×Value)):Prop:=K.heap[b]?=some (mobj l)
section
variable {P : Program} {w0 w K K' : World} {M : List Ent} {ops : Array Oper} {rest : List Oper} {o : Oper} {a : Act} {Q : Exit → Act → World → Prop} {i b t kt et : Nat}
theorem Kb.sat {g:Nat} {cs:List Value} {t:TypeId} (h:Kb K g cs t) (hs:Sat w K):Kb w g cs t:=hs.blk _ _ h x20
theorem Km.sat {l:List (Value×Value)} (h:Km K b l) (hs:Sat w K):Km w b l:=hs.blk _ _ h (fun e=>by cases e)
theorem Kb.cell {g j:Nat} {cs:List Value} {t:TypeId} {v:Value} (h:Kb w g cs t) (hj:cs[j]?=some v):w.cell? ⟨g,j,none⟩=some v:=by
 have h:w.heap[g]?=some (.cells cs.toArray t (0,0)):=h;unfold World.cell?;simp only [h,Option.isSome_none,Bool.false_eq_true,if_false];simpa using hj
theorem Hp.kcell (H:Hp w0 w K M) {g j:Nat} {cs:List Value} {t:TypeId} {v:Value} (h:Kb K g cs t) (hj:cs[j]?=some v):w.cell? ⟨g,j,none⟩=some v:=(h.sat H.sat).cell hj
theorem Hp.kmap (H:Hp w0 w K M) {l:List (Value×Value)} (h:Km K b l):w.heap[b]?=some (mobj l):=h.sat H.sat
theorem Hp.freezeKb {g:Nat} {cs:List Value} {t:TypeId} (H:Hp w0 w K (.box g cs t::M)): ∃K',Sat K' K∧Hp w0 w K' M∧Kb K' g cs t:=by
 obtain ⟨K',h1,h2,h3,h4⟩:=H.freeze;exact ⟨K',h1,h2,(h3 g rfl).trans (H.blkAt (i:=0) rfl)⟩
theorem Hp.freezeKm {l:List (Value×Value)} (H:Hp w0 w K (.map b l::M)): ∃K',Sat K' K∧Hp w0 w K' M∧Km K' b l:=by
 obtain ⟨K',h1,h2,h3,h4⟩:=H.freeze;exact ⟨K',h1,h2,(h3 b rfl).trans (H.mapAt (i:=0) rfl)⟩
section
variable {κ : Type} [DecidableEq κ] {kv : κ → Value}
theorem y1a (hgd:o.guard=none) (m x:Operand) (t:TypeId) (c:Bool) (ho:o.op= .lookup t m x c) (ht:P.underlying t=some (.map kt et)) (hk:Keys P kt kv) (z:Value) (hz: ∀w,(zeroValue et).run P w= .ok z w)
  (b:Nat) (l:List (κ×Value)) (hb:w.heap[b]?=some (mobj (y00 kv l))) (hm:a.eval m= .map (some b)) (k:κ) (hx:a.eval x=kv k) (r:Value) (hr:(if c then .tuple #[(y0x l k).getD z,.bool (y0x l k).isSome] else (y0x l k).getD z)=r)
  (h:wpList P ops Q rest (a.put o.dst r) w):wpList P ops Q (o::rest) a w:=by
 refine wpList_plain hgd fun _ hK=>?_;have hrun:=y0p (w:=w) ht hk z (hz w) hb k c;rw [hr] at hrun;unfold Oper.wp execOp;simp only [ho,hm,hx,Sem.run_bind,hrun,Result.andThen_ok,Sem.run_pure];exact hK _ _ h
theorem y8p (hgd:o.guard=none) (m x y:Operand) (t:TypeId) (ho:o.op= .mapUpdate t m x y) (ht:P.underlying t=some (.map kt et)) (hk:Keys P kt kv)
  (H:Hp w0 w K M) (i:Nat) (b:Nat) (l:List (κ×Value)) (hi:M[i]?=some (.map b (y00 kv l))) (hm:a.eval m= .map (some b)) (k:κ) (hx:a.eval x=kv k) (v:Value) (hy:a.eval y=v) (l':List (κ×Value)) (hl:kput l k v=l')
  (h: ∀w',Hp w0 w' K (M.set i (.map b (y00 kv l')))→wpList P ops Q rest (a.put o.dst undef) w'):wpList P ops Q (o::rest) a w:=by
 refine wpList_plain hgd fun _ hK=>?_;have hrun:=z9i (w:=w) ht hk (H.mapAt hi) k v;rw [hl] at hrun;unfold Oper.wp execOp;simp only [ho,hm,hx,hy,Sem.run_bind,hrun,Result.andThen_ok,Sem.run_pure];exact hK _ _ (h _ (H.mapSet hi _))
end
theorem y4c (hgd:o.guard=none) (t:TypeId) (ho:o.op= .makeMap t none) (dst:Option Tmp) (hdst:o.dst=dst) (H:Hp w0 w K M)
  (h: ∀w' b,Hp w0 w' K (.map b []::M)→wpList P ops Q rest (a.put dst (.map (some b))) w'):wpList P ops Q (o::rest) a w:=by
 subst hdst;refine wpList_plain hgd fun _ hK=>?_
 have hrun:(Instr.makeMap t none).run P w= .ok (.map (some w.heap.size)) (w.alloc (.map #[] 0)):=by
  simp [Instr.makeMap,newObj];rfl
 unfold Oper.wp execOp;simp only [ho,Sem.run_bind,hrun,Result.andThen_ok,Sem.run_pure];exact hK _ _ (h _ _ H.allocMap)
end
end Go.Proofs.YtbpgkkoeehopjaaGreat.hp
namespace Go.Proofs.YtbpgkkoeehopjaaGreat.ty
open Go.RowKit lex gram dat hp
abbrev y0a (l:List DefD):List Txt:=l.map (·.name)
def addD (l:List DefD) (d:DefD):List DefD:=if d.name∈y0a l then l else l++[d]
abbrev IsTy (d:DefD):Prop:=2≤d.kind∧d.kind≤7∧d.ext=false
def step1 (p:List DefD×List DefD) (d:DefD):List DefD×List DefD:=
 if d.kind=8 then (p.1,if d.name∈y0a givenDirsD then p.2 else addD p.2 d)
 else if IsTy d then (if d.name∈y0a givenT then p.1 else addD p.1 d,p.2) else p
def y1k (l:List DefD) (x:Txt):Option Nat:=(y0a l).findIdx? (· ==x)
def step2 (l:List DefD) (d:DefD):List DefD:=
 match y1k l d.name with
 |none=>l
 |some i=>match l[i]? with
  |none=>l
  |some e=>if d.ext=true∧d.kind=e.kind∧d.kind≠1∧d.name∉y0a givenT then l.set i (y0z e d) else l
def bare (defs:List DefD):List DefD×List DefD:=defs.foldl step1 ([],[])
def y32 (defs:List DefD):List DefD:=givenT.foldl addD (bare defs).1
def y33 (defs:List DefD):List DefD:=givenDirsD.foldl addD (bare defs).2
def y02 (defs:List DefD):List DefD:=defs.foldl step2 (y32 defs)
def y0l (l:List DefD) (x:Txt):Int:=(((y1k l x).bind fun i=>l[i]?).map (·.kind)).getD 0
def y3k:DefD:={kind:=1,ext:=false,note:=y2v,name:=[],ifaces:=[],dirs:=[],fields:=[],inputs:=[],members:=[],values:=[],roots:=[],rep:=false,places:=[],line:=0,col:=0}
def y4q:Txt:=[81,117,101,114,121]
def x94:Txt:=[77,117,116,97,116,105,111,110]
def z7k:Txt:=[83,117,98,115,99,114,105,112,116,105,111,110]
def rootN:List Txt:=[y4q,x94,z7k]
def y5j (ts:List DefD):List RootD:=(rootN.zipIdx.filter fun p=>y0l ts p.1==3).map fun p=>⟨1+(p.2:Int),p.1,0,0⟩
def y1h (d:DefD):Bool:=d.kind==1&& !d.ext
def y4d (s d:DefD):DefD:=if d.kind=1∧d.ext=true then {s with dirs:=s.dirs++d.dirs,roots:=s.roots++d.roots} else s
def y27 (defs ts:List DefD):DefD:=
 match defs.find? y1h with
 |none=>{y3k with roots:=y5j ts}
 |some d=>defs.foldl y4d d
abbrev FMap:=List ((Txt×Txt)×Value)
def addF (m:FMap) (t f:Txt) (k:Nat):FMap:=if (y0x m (t,f)).isSome then m else m++[((t,f),.int .i64 (k:Int))]
def z9l (m:FMap) (d:DefD):FMap:=d.fields.zipIdx.foldl (fun m p=>addF m d.name p.1.name p.2) m
def fieldsOf (ts:List DefD):FMap:=ts.foldl z9l []
abbrev OMap:=List (Txt×List (Txt×Value))
def z0s (s:List (Txt×Value)) (x:Txt) (n:Nat):List (Txt×Value):=if (y0x s x).isSome then s else s++[(x,.int .i64 (n:Int))]
def addO:OMap→Txt→Txt→Nat→OMap
 |[],t,x,n=>[(t,[(x,.int .i64 (n:Int))])]
 |p::r,t,x,n=>if p.1=t then (t,z0s p.2 x n)::r else p::addO r t x n
def y50 (ts:List DefD) (m:OMap) (p:DefD×Nat):OMap:=
 if p.1.kind=3 then p.1.ifaces.foldl (fun m n=>if y0l ts n.name=4 then addO m n.name p.1.name p.2 else m) (addO m p.1.name p.1.name p.2)
 else if p.1.kind=5 then p.1.members.zipIdx.foldl (fun m q=>if y0l ts q.1.name=3 then addO m p.1.name q.1.name q.2 else m) m
 else m
def z4i (ts:List DefD):OMap:=ts.zipIdx.foldl (y50 ts) []
theorem z51 {l:List DefD} {i:Nat} {e e':DefD} (h:l[i]?=some e) (hn:e'.name=e.name):y0a (l.set i e')=y0a l:=by
 apply Qbz;intro j;simp only [y0a,Qb0,List.getElem?_set];by_cases hj:i=j
 ·subst hj;have hlt:=(Qac.1 h).1;rw [if_pos rfl,if_pos hlt,h];simp [hn]
 ·rw [if_neg hj]
theorem y8q {l:List DefD} {d:DefD} (h:(y0a l).Nodup):(y0a (addD l d)).Nodup:=by
 unfold addD;split
 ·exact h
 ·rename_i hn;simp only [y0a,Qas,List.map_cons,List.map_nil];rw [Qbr];refine ⟨h,by simp,?_⟩;intro a ha b hb he;simp only [Qax] at hb;subst hb he;exact hn ha
theorem y1p {l:List DefD} {x:Txt} {i:Nat} (h:y1k l x=some i): ∃d,l[i]?=some d∧d.name=x:=by
 unfold y1k at h;rw [Qbs] at h;obtain ⟨hi,h1,_⟩:=h
 have hi':i<l.length:=by simpa using hi
 exact ⟨l[i],Qad hi',by simpa using h1⟩
theorem y6f {l:List DefD} {x:Txt} (h:y1k l x=none):x∉y0a l:=by
 unfold y1k at h;rw [List.findIdx?_eq_none_iff] at h;intro hx;have:=h x hx;simp at this
theorem z4j {l:List DefD} {d:DefD}:y0a (step2 l d)=y0a l:=by
 unfold step2;split
 ·rfl
 ·split
  ·rfl
  ·split
   ·rename_i he _;exact z51 he rfl
   ·rfl
theorem x95 {α:Type} {f:α→Nat}: ∀{l:List α} {i:Nat} {e:α} (e':α),l[i]?=some e→sumN f (l.set i e')+f e=sumN f l+f e'
 |[],i,e,e',h=>by simp at h
 |x::r,0,e,e',h=>by simp only [List.getElem?_cons_zero] at h;injection h with h;subst h;simp only [List.set_cons_zero,sumN];omega
 |x::r,i+1,e,e',h=>by simp only [List.getElem?_cons_succ] at h;have:=x95 (f:=f) e' h;simp only [List.set_cons_succ,sumN];omega
theorem z0t {α:Type} {f:α→Nat} (l:List α) (k:Nat):sumN f (l.take k)≤sumN f l:=by
 have:=y7t (f:=f) (l.take k) (l.drop k);rw [List.take_append_drop] at this;omega
theorem z7l (e d:DefD):defN (y0z e d)≤defN e+defN d:=by
 simp only [defN,y0z,y7t,Qae];omega
theorem z2e (l:List DefD) (d:DefD):y0e (addD l d)≤y0e l+defN d:=by
 unfold addD;split
 ·omega
 ·unfold y0e;rw [y7t];simp only [sumN];omega
theorem x96 (l:List DefD) (d:DefD):y0e (step2 l d)≤y0e l+defN d:=by
 unfold step2;split
 ·omega
 ·split
  ·omega
  ·split
   ·rename_i e he _;have h1:=x95 (f:=defN) (y0z e d) he;have h2:=z7l e d;unfold y0e;omega
   ·omega
theorem y9v {f:List DefD→DefD→List DefD} (h: ∀l d,y0e (f l d)≤y0e l+defN d): ∀(l s:List DefD),y0e (l.foldl f s)≤y0e s+y0e l
 |[],s=>by simp [y0e,sumN]
 |d::r,s=>by
  have h1:=y9v h r (f s d);have h2:=h s d;simp only [List.foldl_cons,y0e,sumN] at h1 h2 ⊢;omega
theorem z9m: ∀(l:List DefD) (p:List DefD×List DefD),y0e (l.foldl step1 p).1≤y0e p.1+y0e l∧y0e (l.foldl step1 p).2≤y0e p.2+y0e l
 |[],p=>by simp [y0e,sumN]
 |d::r,p=>by
  have h1:=z9m r (step1 p d)
  have h2:y0e (step1 p d).1≤y0e p.1+defN d∧y0e (step1 p d).2≤y0e p.2+defN d:=by
   have a1:=z2e p.1 d;have a2:=z2e p.2 d;unfold step1;split
   ·dsimp only;split<;>omega
   ·split
    ·dsimp only;split<;>omega
    ·omega
  simp only [List.foldl_cons,y0e,sumN] at h1 h2 ⊢;omega
theorem y45 {α β:Type} {Q:β→Prop} {f:β→α→β} (h: ∀b a,Q b→Q (f b a)): ∀(l:List α) (b:β),Q b→Q (l.foldl f b)
 |[],b,hb=>hb
 |a::r,b,hb=>y45 h r (f b a) (h b a hb)
theorem y8r (l:List DefD):(y0a (bare l).1).Nodup∧(y0a (bare l).2).Nodup:=by
 refine y45 (Q:=fun p:List DefD×List DefD=>(y0a p.1).Nodup∧(y0a p.2).Nodup) ?_ l ([],[]) ⟨List.nodup_nil,List.nodup_nil⟩;intro p d h;have a1:=y8q (d:=d) h.1;have a2:=y8q (d:=d) h.2;unfold step1;split
 ·dsimp only;split
  ·exact h
  ·exact ⟨h.1,a2⟩
 ·split
  ·dsimp only;split
   ·exact h
   ·exact ⟨a1,h.2⟩
  ·exact h
theorem z2f (l:List DefD):(y0a (y32 l)).Nodup:=y45 (Q:=fun p:List DefD=>(y0a p).Nodup) (fun p d h=>y8q h) givenT _ (y8r l).1
theorem x6b (l:List DefD):(y0a (y33 l)).Nodup:=y45 (Q:=fun p:List DefD=>(y0a p).Nodup) (fun p d h=>y8q h) givenDirsD _ (y8r l).2
theorem z4k: ∀(l s:List DefD),y0a (l.foldl step2 s)=y0a s
 |[],s=>rfl
 |d::r,s=>by rw [List.foldl_cons,z4k r,z4j]
theorem x1x (l:List DefD):y0a (y02 l)=y0a (y32 l):=z4k l _
theorem y9w (l:List DefD):(y0a (y02 l)).Nodup:=by rw [x1x];exact z2f l
theorem q6g (l:List DefD):y0e (y02 l)≤2*y0e l+y0e givenT:=by
 have h1:=y9v x96 l (y32 l);have h2:=y9v z2e givenT (bare l).1;have h3:=(z9m l ([],[])).1;simp only [y02,y32,bare,y0e,sumN] at h1 h2 h3 ⊢;omega
theorem q8f (l:List DefD):y0e (y33 l)≤y0e l+y0e givenDirsD:=by
 have h2:=y9v z2e givenDirsD (bare l).2;have h3:=(z9m l ([],[])).2;simp only [y33,bare,y0e,sumN] at h2 h3 ⊢;omega
theorem x97 (s d:DefD):defN (y4d s d)≤defN s+defN d:=by
 unfold y4d;split
 ·simp only [defN,y7t,Qae];omega
 ·omega
theorem z4l: ∀(l:List DefD) (s:DefD),defN (l.foldl y4d s)≤defN s+y0e l
 |[],s=>by simp [y0e,sumN]
 |d::r,s=>by
  have h1:=z4l r (y4d s d);have h2:=x97 s d;simp only [List.foldl_cons,y0e,sumN] at h1 ⊢;omega
theorem y3w {α β:Type} {Q:β→Prop} {f:β→α→β}: ∀(l:List α) (b:β),(∀b a,a∈l→Q b→Q (f b a))→Q b→Q (l.foldl f b)
 |[],b,_,hb=>hb
 |a::r,b,h,hb=>y3w r (f b a) (fun b' a' ha=>h b' a' (Qa2 _ ha)) (h b a (Qaz ..) hb)
theorem z1j {α:Type} {l:List α} {p:α×Nat} (h:p∈l.zipIdx):l[p.2]?=some p.1:=by
 rw [Qb1] at h;exact h
def FOk (ts:List DefD) (m:FMap):Prop:=∀p∈m,∃(i:Nat) (d:DefD) (k:Nat) (f:FieldD),ts[i]?=some d∧d.name=p.1.1∧d.fields[k]?=some f∧f.name=p.1.2∧p.2= .int .i64 ((k:Nat):Int)
theorem q6h {ts:List DefD} {m:FMap} {i k:Nat} {d:DefD} {f:FieldD} (h:FOk ts m) (hd:ts[i]?=some d) (hf:d.fields[k]?=some f):FOk ts (addF m d.name f.name k):=by
 unfold addF;split
 ·exact h
 ·intro p hp;rcases Qbf.1 hp with hp|hp
  ·exact h p hp
  ·obtain rfl:=Qax.1 hp;exact ⟨i,d,k,f,hd,rfl,hf,rfl,rfl⟩
theorem x1y (ts:List DefD):FOk ts (fieldsOf ts):=by
 refine y3w (Q:=FOk ts) ts [] ?_ (fun _ h=>by cases h);intro m d hd h;obtain ⟨i,hi⟩:=Qbp.1 hd;refine y3w (Q:=FOk ts) d.fields.zipIdx m ?_ h;intro m p hp h;exact q6h h hi (z1j hp)
theorem z0u {ts:List DefD} {i:Nat} {d:DefD} (hn:(y0a ts).Nodup) (h:ts[i]?=some d):y1k ts d.name=some i:=by
 unfold y1k
 have hi:i<(y0a ts).length:=by have:=(Qac.1 h).1;simpa using this
 have hx:(y0a ts)[i]=d.name:=by
  have h2:(y0a ts)[i]?=some d.name:=by simp [y0a,h]
  rw [Qad hi] at h2;injection h2
 rw [Qbs];refine ⟨hi,by simp [hx],?_⟩;intro j hj;have hne:(y0a ts)[j]≠(y0a ts)[i]:=List.pairwise_iff_getElem.1 hn j i (by omega) hi hj;rw [hx] at hne;simpa using hne
theorem z7m {ts:List DefD} {m:FMap} (hn:(y0a ts).Nodup) (h:FOk ts m) {t f:Txt} {v:Value} (hv:y0x m (t,f)=some v): ∃(i:Nat) (d:DefD) (k:Nat) (fd:FieldD),y1k ts t=some i∧ts[i]?=some d∧d.fields[k]?=some fd∧fd.name=f∧v= .int .i64 ((k:Nat):Int):=by
 obtain ⟨i,d,k,fd,h1,h2,h3,h4,h5⟩:=h _ (z9j hv);simp only at h2 h4 h5;subst h2;exact ⟨i,d,k,fd,z0u hn h1,h1,h3,h4,h5⟩
theorem x98 {ts:List DefD} {i:Nat} {d:DefD} (hn:(y0a ts).Nodup) (h:ts[i]?=some d):y0l ts d.name=d.kind:=by
 simp [y0l,z0u hn h,h]
theorem y9x {ts:List DefD} {i:Nat} {x:Txt} {d:DefD} (h:y1k ts x=some i) (hd:ts[i]?=some d):y0l ts x=d.kind:=by
 simp [y0l,h,hd]
theorem y9y {ts:List DefD} {x:Txt} (h:y1k ts x=none):y0l ts x=0:=by
 simp [y0l,h]
def nmAt (ts:List DefD) (t:Txt) (n:Nat):Option Txt:=
 if y0l ts t=5 then (((y1k ts t).bind fun i=>ts[i]?).bind fun d=>d.members[n]?).map (·.name) else (ts[n]?).map (·.name)
def SOk (f:Nat→Option Txt) (s:List (Txt×Value)):Prop:=(s.map (·.1)).Nodup∧ ∀q∈s,∃n:Nat,q.2= .int .i64 (n:Int)∧f n=some q.1
def OOk (ts:List DefD) (om:OMap):Prop:=∀p∈om,SOk (nmAt ts p.1) p.2
theorem x99 {f:Nat→Option Txt} {s:List (Txt×Value)} {x:Txt} {n:Nat} (h:SOk f s) (hx:f n=some x):SOk f (z0s s x n):=by
 unfold z0s;split
 ·exact h
 ·rename_i hs
  have hs:y0x s x=none:=by simpa using hs
  refine ⟨?_,?_⟩
  ·rw [Qas,Qbr];refine ⟨h.1,by simp,?_⟩;intro a ha b hb he;simp only [List.map_cons,List.map_nil,Qax] at hb;subst hb he;obtain ⟨p,hp,rfl⟩:=Qbe.1 ha;exact z5z hs p hp rfl
  ·intro q hq;rcases Qbf.1 hq with hq|hq
   ·exact h.2 q hq
   ·obtain rfl:=Qax.1 hq;exact ⟨n,rfl,hx⟩
theorem z7n {ts:List DefD}: ∀{om:OMap} {t x:Txt} {n:Nat},OOk ts om→nmAt ts t n=some x→OOk ts (addO om t x n)
 |[],t,x,n,_,hx=>by
  intro p hp;obtain rfl:=Qax.1 hp;exact ⟨by simp,fun q hq=>by obtain rfl:=Qax.1 hq;exact ⟨n,rfl,hx⟩⟩
 |p::r,t,x,n,h,hx=>by
  unfold addO;split
  ·rename_i hp;intro q hq;rcases Qbd.1 hq with rfl|hq
   ·have:=h p (Qaz ..);rw [hp] at this;exact x99 this hx
   ·exact h q (Qa2 _ hq)
  ·intro q hq;rcases Qbd.1 hq with rfl|hq
   ·exact h _ (Qaz ..)
   ·exact z7n (fun a ha=>h a (Qa2 _ ha)) hx q hq
theorem z9n {ts:List DefD} (hn:(y0a ts).Nodup):OOk ts (z4i ts):=by
 refine y3w (Q:=OOk ts) ts.zipIdx [] ?_ (fun _ h=>by cases h);rintro m ⟨d,i⟩ hd h;have hd:ts[i]?=some d:=z1j hd;have hk:=x98 hn hd
 have hi: ∀t,y0l ts t≠5→nmAt ts t i=some d.name:=fun t ht=>by simp [nmAt,ht,hd]
 unfold y50;dsimp only;split
 ·rename_i h3;refine y3w (Q:=OOk ts) d.ifaces _ ?_ (z7n h (hi _ (by omega)));intro m n _ hm;split
  ·exact z7n hm (hi _ (by omega))
  ·exact hm
 ·split
  ·rename_i h5;refine y3w (Q:=OOk ts) d.members.zipIdx m ?_ h;rintro m ⟨n,k⟩ hnk hm;have hnk:d.members[k]?=some n:=z1j hnk;dsimp only;split
   ·refine z7n hm ?_;simp [nmAt,hk,h5,z0u hn hd,hd,hnk]
   ·exact hm
  ·exact h
def y62 (om:OMap) (t:Txt):List (Txt×Value):=((om.find? (fun p=>decide (p.1=t))).map (·.2)).getD []
theorem q3o {ts:List DefD} {om:OMap} (h:OOk ts om) (t:Txt):SOk (nmAt ts t) (y62 om t):=by
 unfold y62
 cases hq:om.find? (fun p=>decide (p.1=t)) with
 |none=>exact ⟨List.nodup_nil,fun _ h=>by cases h⟩
 |some p=>
  have h1:=List.find?_some hq;have h1:p.1=t:=Qa6 h1;have:=h p (List.mem_of_find?_eq_some hq);rw [h1] at this;exact this
theorem q6i {ts:List DefD} {t x:Txt} {n:Nat} (h:nmAt ts t n=some x):n<ts.length∨ ∃d∈ts,n<d.members.length:=by
 unfold nmAt at h;split at h
 ·right
  cases hi:y1k ts t with
  |none=>simp [hi] at h
  |some i=>
   cases hd:ts[i]? with
   |none=>simp [hi,hd] at h
   |some d=>
    refine ⟨d,Qaf hd,?_⟩;rcases Qbm n d.members.length with hl|hl
    ·exact hl
    ·simp [hi,hd,Qbg hl] at h
 ·left;rcases Qbm n ts.length with hl|hl
  ·exact hl
  ·simp [Qbg hl] at h
def z7o (s:List (Txt×Value)) (x:Txt):Int:=match y0x s x with|some (.int .i64 n)=>n|_=>0
theorem x3t {f:Nat→Option Txt} {s:List (Txt×Value)} (h:SOk f s) (x:Txt):(y0x s x=none∧ ∀p∈s,p.1≠x)∨ ∃n:Nat,y0x s x=some (.int .i64 (n:Int))∧f n=some x∧(x,.int .i64 (n:Int))∈s:=by
 cases hq:y0x s x with
 |none=>exact .inl ⟨rfl,z5z hq⟩
 |some v=>
  have hm:=z9j hq;obtain ⟨n,h1,h2⟩:=h.2 _ hm;simp only at h1 h2;subst h1;exact .inr ⟨n,rfl,h2,hm⟩
theorem q0a {f:Nat→Option Txt} {s:List (Txt×Value)} (h:SOk f s) (x:Txt):(y0x s x).getD (.int .i64 0)= .int .i64 (z7o s x):=by
 unfold z7o
 rcases x3t h x with ⟨h1,_⟩|⟨n,h1,_⟩<;>rw [h1]<;>rfl
theorem q3p {α:Type} {l:List α} {k:Nat} {x:α} (hx:l[k]?=some x):(l.take (k+1)).zipIdx=(l.take k).zipIdx++[(x,k)]:=by
 have hk:=(Qac.1 hx).1
 have h1:l.take (k+1)=l.take k++[x]:=by rw [List.take_add_one,hx];rfl
 have h2:(l.take k).length=k:=by rw [Qau];omega
 rw [h1,List.zipIdx_append,h2];simp
theorem y5k {α β:Type} {l:List α} {k:Nat} {x:α} (hx:l[k]?=some x) (f:β→α→β) (b:β):(l.take (k+1)).foldl f b=f ((l.take k).foldl f b) x:=by
 have h1:l.take (k+1)=l.take k++[x]:=by rw [List.take_add_one,hx];rfl
 rw [h1,List.foldl_append];rfl
theorem y63 {α β:Type} {l:List α} {k:Nat} {x:α} (hx:l[k]?=some x) (f:β→α×Nat→β) (b:β):(l.take (k+1)).zipIdx.foldl f b=f ((l.take k).zipIdx.foldl f b) (x,k):=by
 rw [q3p hx,List.foldl_append];rfl
theorem y3h {ts:List DefD} {i:Nat} {d:DefD} (h:ts[i]?=some d):defN d≤y0e ts:=by
 have h1:ts=ts.take i++d::ts.drop (i+1):=by
  obtain ⟨hi,rfl⟩:=Qac.1 h;simp
 rw [h1];unfold y0e;rw [y7t];simp only [sumN];omega
theorem z54 (d:DefD):d.members.length≤defN d:=by unfold defN;omega
theorem z4m (d:DefD):d.ifaces.length≤defN d:=by unfold defN;omega
theorem q0b (d:DefD):d.fields.length≤defN d:=by have:=y0o y2b d.fields;unfold defN;omega
theorem q0c {ts:List DefD} {t x:Txt} {n:Nat} (h:nmAt ts t n=some x):n<y0e ts:=by
 have hl:ts.length≤y0e ts:=y0o y2g ts;rcases q6i h with h|⟨d,hd,h⟩
 ·omega
 ·obtain ⟨i,hi⟩:=Qbp.1 hd;have:=y3h hi;have:=z54 d;omega
open rd tree
def q84 (t:Txt) (d:DefD):Bool:=(d.kind==3)&&d.ifaces.any fun n=>decide (n.name=t)
def z2k (ts:List DefD) (t:Txt):Option DefD:=(y1k ts t).bind fun i=>ts[i]?
def memS (ts:List DefD) (ms:List NamedD) (s:List (Txt×Value)):List (Txt×Value):=ms.zipIdx.foldl (fun s q=>if y0l ts q.1.name=3 then z0s s q.1.name q.2 else s) s
def setL (ts:List DefD) (t:Txt):List (Txt×Value):=
 if y0l ts t=3 then [(t,.int .i64 (((y1k ts t).getD 0:Nat):Int))]
 else if y0l ts t=4 then (ts.zipIdx.filter fun p=>q84 t p.1).map fun p=>(p.1.name,.int .i64 ((p.2:Nat):Int))
 else if y0l ts t=5 then memS ts (((z2k ts t).map (·.members)).getD []) []
 else []
theorem q3q {ts:List DefD} (hn:(y0a ts).Nodup) {i j:Nat} {d e:DefD} (hd:ts[i]?=some d) (he:ts[j]?=some e) (h:d.name=e.name):i=j:=by
 have h1:=z0u hn hd;have h2:=z0u hn he;rw [h,h2] at h1;injection h1 with h1;exact h1.symm
end Go.Proofs.YtbpgkkoeehopjaaGreat.ty
namespace Go.Proofs.YtbpgkkoeehopjaaGreat.hp
open Go.RowKit words enc tree gram lex rd dec dat held
section
variable {P : Program} {w0 w w' K K' : World} {M : List Ent} {ops : Array Oper} {rest : List Oper} {o : Oper} {a : Act} {Q : Exit → Act → World → Prop} {i : Nat}
theorem y3l (g j:Nat):(⟨g,0,none⟩:Addr).add j=⟨g,j,none⟩:=by unfold Addr.add;split<;>simp_all
theorem Hp.rowAt (H:Hp w0 w K M) {e:TypeId} {m n:Nat} {v:Value} {vs:List Value} (hi:M[i]?=some (.row e m v n vs)) (hne:0<n):
  ∃g c,v= .slice (some ⟨g,0,none⟩) n c∧n≤c∧c≤maxLen∧vs.length=n*m:=by
 have ho:w.ownsRow 0 e m v n vs:=H.ok _ (Qaf hi);rcases ho.2 with ⟨_,h⟩|⟨g,c,cur,rfl,_,hb,h1,h2,h3,h4⟩
 ·omega
 ·exact ⟨g,c,rfl,h1,h2,ho.1⟩
theorem Hp.rowCell (H:Hp w0 w K M) {e:TypeId} {m n g c:Nat} {vs:List Value} (hi:M[i]?=some (.row e m (.slice (some ⟨g,0,none⟩) n c) n vs)) {j:Nat} {u:Value} (hu:vs[j]?=some u):w.cell? ⟨g,j,none⟩=some u:=by
 have ho:w.ownsRow 0 e m _ n vs:=H.ok _ (Qaf hi);have:=World.ownsRow.cells ho (g:=g) rfl j u hu;rwa [y3l] at this
theorem Hp.rowFrozen (H:Hp w0 w K M) {e:TypeId} {m n g c:Nat} {vs:List Value} (hi:M[i]?=some (.row e m (.slice (some ⟨g,0,none⟩) n c) n vs)) (j:Nat):w.frozen? ⟨g,j,none⟩=false:=by
 have ho:w.ownsRow 0 e m _ n vs:=H.ok _ (Qaf hi);rcases ho.2 with ⟨h,_⟩|⟨g',c',cur,he,_,hb,_⟩
 ·cases h
 ·injection he with e1 _ e3;injection e1 with e1;injection e1 with e1;subst e1;exact frozen_of_row w _ j _ _ hb
theorem q0d {vs us:List Value} {j:Nat} (hj:j+us.length≤vs.length):(vs.take j++us++vs.drop (j+us.length)).length=vs.length:=by
 simp only [Qae,Qau,Qav];omega
theorem Hp.rowSet (H:Hp w0 w K M) {e:TypeId} {m n g c:Nat} {vs us:List Value} (hi:M[i]?=some (.row e m (.slice (some ⟨g,0,none⟩) n c) n vs)) (j:Nat) (hj:j+us.length≤vs.length):
  Hp w0 (w.setCells g j us) K (M.set i (.row e m (.slice (some ⟨g,0,none⟩) n c) n (vs.take j++us++vs.drop (j+us.length)))):=by
 refine H.setAt hi y86 ?_ (.inl rfl);have ho:w.ownsRow 0 e m _ n vs:=H.ok _ (Qaf hi);refine ⟨(q0d hj).trans ho.1,?_⟩;rcases ho.2 with ⟨h,_⟩|⟨g',c',cur,he,hb0,hb,h1,h2,h3,h4⟩
 ·cases h
 ·injection he with e1 _ e3;injection e1 with e1;injection e1 with e1;subst e1 e3
  have hpost:cur.toList=vs++cur.toList.drop (n*m):=by rw [←h4,List.take_append_drop]
  generalize cur.toList.drop (n*m)=post at hpost
  have hvs:vs=vs.take j++(vs.drop j).take us.length++vs.drop (j+us.length):=by
   rw [Qat,←List.drop_drop,List.take_append_drop,List.take_append_drop]
  have hcur:cur=(vs.take j++(vs.drop j).take us.length++(vs.drop (j+us.length)++post)).toArray:=by
   apply Qal.1;rw [hpost]
   show vs++post=vs.take j++(vs.drop j).take us.length++(vs.drop (j+us.length)++post)
   rw [←Qat,←hvs]
  rw [hcur] at hb;have h5:=x03 (us:=us) (i:=j) hb (by simp;omega) (by simp;omega);have hl:(vs.take j++us++vs.drop (j+us.length)).length=n*m:=(q0d hj).trans ho.1;refine .inr ⟨g,c,_,rfl,hb0,by rw [y6p];exact h5,h1,h2,?_,?_⟩
  ·have:=congrArg List.length hpost;simp only [Array.length_toList,Qae] at this
   have hl2:(vs.take j++us++(vs.drop (j+us.length)++post)).length=n*m+post.length:=by rw [←Qat,Qae,hl]
   simp only [List.size_toArray,hl2];rw [ho.1] at this;omega
  ·show ((vs.take j++us++(vs.drop (j+us.length)++post))).take (n*m)=_
   rw [←Qat,List.take_append_of_le_length (by omega),Qaj (by omega)]
theorem z9o {Kc:Act→World→Prop} (ty:TypeId) (x y:Operand) (ho:o.op= .store ty x y) (g j:Nat) (hx:a.eval x= .pointer (some ⟨g,j,none⟩)) (v:Value) (hy:a.eval y=v) (us:List Value) (hv:v.cells=us.toArray)
  (hone: ∀u∈us,u.oneCell'=true) (hsz:(P.info? ty).map (·.size)=some us.length) (H:Hp w0 w K M) (i:Nat) (e:TypeId) (m n c:Nat) (vs vs':List Value) (hi:M[i]?=some (.row e m (.slice (some ⟨g,0,none⟩) n c) n vs)) (hj:j+us.length≤vs.length) (hn:vs.take j++us++vs.drop (j+us.length)=vs')
  (h: ∀w',Hp w0 w' K (M.set i (.row e m (.slice (some ⟨g,0,none⟩) n c) n vs'))→Kc (a.put o.dst undef) w'):Oper.wp P o a w Kc Q:=by
 have hrun:(storeVar ty ⟨g,j,none⟩ v).run P w= .ok () (w.setCells g j us):=by
  have:=run_storeCells_cells (P:=P) g j us 0 w (fun k hk=>by
    have hk':j+k<vs.length:=by omega
    rw [Nat.add_zero,H.rowCell hi (Qad hk')];rfl) (fun k hk=>H.rowFrozen hi _) hone
  cases hq:P.info? ty with
  |none=>simp [hq] at hsz
  |some ti=>
   have hs:us.length=ti.size:=by simp [hq] at hsz;omega
   simp only [Nat.add_zero] at this;simp [storeVar,sizeOf,typeInfo,hq,hv,hs,this]
 unfold Oper.wp execOp;simp only [ho,hx,hy,Instr.storeAt,Instr.sureAddr,Sem.run_bind,Sem.run_pure,Result.andThen_ok,hrun];have:=H.rowSet hi j hj;rw [hn] at this;exact h _ this
theorem z1k {E:Prop} {Kc:Act→World→Prop} (hgd:o.guard=none) (ty:TypeId) (x y:Operand) (ho:o.op= .store ty x y) (g j:Nat) (hx:a.eval x= .pointer (some ⟨g,j,none⟩)) (v:Value) (hy:a.eval y=v) (us:List Value) (hv:v.cells=us.toArray)
  (hone: ∀u∈us,u.oneCell'=true) (hsz:(P.info? ty).map (·.size)=some us.length) (H:Hp w0 w K M) (i:Nat) (e:TypeId) (m n c:Nat) (vs vs':List Value) (hi:M[i]?=some (.row e m (.slice (some ⟨g,0,none⟩) n c) n vs)) (hj:j+us.length≤vs.length) (hn:vs.take j++us++vs.drop (j+us.length)=vs')
  (h: ∀w',Hp w0 w' K (M.set i (.row e m (.slice (some ⟨g,0,none⟩) n c) n vs'))→Kc (a.put o.dst undef) w'):if Region.wanted o (yielded ops a.tmps)=true then Oper.wp P o a w Kc Q else E:=by
 have hw:Region.wanted o (yielded ops a.tmps)=true:=by simp [Region.wanted,hgd]
 rw [if_pos hw];exact z9o ty x y ho g j hx v hy us hv hone hsz H i e m n c vs vs' hi hj hn h
end
def y1i (TS:List (DefD×DV)):List Ent:=TS.flatMap fun p=>DV.rows p.1 p.2
def y1b (TS:List (DefD×DV)):List Value:=TS.flatMap fun p=>DV.cells p.1 p.2
def tok (K:World) (TS:List (DefD×DV)):Prop:=∀p∈TS,p.2.ok K p.1
section
variable {w0 w w' K K' : World} {M : List Ent}
theorem tok.sat {TS:List (DefD×DV)} (h:tok K TS) (hs:Sat K' K):tok K' TS:=fun p hp=>(h p hp).sat hs
theorem z1l: ∀(TS:List (DefD×DV)),(y1b TS).length=TS.length*17
 |[]=>rfl
 |p::r=>by
  have h:y1b (p::r)=DV.cells p.1 p.2++y1b r:=by simp [y1b]
  have h2:(DV.cells p.1 p.2).length=17:=rfl;rw [h,Qae,z1l r,h2,List.length_cons];omega
theorem z1m (A B:List (DefD×DV)):y1b (A++B)=y1b A++y1b B:=by simp [y1b]
theorem z9p (A B:List (DefD×DV)):y1i (A++B)=y1i A++y1i B:=by simp [y1i]
theorem Hp.freezeDef {d:DefD} {V:DV} (H:Hp w0 w K (DV.rows d V++M)) (hV:V.ok K d): ∃K',Sat K' K∧Hp w0 w K' M∧RL K' (defL d) (DV.cells d V):=by
 obtain ⟨K1,s1,H,f8⟩:=H.freezeRow hV.r8;replace hV:=hV.sat s1;obtain ⟨K2,s2,H,f11⟩:=H.freezeRow hV.r11;replace hV:=hV.sat s2;replace f8:=f8.sat s2;obtain ⟨K3,s3,H,f6⟩:=H.freezeRow hV.r6;replace hV:=hV.sat s3;replace f8:=f8.sat s3;replace f11:=f11.sat s3;obtain ⟨K4,s4,H,f10⟩:=H.freezeRow hV.r10;replace hV:=hV.sat s4;replace f8:=f8.sat s4;replace f11:=f11.sat s4;replace f6:=f6.sat s4;obtain ⟨K5,s5,H,f14⟩:=H.freezeRow hV.r14;replace hV:=hV.sat s5;replace f8:=f8.sat s5;replace f11:=f11.sat s5;replace f6:=f6.sat s5;replace f10:=f10.sat s5;obtain ⟨K6,s6,H,f12⟩:=H.freezeRow hV.r12;replace hV:=hV.sat s6;replace f8:=f8.sat s6;replace f11:=f11.sat s6;replace f6:=f6.sat s6;replace f10:=f10.sat s6;replace f14:=f14.sat s6;obtain ⟨K7,s7,H,f9⟩:=H.freezeRow hV.r9;replace hV:=hV.sat s7;replace f8:=f8.sat s7;replace f11:=f11.sat s7;replace f6:=f6.sat s7;replace f10:=f10.sat s7;replace f14:=f14.sat s7;replace f12:=f12.sat s7;obtain ⟨K8,s8,H,f7⟩:=H.freezeRow hV.r7;replace f8:=f8.sat s8;replace f11:=f11.sat s8;replace f6:=f6.sat s8;replace f10:=f10.sat s8;replace f14:=f14.sat s8;replace f12:=f12.sat s8;replace f9:=f9.sat s8
 exact ⟨K8,s8.trans (s7.trans (s6.trans (s5.trans (s4.trans (s3.trans (s2.trans s1)))))),H,by
  unfold defL DV.cells
  exact .lit (.lit (.lit (.lit (.lit (.lit (.cons f6 (.cons f7 (.cons f8 (.cons f9 (.cons f10 (.cons f11 (.cons f12 (.lit (.cons f14 (.lit (.lit RL.z))))))))))))))))⟩
theorem Hp.freezeDefs: ∀{TS:List (DefD×DV)} {K:World},Hp w0 w K (y1i TS++M)→tok K TS→ ∃K',Sat K' K∧Hp w0 w K' M∧RL K' (y0q (TS.map (·.1))) (y1b TS)
 |[],K,H,_=>⟨K,Sat.refl K,H,RL.z⟩
 |p::TS,K,H,hok=>by
  have H:Hp w0 w K (DV.rows p.1 p.2++(y1i TS++M)):=by
   have:y1i (p::TS)++M=DV.rows p.1 p.2++(y1i TS++M):=by simp [y1i]
   rw [←this];exact H
  obtain ⟨K1,s1,H,h1⟩:=H.freezeDef (hok p (Qaz ..));obtain ⟨K2,s2,H,h2⟩:=Hp.freezeDefs (TS:=TS) H (fun q hq=>(hok q (Qa2 _ hq)).sat s1);exact ⟨K2,s2.trans s1,H,(h1.sat s2).app h2⟩
end
end Go.Proofs.YtbpgkkoeehopjaaGreat.hp
