/- Part 10 of 18 of a proof: see the last part. -/
import Derived.Test.YtbpgkkoeehopjaaGreatP9
set_option linter.unusedVariables false
set_option linter.unusedSimpArgs false
namespace Go.Proofs.YtbpgkkoeehopjaaGreat.hp
open Go.RowKit Go.Proofs.YtbpgkkoeehopjaaGreat.words Go.Proofs.YtbpgkkoeehopjaaGreat.enc Go.Proofs.YtbpgkkoeehopjaaGreat.tree Go.Proofs.YtbpgkkoeehopjaaGreat.gram Go.Proofs.YtbpgkkoeehopjaaGreat.lex Go.Proofs.YtbpgkkoeehopjaaGreat.rd Go.Proofs.YtbpgkkoeehopjaaGreat.dec Go.Proofs.YtbpgkkoeehopjaaGreat.dat Go.Proofs.YtbpgkkoeehopjaaGreat.held
set_option maxRecDepth 100000
attribute [local go_sem ↓] Go.wp_at_zero Go.wp_at_succ
theorem ref_hp (s t : ByteArray) (w0 w K : World) (M : List Ent) (H : Hp w0 w K M) :
  Calls Tryz.prog 104 #[.string s, .string t] w fun e w' => e = .returned (.agg #[.string s, .string t]) ∧ Hp w0 w' K M := by
 go_enter Tryz.func104, Tryz.ntmps104
 go_wp2_with (first
  | ((with_reducible refine isL ?_); first
   | (refine al z50 4 H ?_; clear H; intro w1 g4 H)
   | (refine sA 4 0 H ?_; clear H; intro w3 H)))
 refine bodyPost_ret (v := .agg #[.string s, .string t]) (results_cell_row rfl _ _ g4 50 _ (0, 0) _ (by rfl) (H.blkAt (i := 0) rfl) Tryz.underlying50 rfl (by kernel_rfl)) rfl ?_
 replace H := H.sub (List.Sublist.cons _ (List.Sublist.refl _))
 exact ⟨rfl, H⟩
theorem field_hp (s t u : ByteArray) (w0 w K : World) (M : List Ent) (H : Hp w0 w K M) :
  Calls Tryz.prog 101 #[.string s, .string t, .string u] w fun e w' => e = .returned (.agg #[.bool false, .bool false, .string ⟨#[]⟩, .string s, .slice none 0 0, .string t, .string u, .slice none 0 0, .int .i64 0, .int .i64 0]) ∧ Hp w0 w' K M := by
 go_enter Tryz.func101, Tryz.ntmps101
 go_wp2_with (first
  | (go_at_call 104; refine (ref_hp t u _ _ _ _ H).mono ?_; clear H; rintro e w5 ⟨rfl, H⟩)
  | ((with_reducible refine isL ?_); first
   | (refine al z52 6 H ?_; clear H; intro w4 g6 H)
   | (refine sA 6 0 H ?_; clear H; intro w7 H)))
 refine bodyPost_ret (v := .agg #[.bool false, .bool false, .string ⟨#[]⟩, .string s, .slice none 0 0, .string t, .string u, .slice none 0 0, .int .i64 0, .int .i64 0]) (results_cell_row rfl _ _ g6 52 _ (0, 0) _ (by rfl) (H.blkAt (i := 0) rfl) Tryz.underlying52 rfl (by kernel_rfl)) rfl ?_
 replace H := H.sub (List.Sublist.cons _ (List.Sublist.refl _))
 exact ⟨rfl, H⟩
theorem object_hp (s : ByteArray) (A : Option Addr) (n c : Nat) (w0 w K : World) (M : List Ent) (H : Hp w0 w K M) :
  Calls Tryz.prog 100 #[.string s, .slice A n c] w fun e w' => e = .returned (.agg #[.int .i64 3, .bool false, .bool false, .bool false, .string ⟨#[]⟩, .string s, .slice none 0 0, .slice none 0 0, .slice A n c, .slice none 0 0, .slice none 0 0, .slice none 0 0, .slice none 0 0, .bool false, .slice none 0 0, .int .i64 0, .int .i64 0]) ∧ Hp w0 w' K M := by
 go_enter Tryz.func100, Tryz.ntmps100
 go_wp2_with (first
  | ((with_reducible refine isL ?_); first
   | (refine al z43 4 H ?_; clear H; intro w8 g4 H)
   | (refine sA 4 0 H ?_; clear H; intro w10 H)))
 refine bodyPost_ret (v := .agg #[.int .i64 3, .bool false, .bool false, .bool false, .string ⟨#[]⟩, .string s, .slice none 0 0, .slice none 0 0, .slice A n c, .slice none 0 0, .slice none 0 0, .slice none 0 0, .slice none 0 0, .bool false, .slice none 0 0, .int .i64 0, .int .i64 0]) (results_cell_row rfl _ _ g4 43 _ (0, 0) _ (by rfl) (H.blkAt (i := 0) rfl) Tryz.underlying43 rfl (by kernel_rfl)) rfl ?_
 replace H := H.sub (List.Sublist.cons _ (List.Sublist.refl _))
 exact ⟨rfl, H⟩
def falseT : Txt := [102, 97, 108, 115, 101]
def booleanT : Txt := [66, 111, 111, 108, 101, 97, 110]
def incT : Txt := [105, 110, 99, 108, 117, 100, 101, 68, 101, 112, 114, 101, 99, 97, 116, 101, 100]
def incD : InputD := ⟨noteZ, incT, (booleanT, []), true, .mk 5 falseT false [] [] 0 0, [], 0, 0⟩
def AllP (s t : ByteArray) (w0 K : World) (M : List Ent) (e : Ending) (w' : World) : Prop :=
 ∃ K' A, e = .returned (.agg #[.bool false, .bool false, .string ⟨#[]⟩, .string s, .slice (some A) 1 1, .string t, .string ⟨#[33, 93]⟩, .slice none 0 0, .int .i64 0, .int .i64 0]) ∧ Sat K' K ∧ Hp w0 w' K' M ∧ RD K' (.list 1 (inputsL [incD])) (.slice (some A) 1 1)
theorem RL.z {K : World} : RL K [] [] := .nil (Nat.le_refl _)
theorem RD.z {K : World} : RD K (.list 0 []) (.slice none 0 0) := .nil (Nat.le_refl _)
set_option maxHeartbeats 4000000 in
theorem all_hp (s t : ByteArray) (w0 w K : World) (M : List Ent) (H : Hp w0 w K M) :
  Calls Tryz.prog 102 #[.string s, .string t] w (AllP s t w0 K M) := by
 go_enter Tryz.func102, Tryz.ntmps102
 go_upto_region 2 with (first
  | ((with_reducible refine isL ?_); first
   | (refine al z52 4 H ?_; clear H; intro w11 g4 H)
   | (refine al z121 5 H ?_; clear H; intro w13 g5 H)
   | (refine sA 5 0 H ?_; clear H; intro w15 H)))
 refine held.begin_ (fun w' => w'.cell? ⟨g5, 0, none⟩ = some (.int .i64 5) ∧ w'.cell? ⟨g5, 1, none⟩ = some (.string ⟨#[102, 97, 108, 115, 101]⟩) ∧ w'.cell? ⟨g5, 2, none⟩ = some (.bool false) ∧ w'.cell? ⟨g5, 3, none⟩ = some (.slice none 0 0) ∧ w'.cell? ⟨g5, 4, none⟩ = some (.slice none 0 0) ∧ w'.cell? ⟨g5, 5, none⟩ = some (.int .i64 0) ∧ w'.cell? ⟨g5, 6, none⟩ = some (.int .i64 0)) [4] (by kernel_rfl) ?_
 replace H := H.drew1
 obtain ⟨w16, hq17⟩ : ∃ x, (w15).drew = x := ⟨_, rfl⟩
 rw [hq17] at H ⊢
 clear hq17
 have hS18 : w16.cell? ⟨g5, 0, none⟩ = some (.int .i64 5) ∧ w16.cell? ⟨g5, 1, none⟩ = some (.string ⟨#[102, 97, 108, 115, 101]⟩) ∧ w16.cell? ⟨g5, 2, none⟩ = some (.bool false) ∧ w16.cell? ⟨g5, 3, none⟩ = some (.slice none 0 0) ∧ w16.cell? ⟨g5, 4, none⟩ = some (.slice none 0 0) ∧ w16.cell? ⟨g5, 5, none⟩ = some (.int .i64 0) ∧ w16.cell? ⟨g5, 6, none⟩ = some (.int .i64 0) := ⟨H.cell (i := 0) rfl rfl, H.cell (i := 0) rfl rfl, H.cell (i := 0) rfl rfl, H.cell (i := 0) rfl rfl, H.cell (i := 0) rfl rfl, H.cell (i := 0) rfl rfl, H.cell (i := 0) rfl rfl⟩
 refine held.take (i := 1) (v := ?_) rfl (by kernel_rfl) (by kernel_rfl) (by kernel_rfl) (by kernel_rfl) (by kernel_rfl) (fun _ _ _ h => h) (Or.inl ⟨by rfl, ?_⟩) hS18 ?_
 rotate_left
 · intro w hSw
   try dsimp only at hSw
   go_simp
   try with_reducible rfl
 try simp only [Act.put, List.getElem_toArray, List.getElem_cons_zero, List.getElem_cons_succ, List.setIfInBounds_toArray, List.set_cons_zero, List.set_cons_succ]
 refine step2 (i := 0) (j := 3) (by kernel_rfl) rfl rfl (fun Kq hKq => ?_) (fun Kq hKq => ?_)
 · skip
   go_simp
   refine (ref_hp _ _ _ _ _ _ H).mono ?_
   clear H
   rintro e w5 ⟨rfl, H⟩
   replace H : Hp _ _ _ (_ :: _ :: M) := H
   try go_simp
   have hS19 : w5.cell? ⟨g5, 0, none⟩ = some (.int .i64 5) ∧ w5.cell? ⟨g5, 1, none⟩ = some (.string ⟨#[102, 97, 108, 115, 101]⟩) ∧ w5.cell? ⟨g5, 2, none⟩ = some (.bool false) ∧ w5.cell? ⟨g5, 3, none⟩ = some (.slice none 0 0) ∧ w5.cell? ⟨g5, 4, none⟩ = some (.slice none 0 0) ∧ w5.cell? ⟨g5, 5, none⟩ = some (.int .i64 0) ∧ w5.cell? ⟨g5, 6, none⟩ = some (.int .i64 0) := ⟨H.cell (i := 0) rfl rfl, H.cell (i := 0) rfl rfl, H.cell (i := 0) rfl rfl, H.cell (i := 0) rfl rfl, H.cell (i := 0) rfl rfl, H.cell (i := 0) rfl rfl, H.cell (i := 0) rfl rfl⟩
   refine hKq.out _ _ (fun _ => hS19) (fun _ => ?_)
   clear hKq Kq
   refine held.take (i := 2) (v := ?_) rfl (by kernel_rfl) (by kernel_rfl) (by kernel_rfl) (by kernel_rfl) (by kernel_rfl) (fun _ _ _ h => h) (Or.inl ⟨by rfl, ?_⟩) hS19 ?_
   rotate_left
   · intro w hSw
     try dsimp only at hSw
     go_simp
     try with_reducible rfl
   try simp only [Act.put, List.getElem_toArray, List.getElem_cons_zero, List.getElem_cons_succ, List.setIfInBounds_toArray, List.set_cons_zero, List.set_cons_succ]
   refine held.step (i := 3) (by kernel_rfl) rfl (fun Kq hKq => ?_)
   go_simp
   replace H := H.alloc [.bool false, .bool false, .string ⟨#[]⟩, .string ⟨#[]⟩, .string ⟨#[]⟩, .string ⟨#[]⟩, .bool false, .int .i64 0, .string ⟨#[]⟩, .bool false, .slice none 0 0, .slice none 0 0, .int .i64 0, .int .i64 0, .slice none 0 0, .int .i64 0, .int .i64 0] 123
   obtain ⟨w21, hq22⟩ : ∃ x, (w5).alloc (.cells #[.bool false, .bool false, .string ⟨#[]⟩, .string ⟨#[]⟩, .string ⟨#[]⟩, .string ⟨#[]⟩, .bool false, .int .i64 0, .string ⟨#[]⟩, .bool false, .slice none 0 0, .slice none 0 0, .int .i64 0, .int .i64 0, .slice none 0 0, .int .i64 0, .int .i64 0] 123) = x := ⟨_, rfl⟩
   obtain ⟨g6, hg20⟩ : ∃ x, (w5).heap.size = x := ⟨_, rfl⟩
   rw [hg20] at H ⊢
   rw [hq22] at H ⊢
   clear hg20 hq22
   have hS23 : w21.cell? ⟨g5, 0, none⟩ = some (.int .i64 5) ∧ w21.cell? ⟨g5, 1, none⟩ = some (.string ⟨#[102, 97, 108, 115, 101]⟩) ∧ w21.cell? ⟨g5, 2, none⟩ = some (.bool false) ∧ w21.cell? ⟨g5, 3, none⟩ = some (.slice none 0 0) ∧ w21.cell? ⟨g5, 4, none⟩ = some (.slice none 0 0) ∧ w21.cell? ⟨g5, 5, none⟩ = some (.int .i64 0) ∧ w21.cell? ⟨g5, 6, none⟩ = some (.int .i64 0) := ⟨H.cell (i := 1) rfl rfl, H.cell (i := 1) rfl rfl, H.cell (i := 1) rfl rfl, H.cell (i := 1) rfl rfl, H.cell (i := 1) rfl rfl, H.cell (i := 1) rfl rfl, H.cell (i := 1) rfl rfl⟩
   refine hKq.out _ _ (fun _ => hS23) (fun _ => ?_)
   clear hKq Kq
   refine held.step (i := 4) (by kernel_rfl) rfl (fun Kq hKq => ?_)
   refine step_store_hp (by rfl) 123 (.tmp 6) (.tmp 10) (by rfl) g6 0 (by first | rfl | simp [Act.eval, Act.put]) (.agg #[.bool false, .bool false, .string ⟨#[]⟩, .string ⟨#[105, 110, 99, 108, 117, 100, 101, 68, 101, 112, 114, 101, 99, 97, 116, 101, 100]⟩, .string ⟨#[66, 111, 111, 108, 101, 97, 110]⟩, .string ⟨#[]⟩, .bool true, .int .i64 5, .string ⟨#[102, 97, 108, 115, 101]⟩, .bool false, .slice none 0 0, .slice none 0 0, .int .i64 0, .int .i64 0, .slice none 0 0, .int .i64 0, .int .i64 0]) (by first | rfl | simp [Act.eval, Act.put]) [.bool false, .bool false, .string ⟨#[]⟩, .string ⟨#[105, 110, 99, 108, 117, 100, 101, 68, 101, 112, 114, 101, 99, 97, 116, 101, 100]⟩, .string ⟨#[66, 111, 111, 108, 101, 97, 110]⟩, .string ⟨#[]⟩, .bool true, .int .i64 5, .string ⟨#[102, 97, 108, 115, 101]⟩, .bool false, .slice none 0 0, .slice none 0 0, .int .i64 0, .int .i64 0, .slice none 0 0, .int .i64 0, .int .i64 0] (by rfl) (by simp [Value.oneCell']) (by kernel_rfl) H 0 [.bool false, .bool false, .string ⟨#[]⟩, .string ⟨#[]⟩, .string ⟨#[]⟩, .string ⟨#[]⟩, .bool false, .int .i64 0, .string ⟨#[]⟩, .bool false, .slice none 0 0, .slice none 0 0, .int .i64 0, .int .i64 0, .slice none 0 0, .int .i64 0, .int .i64 0] [.bool false, .bool false, .string ⟨#[]⟩, .string ⟨#[105, 110, 99, 108, 117, 100, 101, 68, 101, 112, 114, 101, 99, 97, 116, 101, 100]⟩, .string ⟨#[66, 111, 111, 108, 101, 97, 110]⟩, .string ⟨#[]⟩, .bool true, .int .i64 5, .string ⟨#[102, 97, 108, 115, 101]⟩, .bool false, .slice none 0 0, .slice none 0 0, .int .i64 0, .int .i64 0, .slice none 0 0, .int .i64 0, .int .i64 0] 123 (by rfl) (Nat.le_of_ble_eq_true (by rfl)) (by rfl) ?_
   clear H
   intro w24 H
   refine hKq.out _ _ (fun h => absurd (List.mem_singleton.2 rfl) h) (fun _ => ?_)
   clear hKq Kq
   refine held.done (by kernel_rfl) ?_ _
   simp only [Act.put, List.getElem_toArray, List.getElem_cons_zero, List.getElem_cons_succ, List.setIfInBounds_toArray, List.set_cons_zero, List.set_cons_succ]
   replace H : Hp _ _ _ (_ :: _ :: _ :: M) := H
   go_upto_region 3 with (fail)
   refine held.begin_ (fun w' => w'.cell? ⟨g6, 0, none⟩ = some (.bool false) ∧ w'.cell? ⟨g6, 1, none⟩ = some (.bool false) ∧ w'.cell? ⟨g6, 2, none⟩ = some (.string ⟨#[]⟩) ∧ w'.cell? ⟨g6, 3, none⟩ = some (.string ⟨#[105, 110, 99, 108, 117, 100, 101, 68, 101, 112, 114, 101, 99, 97, 116, 101, 100]⟩) ∧ w'.cell? ⟨g6, 4, none⟩ = some (.string ⟨#[66, 111, 111, 108, 101, 97, 110]⟩) ∧ w'.cell? ⟨g6, 5, none⟩ = some (.string ⟨#[]⟩) ∧ w'.cell? ⟨g6, 6, none⟩ = some (.bool true) ∧ w'.cell? ⟨g6, 7, none⟩ = some (.int .i64 5) ∧ w'.cell? ⟨g6, 8, none⟩ = some (.string ⟨#[102, 97, 108, 115, 101]⟩) ∧ w'.cell? ⟨g6, 9, none⟩ = some (.bool false) ∧ w'.cell? ⟨g6, 10, none⟩ = some (.slice none 0 0) ∧ w'.cell? ⟨g6, 11, none⟩ = some (.slice none 0 0) ∧ w'.cell? ⟨g6, 12, none⟩ = some (.int .i64 0) ∧ w'.cell? ⟨g6, 13, none⟩ = some (.int .i64 0) ∧ w'.cell? ⟨g6, 14, none⟩ = some (.slice none 0 0) ∧ w'.cell? ⟨g6, 15, none⟩ = some (.int .i64 0) ∧ w'.cell? ⟨g6, 16, none⟩ = some (.int .i64 0)) [6] (by kernel_rfl) ?_
   replace H := H.drew1
   obtain ⟨w25, hq26⟩ : ∃ x, (w24).drew = x := ⟨_, rfl⟩
   rw [hq26] at H ⊢
   clear hq26
   have hS27 : w25.cell? ⟨g6, 0, none⟩ = some (.bool false) ∧ w25.cell? ⟨g6, 1, none⟩ = some (.bool false) ∧ w25.cell? ⟨g6, 2, none⟩ = some (.string ⟨#[]⟩) ∧ w25.cell? ⟨g6, 3, none⟩ = some (.string ⟨#[105, 110, 99, 108, 117, 100, 101, 68, 101, 112, 114, 101, 99, 97, 116, 101, 100]⟩) ∧ w25.cell? ⟨g6, 4, none⟩ = some (.string ⟨#[66, 111, 111, 108, 101, 97, 110]⟩) ∧ w25.cell? ⟨g6, 5, none⟩ = some (.string ⟨#[]⟩) ∧ w25.cell? ⟨g6, 6, none⟩ = some (.bool true) ∧ w25.cell? ⟨g6, 7, none⟩ = some (.int .i64 5) ∧ w25.cell? ⟨g6, 8, none⟩ = some (.string ⟨#[102, 97, 108, 115, 101]⟩) ∧ w25.cell? ⟨g6, 9, none⟩ = some (.bool false) ∧ w25.cell? ⟨g6, 10, none⟩ = some (.slice none 0 0) ∧ w25.cell? ⟨g6, 11, none⟩ = some (.slice none 0 0) ∧ w25.cell? ⟨g6, 12, none⟩ = some (.int .i64 0) ∧ w25.cell? ⟨g6, 13, none⟩ = some (.int .i64 0) ∧ w25.cell? ⟨g6, 14, none⟩ = some (.slice none 0 0) ∧ w25.cell? ⟨g6, 15, none⟩ = some (.int .i64 0) ∧ w25.cell? ⟨g6, 16, none⟩ = some (.int .i64 0) := ⟨H.cell (i := 0) rfl rfl, H.cell (i := 0) rfl rfl, H.cell (i := 0) rfl rfl, H.cell (i := 0) rfl rfl, H.cell (i := 0) rfl rfl, H.cell (i := 0) rfl rfl, H.cell (i := 0) rfl rfl, H.cell (i := 0) rfl rfl, H.cell (i := 0) rfl rfl, H.cell (i := 0) rfl rfl, H.cell (i := 0) rfl rfl, H.cell (i := 0) rfl rfl, H.cell (i := 0) rfl rfl, H.cell (i := 0) rfl rfl, H.cell (i := 0) rfl rfl, H.cell (i := 0) rfl rfl, H.cell (i := 0) rfl rfl⟩
   refine held.take (i := 0) (v := ?_) rfl (by kernel_rfl) (by kernel_rfl) (by kernel_rfl) (by kernel_rfl) (by kernel_rfl) (fun _ _ _ h => h) (Or.inl ⟨by rfl, ?_⟩) hS27 ?_
   rotate_left
   · intro w hSw
     try dsimp only at hSw
     go_simp
     try with_reducible rfl
   try simp only [Act.put, List.getElem_toArray, List.getElem_cons_zero, List.getElem_cons_succ, List.setIfInBounds_toArray, List.set_cons_zero, List.set_cons_succ]
   refine held.take (i := 1) (v := ?_) rfl (by kernel_rfl) (by kernel_rfl) (by kernel_rfl) (by kernel_rfl) (by kernel_rfl) (fun _ _ _ h => h) (Or.inl ⟨by rfl, ?_⟩) hS27 ?_
   rotate_left
   · intro w hSw
     try dsimp only at hSw
     go_simp
     try with_reducible rfl
   try simp only [Act.put, List.getElem_toArray, List.getElem_cons_zero, List.getElem_cons_succ, List.setIfInBounds_toArray, List.set_cons_zero, List.set_cons_succ]
   refine held.take (i := 3) (v := ?_) rfl (by kernel_rfl) (by kernel_rfl) (by kernel_rfl) (by kernel_rfl) (by kernel_rfl) (fun _ _ _ h => h) (Or.inl ⟨by rfl, ?_⟩) hS27 ?_
   rotate_left
   · intro w hSw
     try dsimp only at hSw
     go_simp
     try with_reducible rfl
   try simp only [Act.put, List.getElem_toArray, List.getElem_cons_zero, List.getElem_cons_succ, List.setIfInBounds_toArray, List.set_cons_zero, List.set_cons_succ]
   refine step2 (i := 2) (j := 4) (by kernel_rfl) rfl rfl (fun Kq hKq => ?_) (fun Kq hKq => ?_)
   · skip
     go_simp
     replace H := H.alloc [.bool false, .bool false, .string ⟨#[]⟩, .string ⟨#[105, 110, 99, 108, 117, 100, 101, 68, 101, 112, 114, 101, 99, 97, 116, 101, 100]⟩, .string ⟨#[66, 111, 111, 108, 101, 97, 110]⟩, .string ⟨#[]⟩, .bool true, .int .i64 5, .string ⟨#[102, 97, 108, 115, 101]⟩, .bool false, .slice none 0 0, .slice none 0 0, .int .i64 0, .int .i64 0, .slice none 0 0, .int .i64 0, .int .i64 0] 123
     obtain ⟨w30, hq31⟩ : ∃ x, (w25).alloc (.cells #[.bool false, .bool false, .string ⟨#[]⟩, .string ⟨#[105, 110, 99, 108, 117, 100, 101, 68, 101, 112, 114, 101, 99, 97, 116, 101, 100]⟩, .string ⟨#[66, 111, 111, 108, 101, 97, 110]⟩, .string ⟨#[]⟩, .bool true, .int .i64 5, .string ⟨#[102, 97, 108, 115, 101]⟩, .bool false, .slice none 0 0, .slice none 0 0, .int .i64 0, .int .i64 0, .slice none 0 0, .int .i64 0, .int .i64 0] 123) = x := ⟨_, rfl⟩
     obtain ⟨gb28, hg29⟩ : ∃ x, (w25).heap.size = x := ⟨_, rfl⟩
     rw [hg29] at H ⊢
     rw [hq31] at H ⊢
     clear hg29 hq31
     have hS32 : w30.cell? ⟨g6, 0, none⟩ = some (.bool false) ∧ w30.cell? ⟨g6, 1, none⟩ = some (.bool false) ∧ w30.cell? ⟨g6, 2, none⟩ = some (.string ⟨#[]⟩) ∧ w30.cell? ⟨g6, 3, none⟩ = some (.string ⟨#[105, 110, 99, 108, 117, 100, 101, 68, 101, 112, 114, 101, 99, 97, 116, 101, 100]⟩) ∧ w30.cell? ⟨g6, 4, none⟩ = some (.string ⟨#[66, 111, 111, 108, 101, 97, 110]⟩) ∧ w30.cell? ⟨g6, 5, none⟩ = some (.string ⟨#[]⟩) ∧ w30.cell? ⟨g6, 6, none⟩ = some (.bool true) ∧ w30.cell? ⟨g6, 7, none⟩ = some (.int .i64 5) ∧ w30.cell? ⟨g6, 8, none⟩ = some (.string ⟨#[102, 97, 108, 115, 101]⟩) ∧ w30.cell? ⟨g6, 9, none⟩ = some (.bool false) ∧ w30.cell? ⟨g6, 10, none⟩ = some (.slice none 0 0) ∧ w30.cell? ⟨g6, 11, none⟩ = some (.slice none 0 0) ∧ w30.cell? ⟨g6, 12, none⟩ = some (.int .i64 0) ∧ w30.cell? ⟨g6, 13, none⟩ = some (.int .i64 0) ∧ w30.cell? ⟨g6, 14, none⟩ = some (.slice none 0 0) ∧ w30.cell? ⟨g6, 15, none⟩ = some (.int .i64 0) ∧ w30.cell? ⟨g6, 16, none⟩ = some (.int .i64 0) := ⟨H.cell (i := 1) rfl rfl, H.cell (i := 1) rfl rfl, H.cell (i := 1) rfl rfl, H.cell (i := 1) rfl rfl, H.cell (i := 1) rfl rfl, H.cell (i := 1) rfl rfl, H.cell (i := 1) rfl rfl, H.cell (i := 1) rfl rfl, H.cell (i := 1) rfl rfl, H.cell (i := 1) rfl rfl, H.cell (i := 1) rfl rfl, H.cell (i := 1) rfl rfl, H.cell (i := 1) rfl rfl, H.cell (i := 1) rfl rfl, H.cell (i := 1) rfl rfl, H.cell (i := 1) rfl rfl, H.cell (i := 1) rfl rfl⟩
     refine hKq.out _ _ (fun _ => hS32) (fun _ => ?_)
     clear hKq Kq
     refine held.step (i := 4) (by kernel_rfl) rfl (fun Kq hKq => ?_)
     go_simp
     refine (ref_hp _ _ _ _ _ _ H).mono ?_
     clear H
     rintro e w6 ⟨rfl, H⟩
     replace H : Hp _ _ _ (_ :: _ :: _ :: _ :: M) := H
     try go_simp
     have hS33 : w6.cell? ⟨g6, 0, none⟩ = some (.bool false) ∧ w6.cell? ⟨g6, 1, none⟩ = some (.bool false) ∧ w6.cell? ⟨g6, 2, none⟩ = some (.string ⟨#[]⟩) ∧ w6.cell? ⟨g6, 3, none⟩ = some (.string ⟨#[105, 110, 99, 108, 117, 100, 101, 68, 101, 112, 114, 101, 99, 97, 116, 101, 100]⟩) ∧ w6.cell? ⟨g6, 4, none⟩ = some (.string ⟨#[66, 111, 111, 108, 101, 97, 110]⟩) ∧ w6.cell? ⟨g6, 5, none⟩ = some (.string ⟨#[]⟩) ∧ w6.cell? ⟨g6, 6, none⟩ = some (.bool true) ∧ w6.cell? ⟨g6, 7, none⟩ = some (.int .i64 5) ∧ w6.cell? ⟨g6, 8, none⟩ = some (.string ⟨#[102, 97, 108, 115, 101]⟩) ∧ w6.cell? ⟨g6, 9, none⟩ = some (.bool false) ∧ w6.cell? ⟨g6, 10, none⟩ = some (.slice none 0 0) ∧ w6.cell? ⟨g6, 11, none⟩ = some (.slice none 0 0) ∧ w6.cell? ⟨g6, 12, none⟩ = some (.int .i64 0) ∧ w6.cell? ⟨g6, 13, none⟩ = some (.int .i64 0) ∧ w6.cell? ⟨g6, 14, none⟩ = some (.slice none 0 0) ∧ w6.cell? ⟨g6, 15, none⟩ = some (.int .i64 0) ∧ w6.cell? ⟨g6, 16, none⟩ = some (.int .i64 0) := ⟨H.cell (i := 1) rfl rfl, H.cell (i := 1) rfl rfl, H.cell (i := 1) rfl rfl, H.cell (i := 1) rfl rfl, H.cell (i := 1) rfl rfl, H.cell (i := 1) rfl rfl, H.cell (i := 1) rfl rfl, H.cell (i := 1) rfl rfl, H.cell (i := 1) rfl rfl, H.cell (i := 1) rfl rfl, H.cell (i := 1) rfl rfl, H.cell (i := 1) rfl rfl, H.cell (i := 1) rfl rfl, H.cell (i := 1) rfl rfl, H.cell (i := 1) rfl rfl, H.cell (i := 1) rfl rfl, H.cell (i := 1) rfl rfl⟩
     refine hKq.out _ _ (fun _ => hS33) (fun _ => ?_)
     clear hKq Kq
     refine held.take (i := 5) (v := ?_) rfl (by kernel_rfl) (by kernel_rfl) (by kernel_rfl) (by kernel_rfl) (by kernel_rfl) (fun _ _ _ h => h) (Or.inl ⟨by rfl, ?_⟩) hS33 ?_
     rotate_left
     · intro w hSw
       try dsimp only at hSw
       go_simp
       try with_reducible rfl
     try simp only [Act.put, List.getElem_toArray, List.getElem_cons_zero, List.getElem_cons_succ, List.setIfInBounds_toArray, List.set_cons_zero, List.set_cons_succ]
     refine held.step (i := 6) (by kernel_rfl) rfl (fun Kq hKq => ?_)
     refine step_store_hp (by rfl) 52 (.tmp 4) (.tmp 16) (by rfl) g4 0 (by first | rfl | simp [Act.eval, Act.put]) (.agg #[.bool false, .bool false, .string ⟨#[]⟩, .string s, .slice (some ⟨gb28, 0, none⟩) 1 1, .string t, .string ⟨#[33, 93]⟩, .slice none 0 0, .int .i64 0, .int .i64 0]) (by first | rfl | simp [Act.eval, Act.put]) [.bool false, .bool false, .string ⟨#[]⟩, .string s, .slice (some ⟨gb28, 0, none⟩) 1 1, .string t, .string ⟨#[33, 93]⟩, .slice none 0 0, .int .i64 0, .int .i64 0] (by rfl) (by simp [Value.oneCell']) (by kernel_rfl) H 3 [.bool false, .bool false, .string ⟨#[]⟩, .string ⟨#[]⟩, .slice none 0 0, .string ⟨#[]⟩, .string ⟨#[]⟩, .slice none 0 0, .int .i64 0, .int .i64 0] [.bool false, .bool false, .string ⟨#[]⟩, .string s, .slice (some ⟨gb28, 0, none⟩) 1 1, .string t, .string ⟨#[33, 93]⟩, .slice none 0 0, .int .i64 0, .int .i64 0] 52 (by rfl) (Nat.le_of_ble_eq_true (by rfl)) (by rfl) ?_
     clear H
     intro w34 H
     refine hKq.out _ _ (fun h => absurd (List.mem_singleton.2 rfl) h) (fun _ => ?_)
     clear hKq Kq
     refine held.done (by kernel_rfl) ?_ _
     simp only [Act.put, List.getElem_toArray, List.getElem_cons_zero, List.getElem_cons_succ, List.setIfInBounds_toArray, List.set_cons_zero, List.set_cons_succ]
     replace H : Hp _ _ _ (_ :: _ :: _ :: _ :: M) := H
     go_wp2_with fail
     refine bodyPost_ret (v := .agg #[.bool false, .bool false, .string ⟨#[]⟩, .string s, .slice (some ⟨gb28, 0, none⟩) 1 1, .string t, .string ⟨#[33, 93]⟩, .slice none 0 0, .int .i64 0, .int .i64 0]) (results_cell_row rfl _ _ g4 52 _ (0, 0) _ (by rfl) (H.blkAt (i := 3) rfl) Tryz.underlying52 rfl (by kernel_rfl)) rfl ?_
     replace H := H.sub (List.Sublist.cons_cons _ (List.Sublist.cons _ (List.Sublist.cons _ (List.Sublist.cons _ (List.Sublist.refl _)))))
     obtain ⟨K1, h1, H, hd⟩ := H.freezeBox (n := 1) (ls := inputsL [incD]) (by unfold incD; exact .lit (.lit (.lit (.lit (.lit (.lit (.lit (.lit (.lit (.lit (.cons RD.z (.cons RD.z (.lit (.lit (.cons RD.z (.lit (.lit RL.z))))))))))))))))) (by simp [maxLen])
     exact ⟨K1, _, rfl, h1, H, hd⟩
   · skip
     go_simp
     refine (ref_hp _ _ _ _ _ _ H).mono ?_
     clear H
     rintro e w6 ⟨rfl, H⟩
     replace H : Hp _ _ _ (_ :: _ :: _ :: M) := H
     try go_simp
     have hS35 : w6.cell? ⟨g6, 0, none⟩ = some (.bool false) ∧ w6.cell? ⟨g6, 1, none⟩ = some (.bool false) ∧ w6.cell? ⟨g6, 2, none⟩ = some (.string ⟨#[]⟩) ∧ w6.cell? ⟨g6, 3, none⟩ = some (.string ⟨#[105, 110, 99, 108, 117, 100, 101, 68, 101, 112, 114, 101, 99, 97, 116, 101, 100]⟩) ∧ w6.cell? ⟨g6, 4, none⟩ = some (.string ⟨#[66, 111, 111, 108, 101, 97, 110]⟩) ∧ w6.cell? ⟨g6, 5, none⟩ = some (.string ⟨#[]⟩) ∧ w6.cell? ⟨g6, 6, none⟩ = some (.bool true) ∧ w6.cell? ⟨g6, 7, none⟩ = some (.int .i64 5) ∧ w6.cell? ⟨g6, 8, none⟩ = some (.string ⟨#[102, 97, 108, 115, 101]⟩) ∧ w6.cell? ⟨g6, 9, none⟩ = some (.bool false) ∧ w6.cell? ⟨g6, 10, none⟩ = some (.slice none 0 0) ∧ w6.cell? ⟨g6, 11, none⟩ = some (.slice none 0 0) ∧ w6.cell? ⟨g6, 12, none⟩ = some (.int .i64 0) ∧ w6.cell? ⟨g6, 13, none⟩ = some (.int .i64 0) ∧ w6.cell? ⟨g6, 14, none⟩ = some (.slice none 0 0) ∧ w6.cell? ⟨g6, 15, none⟩ = some (.int .i64 0) ∧ w6.cell? ⟨g6, 16, none⟩ = some (.int .i64 0) := ⟨H.cell (i := 0) rfl rfl, H.cell (i := 0) rfl rfl, H.cell (i := 0) rfl rfl, H.cell (i := 0) rfl rfl, H.cell (i := 0) rfl rfl, H.cell (i := 0) rfl rfl, H.cell (i := 0) rfl rfl, H.cell (i := 0) rfl rfl, H.cell (i := 0) rfl rfl, H.cell (i := 0) rfl rfl, H.cell (i := 0) rfl rfl, H.cell (i := 0) rfl rfl, H.cell (i := 0) rfl rfl, H.cell (i := 0) rfl rfl, H.cell (i := 0) rfl rfl, H.cell (i := 0) rfl rfl, H.cell (i := 0) rfl rfl⟩
     refine hKq.out _ _ (fun _ => hS35) (fun _ => ?_)
     clear hKq Kq
     refine held.step (i := 2) (by kernel_rfl) rfl (fun Kq hKq => ?_)
     go_simp
     replace H := H.alloc [.bool false, .bool false, .string ⟨#[]⟩, .string ⟨#[105, 110, 99, 108, 117, 100, 101, 68, 101, 112, 114, 101, 99, 97, 116, 101, 100]⟩, .string ⟨#[66, 111, 111, 108, 101, 97, 110]⟩, .string ⟨#[]⟩, .bool true, .int .i64 5, .string ⟨#[102, 97, 108, 115, 101]⟩, .bool false, .slice none 0 0, .slice none 0 0, .int .i64 0, .int .i64 0, .slice none 0 0, .int .i64 0, .int .i64 0] 123
     obtain ⟨w38, hq39⟩ : ∃ x, (w6).alloc (.cells #[.bool false, .bool false, .string ⟨#[]⟩, .string ⟨#[105, 110, 99, 108, 117, 100, 101, 68, 101, 112, 114, 101, 99, 97, 116, 101, 100]⟩, .string ⟨#[66, 111, 111, 108, 101, 97, 110]⟩, .string ⟨#[]⟩, .bool true, .int .i64 5, .string ⟨#[102, 97, 108, 115, 101]⟩, .bool false, .slice none 0 0, .slice none 0 0, .int .i64 0, .int .i64 0, .slice none 0 0, .int .i64 0, .int .i64 0] 123) = x := ⟨_, rfl⟩
     obtain ⟨gb36, hg37⟩ : ∃ x, (w6).heap.size = x := ⟨_, rfl⟩
     rw [hg37] at H ⊢
     rw [hq39] at H ⊢
     clear hg37 hq39
     have hS40 : w38.cell? ⟨g6, 0, none⟩ = some (.bool false) ∧ w38.cell? ⟨g6, 1, none⟩ = some (.bool false) ∧ w38.cell? ⟨g6, 2, none⟩ = some (.string ⟨#[]⟩) ∧ w38.cell? ⟨g6, 3, none⟩ = some (.string ⟨#[105, 110, 99, 108, 117, 100, 101, 68, 101, 112, 114, 101, 99, 97, 116, 101, 100]⟩) ∧ w38.cell? ⟨g6, 4, none⟩ = some (.string ⟨#[66, 111, 111, 108, 101, 97, 110]⟩) ∧ w38.cell? ⟨g6, 5, none⟩ = some (.string ⟨#[]⟩) ∧ w38.cell? ⟨g6, 6, none⟩ = some (.bool true) ∧ w38.cell? ⟨g6, 7, none⟩ = some (.int .i64 5) ∧ w38.cell? ⟨g6, 8, none⟩ = some (.string ⟨#[102, 97, 108, 115, 101]⟩) ∧ w38.cell? ⟨g6, 9, none⟩ = some (.bool false) ∧ w38.cell? ⟨g6, 10, none⟩ = some (.slice none 0 0) ∧ w38.cell? ⟨g6, 11, none⟩ = some (.slice none 0 0) ∧ w38.cell? ⟨g6, 12, none⟩ = some (.int .i64 0) ∧ w38.cell? ⟨g6, 13, none⟩ = some (.int .i64 0) ∧ w38.cell? ⟨g6, 14, none⟩ = some (.slice none 0 0) ∧ w38.cell? ⟨g6, 15, none⟩ = some (.int .i64 0) ∧ w38.cell? ⟨g6, 16, none⟩ = some (.int .i64 0) := ⟨H.cell (i := 1) rfl rfl, H.cell (i := 1) rfl rfl, H.cell (i := 1) rfl rfl, H.cell (i := 1) rfl rfl, H.cell (i := 1) rfl rfl, H.cell (i := 1) rfl rfl, H.cell (i := 1) rfl rfl, H.cell (i := 1) rfl rfl, H.cell (i := 1) rfl rfl, H.cell (i := 1) rfl rfl, H.cell (i := 1) rfl rfl, H.cell (i := 1) rfl rfl, H.cell (i := 1) rfl rfl, H.cell (i := 1) rfl rfl, H.cell (i := 1) rfl rfl, H.cell (i := 1) rfl rfl, H.cell (i := 1) rfl rfl⟩
     refine hKq.out _ _ (fun _ => hS40) (fun _ => ?_)
     clear hKq Kq
     refine held.take (i := 5) (v := ?_) rfl (by kernel_rfl) (by kernel_rfl) (by kernel_rfl) (by kernel_rfl) (by kernel_rfl) (fun _ _ _ h => h) (Or.inl ⟨by rfl, ?_⟩) hS40 ?_
     rotate_left
     · intro w hSw
       try dsimp only at hSw
       go_simp
       try with_reducible rfl
     try simp only [Act.put, List.getElem_toArray, List.getElem_cons_zero, List.getElem_cons_succ, List.setIfInBounds_toArray, List.set_cons_zero, List.set_cons_succ]
     refine held.step (i := 6) (by kernel_rfl) rfl (fun Kq hKq => ?_)
     refine step_store_hp (by rfl) 52 (.tmp 4) (.tmp 16) (by rfl) g4 0 (by first | rfl | simp [Act.eval, Act.put]) (.agg #[.bool false, .bool false, .string ⟨#[]⟩, .string s, .slice (some ⟨gb36, 0, none⟩) 1 1, .string t, .string ⟨#[33, 93]⟩, .slice none 0 0, .int .i64 0, .int .i64 0]) (by first | rfl | simp [Act.eval, Act.put]) [.bool false, .bool false, .string ⟨#[]⟩, .string s, .slice (some ⟨gb36, 0, none⟩) 1 1, .string t, .string ⟨#[33, 93]⟩, .slice none 0 0, .int .i64 0, .int .i64 0] (by rfl) (by simp [Value.oneCell']) (by kernel_rfl) H 3 [.bool false, .bool false, .string ⟨#[]⟩, .string ⟨#[]⟩, .slice none 0 0, .string ⟨#[]⟩, .string ⟨#[]⟩, .slice none 0 0, .int .i64 0, .int .i64 0] [.bool false, .bool false, .string ⟨#[]⟩, .string s, .slice (some ⟨gb36, 0, none⟩) 1 1, .string t, .string ⟨#[33, 93]⟩, .slice none 0 0, .int .i64 0, .int .i64 0] 52 (by rfl) (Nat.le_of_ble_eq_true (by rfl)) (by rfl) ?_
     clear H
     intro w41 H
     refine hKq.out _ _ (fun h => absurd (List.mem_singleton.2 rfl) h) (fun _ => ?_)
     clear hKq Kq
     refine held.done (by kernel_rfl) ?_ _
     simp only [Act.put, List.getElem_toArray, List.getElem_cons_zero, List.getElem_cons_succ, List.setIfInBounds_toArray, List.set_cons_zero, List.set_cons_succ]
     replace H : Hp _ _ _ (_ :: _ :: _ :: _ :: M) := H
     go_wp2_with fail
     refine bodyPost_ret (v := .agg #[.bool false, .bool false, .string ⟨#[]⟩, .string s, .slice (some ⟨gb36, 0, none⟩) 1 1, .string t, .string ⟨#[33, 93]⟩, .slice none 0 0, .int .i64 0, .int .i64 0]) (results_cell_row rfl _ _ g4 52 _ (0, 0) _ (by rfl) (H.blkAt (i := 3) rfl) Tryz.underlying52 rfl (by kernel_rfl)) rfl ?_
     replace H := H.sub (List.Sublist.cons_cons _ (List.Sublist.cons _ (List.Sublist.cons _ (List.Sublist.cons _ (List.Sublist.refl _)))))
     obtain ⟨K1, h1, H, hd⟩ := H.freezeBox (n := 1) (ls := inputsL [incD]) (by unfold incD; exact .lit (.lit (.lit (.lit (.lit (.lit (.lit (.lit (.lit (.lit (.cons RD.z (.cons RD.z (.lit (.lit (.cons RD.z (.lit (.lit RL.z))))))))))))))))) (by simp [maxLen])
     exact ⟨K1, _, rfl, h1, H, hd⟩
 · skip
   go_simp
   replace H := H.alloc [.bool false, .bool false, .string ⟨#[]⟩, .string ⟨#[]⟩, .string ⟨#[]⟩, .string ⟨#[]⟩, .bool false, .int .i64 0, .string ⟨#[]⟩, .bool false, .slice none 0 0, .slice none 0 0, .int .i64 0, .int .i64 0, .slice none 0 0, .int .i64 0, .int .i64 0] 123
   obtain ⟨w43, hq44⟩ : ∃ x, (w16).alloc (.cells #[.bool false, .bool false, .string ⟨#[]⟩, .string ⟨#[]⟩, .string ⟨#[]⟩, .string ⟨#[]⟩, .bool false, .int .i64 0, .string ⟨#[]⟩, .bool false, .slice none 0 0, .slice none 0 0, .int .i64 0, .int .i64 0, .slice none 0 0, .int .i64 0, .int .i64 0] 123) = x := ⟨_, rfl⟩
   obtain ⟨g6, hg42⟩ : ∃ x, (w16).heap.size = x := ⟨_, rfl⟩
   rw [hg42] at H ⊢
   rw [hq44] at H ⊢
   clear hg42 hq44
   have hS45 : w43.cell? ⟨g5, 0, none⟩ = some (.int .i64 5) ∧ w43.cell? ⟨g5, 1, none⟩ = some (.string ⟨#[102, 97, 108, 115, 101]⟩) ∧ w43.cell? ⟨g5, 2, none⟩ = some (.bool false) ∧ w43.cell? ⟨g5, 3, none⟩ = some (.slice none 0 0) ∧ w43.cell? ⟨g5, 4, none⟩ = some (.slice none 0 0) ∧ w43.cell? ⟨g5, 5, none⟩ = some (.int .i64 0) ∧ w43.cell? ⟨g5, 6, none⟩ = some (.int .i64 0) := ⟨H.cell (i := 1) rfl rfl, H.cell (i := 1) rfl rfl, H.cell (i := 1) rfl rfl, H.cell (i := 1) rfl rfl, H.cell (i := 1) rfl rfl, H.cell (i := 1) rfl rfl, H.cell (i := 1) rfl rfl⟩
   refine hKq.out _ _ (fun _ => hS45) (fun _ => ?_)
   clear hKq Kq
   refine held.step (i := 0) (by kernel_rfl) rfl (fun Kq hKq => ?_)
   go_simp
   refine (ref_hp _ _ _ _ _ _ H).mono ?_
   clear H
   rintro e w5 ⟨rfl, H⟩
   replace H : Hp _ _ _ (_ :: _ :: _ :: M) := H
   try go_simp
   have hS46 : w5.cell? ⟨g5, 0, none⟩ = some (.int .i64 5) ∧ w5.cell? ⟨g5, 1, none⟩ = some (.string ⟨#[102, 97, 108, 115, 101]⟩) ∧ w5.cell? ⟨g5, 2, none⟩ = some (.bool false) ∧ w5.cell? ⟨g5, 3, none⟩ = some (.slice none 0 0) ∧ w5.cell? ⟨g5, 4, none⟩ = some (.slice none 0 0) ∧ w5.cell? ⟨g5, 5, none⟩ = some (.int .i64 0) ∧ w5.cell? ⟨g5, 6, none⟩ = some (.int .i64 0) := ⟨H.cell (i := 1) rfl rfl, H.cell (i := 1) rfl rfl, H.cell (i := 1) rfl rfl, H.cell (i := 1) rfl rfl, H.cell (i := 1) rfl rfl, H.cell (i := 1) rfl rfl, H.cell (i := 1) rfl rfl⟩
   refine hKq.out _ _ (fun _ => hS46) (fun _ => ?_)
   clear hKq Kq
   refine held.take (i := 2) (v := ?_) rfl (by kernel_rfl) (by kernel_rfl) (by kernel_rfl) (by kernel_rfl) (by kernel_rfl) (fun _ _ _ h => h) (Or.inl ⟨by rfl, ?_⟩) hS46 ?_
   rotate_left
   · intro w hSw
     try dsimp only at hSw
     go_simp
     try with_reducible rfl
   try simp only [Act.put, List.getElem_toArray, List.getElem_cons_zero, List.getElem_cons_succ, List.setIfInBounds_toArray, List.set_cons_zero, List.set_cons_succ]
   refine held.step (i := 4) (by kernel_rfl) rfl (fun Kq hKq => ?_)
   refine step_store_hp (by rfl) 123 (.tmp 6) (.tmp 10) (by rfl) g6 0 (by first | rfl | simp [Act.eval, Act.put]) (.agg #[.bool false, .bool false, .string ⟨#[]⟩, .string ⟨#[105, 110, 99, 108, 117, 100, 101, 68, 101, 112, 114, 101, 99, 97, 116, 101, 100]⟩, .string ⟨#[66, 111, 111, 108, 101, 97, 110]⟩, .string ⟨#[]⟩, .bool true, .int .i64 5, .string ⟨#[102, 97, 108, 115, 101]⟩, .bool false, .slice none 0 0, .slice none 0 0, .int .i64 0, .int .i64 0, .slice none 0 0, .int .i64 0, .int .i64 0]) (by first | rfl | simp [Act.eval, Act.put]) [.bool false, .bool false, .string ⟨#[]⟩, .string ⟨#[105, 110, 99, 108, 117, 100, 101, 68, 101, 112, 114, 101, 99, 97, 116, 101, 100]⟩, .string ⟨#[66, 111, 111, 108, 101, 97, 110]⟩, .string ⟨#[]⟩, .bool true, .int .i64 5, .string ⟨#[102, 97, 108, 115, 101]⟩, .bool false, .slice none 0 0, .slice none 0 0, .int .i64 0, .int .i64 0, .slice none 0 0, .int .i64 0, .int .i64 0] (by rfl) (by simp [Value.oneCell']) (by kernel_rfl) H 0 [.bool false, .bool false, .string ⟨#[]⟩, .string ⟨#[]⟩, .string ⟨#[]⟩, .string ⟨#[]⟩, .bool false, .int .i64 0, .string ⟨#[]⟩, .bool false, .slice none 0 0, .slice none 0 0, .int .i64 0, .int .i64 0, .slice none 0 0, .int .i64 0, .int .i64 0] [.bool false, .bool false, .string ⟨#[]⟩, .string ⟨#[105, 110, 99, 108, 117, 100, 101, 68, 101, 112, 114, 101, 99, 97, 116, 101, 100]⟩, .string ⟨#[66, 111, 111, 108, 101, 97, 110]⟩, .string ⟨#[]⟩, .bool true, .int .i64 5, .string ⟨#[102, 97, 108, 115, 101]⟩, .bool false, .slice none 0 0, .slice none 0 0, .int .i64 0, .int .i64 0, .slice none 0 0, .int .i64 0, .int .i64 0] 123 (by rfl) (Nat.le_of_ble_eq_true (by rfl)) (by rfl) ?_
   clear H
   intro w47 H
   refine hKq.out _ _ (fun h => absurd (List.mem_singleton.2 rfl) h) (fun _ => ?_)
   clear hKq Kq
   refine held.done (by kernel_rfl) ?_ _
   simp only [Act.put, List.getElem_toArray, List.getElem_cons_zero, List.getElem_cons_succ, List.setIfInBounds_toArray, List.set_cons_zero, List.set_cons_succ]
   replace H : Hp _ _ _ (_ :: _ :: _ :: M) := H
   go_upto_region 3 with (fail)
   refine held.begin_ (fun w' => w'.cell? ⟨g6, 0, none⟩ = some (.bool false) ∧ w'.cell? ⟨g6, 1, none⟩ = some (.bool false) ∧ w'.cell? ⟨g6, 2, none⟩ = some (.string ⟨#[]⟩) ∧ w'.cell? ⟨g6, 3, none⟩ = some (.string ⟨#[105, 110, 99, 108, 117, 100, 101, 68, 101, 112, 114, 101, 99, 97, 116, 101, 100]⟩) ∧ w'.cell? ⟨g6, 4, none⟩ = some (.string ⟨#[66, 111, 111, 108, 101, 97, 110]⟩) ∧ w'.cell? ⟨g6, 5, none⟩ = some (.string ⟨#[]⟩) ∧ w'.cell? ⟨g6, 6, none⟩ = some (.bool true) ∧ w'.cell? ⟨g6, 7, none⟩ = some (.int .i64 5) ∧ w'.cell? ⟨g6, 8, none⟩ = some (.string ⟨#[102, 97, 108, 115, 101]⟩) ∧ w'.cell? ⟨g6, 9, none⟩ = some (.bool false) ∧ w'.cell? ⟨g6, 10, none⟩ = some (.slice none 0 0) ∧ w'.cell? ⟨g6, 11, none⟩ = some (.slice none 0 0) ∧ w'.cell? ⟨g6, 12, none⟩ = some (.int .i64 0) ∧ w'.cell? ⟨g6, 13, none⟩ = some (.int .i64 0) ∧ w'.cell? ⟨g6, 14, none⟩ = some (.slice none 0 0) ∧ w'.cell? ⟨g6, 15, none⟩ = some (.int .i64 0) ∧ w'.cell? ⟨g6, 16, none⟩ = some (.int .i64 0)) [6] (by kernel_rfl) ?_
   replace H := H.drew1
   obtain ⟨w48, hq49⟩ : ∃ x, (w47).drew = x := ⟨_, rfl⟩
   rw [hq49] at H ⊢
   clear hq49
   have hS50 : w48.cell? ⟨g6, 0, none⟩ = some (.bool false) ∧ w48.cell? ⟨g6, 1, none⟩ = some (.bool false) ∧ w48.cell? ⟨g6, 2, none⟩ = some (.string ⟨#[]⟩) ∧ w48.cell? ⟨g6, 3, none⟩ = some (.string ⟨#[105, 110, 99, 108, 117, 100, 101, 68, 101, 112, 114, 101, 99, 97, 116, 101, 100]⟩) ∧ w48.cell? ⟨g6, 4, none⟩ = some (.string ⟨#[66, 111, 111, 108, 101, 97, 110]⟩) ∧ w48.cell? ⟨g6, 5, none⟩ = some (.string ⟨#[]⟩) ∧ w48.cell? ⟨g6, 6, none⟩ = some (.bool true) ∧ w48.cell? ⟨g6, 7, none⟩ = some (.int .i64 5) ∧ w48.cell? ⟨g6, 8, none⟩ = some (.string ⟨#[102, 97, 108, 115, 101]⟩) ∧ w48.cell? ⟨g6, 9, none⟩ = some (.bool false) ∧ w48.cell? ⟨g6, 10, none⟩ = some (.slice none 0 0) ∧ w48.cell? ⟨g6, 11, none⟩ = some (.slice none 0 0) ∧ w48.cell? ⟨g6, 12, none⟩ = some (.int .i64 0) ∧ w48.cell? ⟨g6, 13, none⟩ = some (.int .i64 0) ∧ w48.cell? ⟨g6, 14, none⟩ = some (.slice none 0 0) ∧ w48.cell? ⟨g6, 15, none⟩ = some (.int .i64 0) ∧ w48.cell? ⟨g6, 16, none⟩ = some (.int .i64 0) := ⟨H.cell (i := 0) rfl rfl, H.cell (i := 0) rfl rfl, H.cell (i := 0) rfl rfl, H.cell (i := 0) rfl rfl, H.cell (i := 0) rfl rfl, H.cell (i := 0) rfl rfl, H.cell (i := 0) rfl rfl, H.cell (i := 0) rfl rfl, H.cell (i := 0) rfl rfl, H.cell (i := 0) rfl rfl, H.cell (i := 0) rfl rfl, H.cell (i := 0) rfl rfl, H.cell (i := 0) rfl rfl, H.cell (i := 0) rfl rfl, H.cell (i := 0) rfl rfl, H.cell (i := 0) rfl rfl, H.cell (i := 0) rfl rfl⟩
   refine held.take (i := 0) (v := ?_) rfl (by kernel_rfl) (by kernel_rfl) (by kernel_rfl) (by kernel_rfl) (by kernel_rfl) (fun _ _ _ h => h) (Or.inl ⟨by rfl, ?_⟩) hS50 ?_
   rotate_left
   · intro w hSw
     try dsimp only at hSw
     go_simp
     try with_reducible rfl
   try simp only [Act.put, List.getElem_toArray, List.getElem_cons_zero, List.getElem_cons_succ, List.setIfInBounds_toArray, List.set_cons_zero, List.set_cons_succ]
   refine held.take (i := 1) (v := ?_) rfl (by kernel_rfl) (by kernel_rfl) (by kernel_rfl) (by kernel_rfl) (by kernel_rfl) (fun _ _ _ h => h) (Or.inl ⟨by rfl, ?_⟩) hS50 ?_
   rotate_left
   · intro w hSw
     try dsimp only at hSw
     go_simp
     try with_reducible rfl
   try simp only [Act.put, List.getElem_toArray, List.getElem_cons_zero, List.getElem_cons_succ, List.setIfInBounds_toArray, List.set_cons_zero, List.set_cons_succ]
   refine held.take (i := 3) (v := ?_) rfl (by kernel_rfl) (by kernel_rfl) (by kernel_rfl) (by kernel_rfl) (by kernel_rfl) (fun _ _ _ h => h) (Or.inl ⟨by rfl, ?_⟩) hS50 ?_
   rotate_left
   · intro w hSw
     try dsimp only at hSw
     go_simp
     try with_reducible rfl
   try simp only [Act.put, List.getElem_toArray, List.getElem_cons_zero, List.getElem_cons_succ, List.setIfInBounds_toArray, List.set_cons_zero, List.set_cons_succ]
   refine step2 (i := 2) (j := 4) (by kernel_rfl) rfl rfl (fun Kq hKq => ?_) (fun Kq hKq => ?_)
   · skip
     go_simp
     replace H := H.alloc [.bool false, .bool false, .string ⟨#[]⟩, .string ⟨#[105, 110, 99, 108, 117, 100, 101, 68, 101, 112, 114, 101, 99, 97, 116, 101, 100]⟩, .string ⟨#[66, 111, 111, 108, 101, 97, 110]⟩, .string ⟨#[]⟩, .bool true, .int .i64 5, .string ⟨#[102, 97, 108, 115, 101]⟩, .bool false, .slice none 0 0, .slice none 0 0, .int .i64 0, .int .i64 0, .slice none 0 0, .int .i64 0, .int .i64 0] 123
     obtain ⟨w53, hq54⟩ : ∃ x, (w48).alloc (.cells #[.bool false, .bool false, .string ⟨#[]⟩, .string ⟨#[105, 110, 99, 108, 117, 100, 101, 68, 101, 112, 114, 101, 99, 97, 116, 101, 100]⟩, .string ⟨#[66, 111, 111, 108, 101, 97, 110]⟩, .string ⟨#[]⟩, .bool true, .int .i64 5, .string ⟨#[102, 97, 108, 115, 101]⟩, .bool false, .slice none 0 0, .slice none 0 0, .int .i64 0, .int .i64 0, .slice none 0 0, .int .i64 0, .int .i64 0] 123) = x := ⟨_, rfl⟩
     obtain ⟨gb51, hg52⟩ : ∃ x, (w48).heap.size = x := ⟨_, rfl⟩
     rw [hg52] at H ⊢
     rw [hq54] at H ⊢
     clear hg52 hq54
     have hS55 : w53.cell? ⟨g6, 0, none⟩ = some (.bool false) ∧ w53.cell? ⟨g6, 1, none⟩ = some (.bool false) ∧ w53.cell? ⟨g6, 2, none⟩ = some (.string ⟨#[]⟩) ∧ w53.cell? ⟨g6, 3, none⟩ = some (.string ⟨#[105, 110, 99, 108, 117, 100, 101, 68, 101, 112, 114, 101, 99, 97, 116, 101, 100]⟩) ∧ w53.cell? ⟨g6, 4, none⟩ = some (.string ⟨#[66, 111, 111, 108, 101, 97, 110]⟩) ∧ w53.cell? ⟨g6, 5, none⟩ = some (.string ⟨#[]⟩) ∧ w53.cell? ⟨g6, 6, none⟩ = some (.bool true) ∧ w53.cell? ⟨g6, 7, none⟩ = some (.int .i64 5) ∧ w53.cell? ⟨g6, 8, none⟩ = some (.string ⟨#[102, 97, 108, 115, 101]⟩) ∧ w53.cell? ⟨g6, 9, none⟩ = some (.bool false) ∧ w53.cell? ⟨g6, 10, none⟩ = some (.slice none 0 0) ∧ w53.cell? ⟨g6, 11, none⟩ = some (.slice none 0 0) ∧ w53.cell? ⟨g6, 12, none⟩ = some (.int .i64 0) ∧ w53.cell? ⟨g6, 13, none⟩ = some (.int .i64 0) ∧ w53.cell? ⟨g6, 14, none⟩ = some (.slice none 0 0) ∧ w53.cell? ⟨g6, 15, none⟩ = some (.int .i64 0) ∧ w53.cell? ⟨g6, 16, none⟩ = some (.int .i64 0) := ⟨H.cell (i := 1) rfl rfl, H.cell (i := 1) rfl rfl, H.cell (i := 1) rfl rfl, H.cell (i := 1) rfl rfl, H.cell (i := 1) rfl rfl, H.cell (i := 1) rfl rfl, H.cell (i := 1) rfl rfl, H.cell (i := 1) rfl rfl, H.cell (i := 1) rfl rfl, H.cell (i := 1) rfl rfl, H.cell (i := 1) rfl rfl, H.cell (i := 1) rfl rfl, H.cell (i := 1) rfl rfl, H.cell (i := 1) rfl rfl, H.cell (i := 1) rfl rfl, H.cell (i := 1) rfl rfl, H.cell (i := 1) rfl rfl⟩
     refine hKq.out _ _ (fun _ => hS55) (fun _ => ?_)
     clear hKq Kq
     refine held.step (i := 4) (by kernel_rfl) rfl (fun Kq hKq => ?_)
     go_simp
     refine (ref_hp _ _ _ _ _ _ H).mono ?_
     clear H
     rintro e w6 ⟨rfl, H⟩
     replace H : Hp _ _ _ (_ :: _ :: _ :: _ :: M) := H
     try go_simp
     have hS56 : w6.cell? ⟨g6, 0, none⟩ = some (.bool false) ∧ w6.cell? ⟨g6, 1, none⟩ = some (.bool false) ∧ w6.cell? ⟨g6, 2, none⟩ = some (.string ⟨#[]⟩) ∧ w6.cell? ⟨g6, 3, none⟩ = some (.string ⟨#[105, 110, 99, 108, 117, 100, 101, 68, 101, 112, 114, 101, 99, 97, 116, 101, 100]⟩) ∧ w6.cell? ⟨g6, 4, none⟩ = some (.string ⟨#[66, 111, 111, 108, 101, 97, 110]⟩) ∧ w6.cell? ⟨g6, 5, none⟩ = some (.string ⟨#[]⟩) ∧ w6.cell? ⟨g6, 6, none⟩ = some (.bool true) ∧ w6.cell? ⟨g6, 7, none⟩ = some (.int .i64 5) ∧ w6.cell? ⟨g6, 8, none⟩ = some (.string ⟨#[102, 97, 108, 115, 101]⟩) ∧ w6.cell? ⟨g6, 9, none⟩ = some (.bool false) ∧ w6.cell? ⟨g6, 10, none⟩ = some (.slice none 0 0) ∧ w6.cell? ⟨g6, 11, none⟩ = some (.slice none 0 0) ∧ w6.cell? ⟨g6, 12, none⟩ = some (.int .i64 0) ∧ w6.cell? ⟨g6, 13, none⟩ = some (.int .i64 0) ∧ w6.cell? ⟨g6, 14, none⟩ = some (.slice none 0 0) ∧ w6.cell? ⟨g6, 15, none⟩ = some (.int .i64 0) ∧ w6.cell? ⟨g6, 16, none⟩ = some (.int .i64 0) := ⟨H.cell (i := 1) rfl rfl, H.cell (i := 1) rfl rfl, H.cell (i := 1) rfl rfl, H.cell (i := 1) rfl rfl, H.cell (i := 1) rfl rfl, H.cell (i := 1) rfl rfl, H.cell (i := 1) rfl rfl, H.cell (i := 1) rfl rfl, H.cell (i := 1) rfl rfl, H.cell (i := 1) rfl rfl, H.cell (i := 1) rfl rfl, H.cell (i := 1) rfl rfl, H.cell (i := 1) rfl rfl, H.cell (i := 1) rfl rfl, H.cell (i := 1) rfl rfl, H.cell (i := 1) rfl rfl, H.cell (i := 1) rfl rfl⟩
     refine hKq.out _ _ (fun _ => hS56) (fun _ => ?_)
     clear hKq Kq
     refine held.take (i := 5) (v := ?_) rfl (by kernel_rfl) (by kernel_rfl) (by kernel_rfl) (by kernel_rfl) (by kernel_rfl) (fun _ _ _ h => h) (Or.inl ⟨by rfl, ?_⟩) hS56 ?_
     rotate_left
     · intro w hSw
       try dsimp only at hSw
       go_simp
       try with_reducible rfl
     try simp only [Act.put, List.getElem_toArray, List.getElem_cons_zero, List.getElem_cons_succ, List.setIfInBounds_toArray, List.set_cons_zero, List.set_cons_succ]
     refine held.step (i := 6) (by kernel_rfl) rfl (fun Kq hKq => ?_)
     refine step_store_hp (by rfl) 52 (.tmp 4) (.tmp 16) (by rfl) g4 0 (by first | rfl | simp [Act.eval, Act.put]) (.agg #[.bool false, .bool false, .string ⟨#[]⟩, .string s, .slice (some ⟨gb51, 0, none⟩) 1 1, .string t, .string ⟨#[33, 93]⟩, .slice none 0 0, .int .i64 0, .int .i64 0]) (by first | rfl | simp [Act.eval, Act.put]) [.bool false, .bool false, .string ⟨#[]⟩, .string s, .slice (some ⟨gb51, 0, none⟩) 1 1, .string t, .string ⟨#[33, 93]⟩, .slice none 0 0, .int .i64 0, .int .i64 0] (by rfl) (by simp [Value.oneCell']) (by kernel_rfl) H 3 [.bool false, .bool false, .string ⟨#[]⟩, .string ⟨#[]⟩, .slice none 0 0, .string ⟨#[]⟩, .string ⟨#[]⟩, .slice none 0 0, .int .i64 0, .int .i64 0] [.bool false, .bool false, .string ⟨#[]⟩, .string s, .slice (some ⟨gb51, 0, none⟩) 1 1, .string t, .string ⟨#[33, 93]⟩, .slice none 0 0, .int .i64 0, .int .i64 0] 52 (by rfl) (Nat.le_of_ble_eq_true (by rfl)) (by rfl) ?_
     clear H
     intro w57 H
     refine hKq.out _ _ (fun h => absurd (List.mem_singleton.2 rfl) h) (fun _ => ?_)
     clear hKq Kq
     refine held.done (by kernel_rfl) ?_ _
     simp only [Act.put, List.getElem_toArray, List.getElem_cons_zero, List.getElem_cons_succ, List.setIfInBounds_toArray, List.set_cons_zero, List.set_cons_succ]
     replace H : Hp _ _ _ (_ :: _ :: _ :: _ :: M) := H
     go_wp2_with fail
     refine bodyPost_ret (v := .agg #[.bool false, .bool false, .string ⟨#[]⟩, .string s, .slice (some ⟨gb51, 0, none⟩) 1 1, .string t, .string ⟨#[33, 93]⟩, .slice none 0 0, .int .i64 0, .int .i64 0]) (results_cell_row rfl _ _ g4 52 _ (0, 0) _ (by rfl) (H.blkAt (i := 3) rfl) Tryz.underlying52 rfl (by kernel_rfl)) rfl ?_
     replace H := H.sub (List.Sublist.cons_cons _ (List.Sublist.cons _ (List.Sublist.cons _ (List.Sublist.cons _ (List.Sublist.refl _)))))
     obtain ⟨K1, h1, H, hd⟩ := H.freezeBox (n := 1) (ls := inputsL [incD]) (by unfold incD; exact .lit (.lit (.lit (.lit (.lit (.lit (.lit (.lit (.lit (.lit (.cons RD.z (.cons RD.z (.lit (.lit (.cons RD.z (.lit (.lit RL.z))))))))))))))))) (by simp [maxLen])
     exact ⟨K1, _, rfl, h1, H, hd⟩
   · skip
     go_simp
     refine (ref_hp _ _ _ _ _ _ H).mono ?_
     clear H
     rintro e w6 ⟨rfl, H⟩
     replace H : Hp _ _ _ (_ :: _ :: _ :: M) := H
     try go_simp
     have hS58 : w6.cell? ⟨g6, 0, none⟩ = some (.bool false) ∧ w6.cell? ⟨g6, 1, none⟩ = some (.bool false) ∧ w6.cell? ⟨g6, 2, none⟩ = some (.string ⟨#[]⟩) ∧ w6.cell? ⟨g6, 3, none⟩ = some (.string ⟨#[105, 110, 99, 108, 117, 100, 101, 68, 101, 112, 114, 101, 99, 97, 116, 101, 100]⟩) ∧ w6.cell? ⟨g6, 4, none⟩ = some (.string ⟨#[66, 111, 111, 108, 101, 97, 110]⟩) ∧ w6.cell? ⟨g6, 5, none⟩ = some (.string ⟨#[]⟩) ∧ w6.cell? ⟨g6, 6, none⟩ = some (.bool true) ∧ w6.cell? ⟨g6, 7, none⟩ = some (.int .i64 5) ∧ w6.cell? ⟨g6, 8, none⟩ = some (.string ⟨#[102, 97, 108, 115, 101]⟩) ∧ w6.cell? ⟨g6, 9, none⟩ = some (.bool false) ∧ w6.cell? ⟨g6, 10, none⟩ = some (.slice none 0 0) ∧ w6.cell? ⟨g6, 11, none⟩ = some (.slice none 0 0) ∧ w6.cell? ⟨g6, 12, none⟩ = some (.int .i64 0) ∧ w6.cell? ⟨g6, 13, none⟩ = some (.int .i64 0) ∧ w6.cell? ⟨g6, 14, none⟩ = some (.slice none 0 0) ∧ w6.cell? ⟨g6, 15, none⟩ = some (.int .i64 0) ∧ w6.cell? ⟨g6, 16, none⟩ = some (.int .i64 0) := ⟨H.cell (i := 0) rfl rfl, H.cell (i := 0) rfl rfl, H.cell (i := 0) rfl rfl, H.cell (i := 0) rfl rfl, H.cell (i := 0) rfl rfl, H.cell (i := 0) rfl rfl, H.cell (i := 0) rfl rfl, H.cell (i := 0) rfl rfl, H.cell (i := 0) rfl rfl, H.cell (i := 0) rfl rfl, H.cell (i := 0) rfl rfl, H.cell (i := 0) rfl rfl, H.cell (i := 0) rfl rfl, H.cell (i := 0) rfl rfl, H.cell (i := 0) rfl rfl, H.cell (i := 0) rfl rfl, H.cell (i := 0) rfl rfl⟩
     refine hKq.out _ _ (fun _ => hS58) (fun _ => ?_)
     clear hKq Kq
     refine held.step (i := 2) (by kernel_rfl) rfl (fun Kq hKq => ?_)
     go_simp
     replace H := H.alloc [.bool false, .bool false, .string ⟨#[]⟩, .string ⟨#[105, 110, 99, 108, 117, 100, 101, 68, 101, 112, 114, 101, 99, 97, 116, 101, 100]⟩, .string ⟨#[66, 111, 111, 108, 101, 97, 110]⟩, .string ⟨#[]⟩, .bool true, .int .i64 5, .string ⟨#[102, 97, 108, 115, 101]⟩, .bool false, .slice none 0 0, .slice none 0 0, .int .i64 0, .int .i64 0, .slice none 0 0, .int .i64 0, .int .i64 0] 123
     obtain ⟨w61, hq62⟩ : ∃ x, (w6).alloc (.cells #[.bool false, .bool false, .string ⟨#[]⟩, .string ⟨#[105, 110, 99, 108, 117, 100, 101, 68, 101, 112, 114, 101, 99, 97, 116, 101, 100]⟩, .string ⟨#[66, 111, 111, 108, 101, 97, 110]⟩, .string ⟨#[]⟩, .bool true, .int .i64 5, .string ⟨#[102, 97, 108, 115, 101]⟩, .bool false, .slice none 0 0, .slice none 0 0, .int .i64 0, .int .i64 0, .slice none 0 0, .int .i64 0, .int .i64 0] 123) = x := ⟨_, rfl⟩
     obtain ⟨gb59, hg60⟩ : ∃ x, (w6).heap.size = x := ⟨_, rfl⟩
     rw [hg60] at H ⊢
     rw [hq62] at H ⊢
     clear hg60 hq62
     have hS63 : w61.cell? ⟨g6, 0, none⟩ = some (.bool false) ∧ w61.cell? ⟨g6, 1, none⟩ = some (.bool false) ∧ w61.cell? ⟨g6, 2, none⟩ = some (.string ⟨#[]⟩) ∧ w61.cell? ⟨g6, 3, none⟩ = some (.string ⟨#[105, 110, 99, 108, 117, 100, 101, 68, 101, 112, 114, 101, 99, 97, 116, 101, 100]⟩) ∧ w61.cell? ⟨g6, 4, none⟩ = some (.string ⟨#[66, 111, 111, 108, 101, 97, 110]⟩) ∧ w61.cell? ⟨g6, 5, none⟩ = some (.string ⟨#[]⟩) ∧ w61.cell? ⟨g6, 6, none⟩ = some (.bool true) ∧ w61.cell? ⟨g6, 7, none⟩ = some (.int .i64 5) ∧ w61.cell? ⟨g6, 8, none⟩ = some (.string ⟨#[102, 97, 108, 115, 101]⟩) ∧ w61.cell? ⟨g6, 9, none⟩ = some (.bool false) ∧ w61.cell? ⟨g6, 10, none⟩ = some (.slice none 0 0) ∧ w61.cell? ⟨g6, 11, none⟩ = some (.slice none 0 0) ∧ w61.cell? ⟨g6, 12, none⟩ = some (.int .i64 0) ∧ w61.cell? ⟨g6, 13, none⟩ = some (.int .i64 0) ∧ w61.cell? ⟨g6, 14, none⟩ = some (.slice none 0 0) ∧ w61.cell? ⟨g6, 15, none⟩ = some (.int .i64 0) ∧ w61.cell? ⟨g6, 16, none⟩ = some (.int .i64 0) := ⟨H.cell (i := 1) rfl rfl, H.cell (i := 1) rfl rfl, H.cell (i := 1) rfl rfl, H.cell (i := 1) rfl rfl, H.cell (i := 1) rfl rfl, H.cell (i := 1) rfl rfl, H.cell (i := 1) rfl rfl, H.cell (i := 1) rfl rfl, H.cell (i := 1) rfl rfl, H.cell (i := 1) rfl rfl, H.cell (i := 1) rfl rfl, H.cell (i := 1) rfl rfl, H.cell (i := 1) rfl rfl, H.cell (i := 1) rfl rfl, H.cell (i := 1) rfl rfl, H.cell (i := 1) rfl rfl, H.cell (i := 1) rfl rfl⟩
     refine hKq.out _ _ (fun _ => hS63) (fun _ => ?_)
     clear hKq Kq
     refine held.take (i := 5) (v := ?_) rfl (by kernel_rfl) (by kernel_rfl) (by kernel_rfl) (by kernel_rfl) (by kernel_rfl) (fun _ _ _ h => h) (Or.inl ⟨by rfl, ?_⟩) hS63 ?_
     rotate_left
     · intro w hSw
       try dsimp only at hSw
       go_simp
       try with_reducible rfl
     try simp only [Act.put, List.getElem_toArray, List.getElem_cons_zero, List.getElem_cons_succ, List.setIfInBounds_toArray, List.set_cons_zero, List.set_cons_succ]
     refine held.step (i := 6) (by kernel_rfl) rfl (fun Kq hKq => ?_)
     refine step_store_hp (by rfl) 52 (.tmp 4) (.tmp 16) (by rfl) g4 0 (by first | rfl | simp [Act.eval, Act.put]) (.agg #[.bool false, .bool false, .string ⟨#[]⟩, .string s, .slice (some ⟨gb59, 0, none⟩) 1 1, .string t, .string ⟨#[33, 93]⟩, .slice none 0 0, .int .i64 0, .int .i64 0]) (by first | rfl | simp [Act.eval, Act.put]) [.bool false, .bool false, .string ⟨#[]⟩, .string s, .slice (some ⟨gb59, 0, none⟩) 1 1, .string t, .string ⟨#[33, 93]⟩, .slice none 0 0, .int .i64 0, .int .i64 0] (by rfl) (by simp [Value.oneCell']) (by kernel_rfl) H 3 [.bool false, .bool false, .string ⟨#[]⟩, .string ⟨#[]⟩, .slice none 0 0, .string ⟨#[]⟩, .string ⟨#[]⟩, .slice none 0 0, .int .i64 0, .int .i64 0] [.bool false, .bool false, .string ⟨#[]⟩, .string s, .slice (some ⟨gb59, 0, none⟩) 1 1, .string t, .string ⟨#[33, 93]⟩, .slice none 0 0, .int .i64 0, .int .i64 0] 52 (by rfl) (Nat.le_of_ble_eq_true (by rfl)) (by rfl) ?_
     clear H
     intro w64 H
     refine hKq.out _ _ (fun h => absurd (List.mem_singleton.2 rfl) h) (fun _ => ?_)
     clear hKq Kq
     refine held.done (by kernel_rfl) ?_ _
     simp only [Act.put, List.getElem_toArray, List.getElem_cons_zero, List.getElem_cons_succ, List.setIfInBounds_toArray, List.set_cons_zero, List.set_cons_succ]
     replace H : Hp _ _ _ (_ :: _ :: _ :: _ :: M) := H
     go_wp2_with fail
     refine bodyPost_ret (v := .agg #[.bool false, .bool false, .string ⟨#[]⟩, .string s, .slice (some ⟨gb59, 0, none⟩) 1 1, .string t, .string ⟨#[33, 93]⟩, .slice none 0 0, .int .i64 0, .int .i64 0]) (results_cell_row rfl _ _ g4 52 _ (0, 0) _ (by rfl) (H.blkAt (i := 3) rfl) Tryz.underlying52 rfl (by kernel_rfl)) rfl ?_
     replace H := H.sub (List.Sublist.cons_cons _ (List.Sublist.cons _ (List.Sublist.cons _ (List.Sublist.cons _ (List.Sublist.refl _)))))
     obtain ⟨K1, h1, H, hd⟩ := H.freezeBox (n := 1) (ls := inputsL [incD]) (by unfold incD; exact .lit (.lit (.lit (.lit (.lit (.lit (.lit (.lit (.lit (.lit (.cons RD.z (.cons RD.z (.lit (.lit (.cons RD.z (.lit (.lit RL.z))))))))))))))))) (by simp [maxLen])
     exact ⟨K1, _, rfl, h1, H, hd⟩
end Go.Proofs.YtbpgkkoeehopjaaGreat.hp
namespace Go.Proofs.YtbpgkkoeehopjaaGreat.hp
open Go.RowKit Go.Proofs.YtbpgkkoeehopjaaGreat.words Go.Proofs.YtbpgkkoeehopjaaGreat.enc Go.Proofs.YtbpgkkoeehopjaaGreat.tree Go.Proofs.YtbpgkkoeehopjaaGreat.gram Go.Proofs.YtbpgkkoeehopjaaGreat.lex Go.Proofs.YtbpgkkoeehopjaaGreat.rd Go.Proofs.YtbpgkkoeehopjaaGreat.dec Go.Proofs.YtbpgkkoeehopjaaGreat.dat Go.Proofs.YtbpgkkoeehopjaaGreat.held
section
variable {P : Program} {w0 w w' K K' : World} {M : List Ent} {ops : Array Oper} {rest : List Oper} {o : Oper} {a : Act} {Q : Exit → Act → World → Prop} {i : Nat}
theorem add_zero_off (g j : Nat) : (⟨g, 0, none⟩ : Addr).add j = ⟨g, j, none⟩ := by unfold Addr.add; split <;> simp_all
theorem Hp.rowAt (H : Hp w0 w K M) {e : TypeId} {m n : Nat} {v : Value} {vs : List Value} (hi : M[i]? = some (.row e m v n vs)) (hne : 0 < n) :
  ∃ g c, v = .slice (some ⟨g, 0, none⟩) n c ∧ n ≤ c ∧ c ≤ maxLen ∧ vs.length = n * m := by
 have ho : w.ownsRow 0 e m v n vs := H.ok _ (List.mem_of_getElem? hi)
 rcases ho.2 with ⟨_, h⟩ | ⟨g, c, cur, rfl, _, hb, h1, h2, h3, h4⟩
 · omega
 · exact ⟨g, c, rfl, h1, h2, ho.1⟩
theorem Hp.rowCell (H : Hp w0 w K M) {e : TypeId} {m n g c : Nat} {vs : List Value} (hi : M[i]? = some (.row e m (.slice (some ⟨g, 0, none⟩) n c) n vs)) {j : Nat} {u : Value} (hu : vs[j]? = some u) : w.cell? ⟨g, j, none⟩ = some u := by
 have ho : w.ownsRow 0 e m _ n vs := H.ok _ (List.mem_of_getElem? hi)
 have := World.ownsRow.cells ho (g := g) rfl j u hu
 rwa [add_zero_off] at this
theorem Hp.rowFrozen (H : Hp w0 w K M) {e : TypeId} {m n g c : Nat} {vs : List Value} (hi : M[i]? = some (.row e m (.slice (some ⟨g, 0, none⟩) n c) n vs)) (j : Nat) : w.frozen? ⟨g, j, none⟩ = false := by
 have ho : w.ownsRow 0 e m _ n vs := H.ok _ (List.mem_of_getElem? hi)
 rcases ho.2 with ⟨h, _⟩ | ⟨g', c', cur, he, _, hb, _⟩
 · cases h
 · injection he with e1 _ e3
   injection e1 with e1
   injection e1 with e1
   subst e1
   exact frozen_of_row w _ j _ _ hb
theorem mid_len {vs us : List Value} {j : Nat} (hj : j + us.length ≤ vs.length) : (vs.take j ++ us ++ vs.drop (j + us.length)).length = vs.length := by
 simp only [List.length_append, List.length_take, List.length_drop]; omega
theorem Hp.rowSet (H : Hp w0 w K M) {e : TypeId} {m n g c : Nat} {vs us : List Value} (hi : M[i]? = some (.row e m (.slice (some ⟨g, 0, none⟩) n c) n vs)) (j : Nat) (hj : j + us.length ≤ vs.length) :
  Hp w0 (w.setCells g j us) K (M.set i (.row e m (.slice (some ⟨g, 0, none⟩) n c) n (vs.take j ++ us ++ vs.drop (j + us.length)))) := by
 refine H.setAt hi setCells_grown ?_ (.inl rfl)
 have ho : w.ownsRow 0 e m _ n vs := H.ok _ (List.mem_of_getElem? hi)
 refine ⟨(mid_len hj).trans ho.1, ?_⟩
 rcases ho.2 with ⟨h, _⟩ | ⟨g', c', cur, he, hb0, hb, h1, h2, h3, h4⟩
 · cases h
 · injection he with e1 _ e3
   injection e1 with e1
   injection e1 with e1
   subst e1 e3
   have hpost : cur.toList = vs ++ cur.toList.drop (n * m) := by rw [← h4, List.take_append_drop]
   generalize cur.toList.drop (n * m) = post at hpost
   have hvs : vs = vs.take j ++ (vs.drop j).take us.length ++ vs.drop (j + us.length) := by
    rw [List.append_assoc, ← List.drop_drop, List.take_append_drop, List.take_append_drop]
   have hcur : cur = (vs.take j ++ (vs.drop j).take us.length ++ (vs.drop (j + us.length) ++ post)).toArray := by
    apply Array.toList_inj.1
    rw [hpost]
    show vs ++ post = vs.take j ++ (vs.drop j).take us.length ++ (vs.drop (j + us.length) ++ post)
    rw [← List.append_assoc, ← hvs]
   rw [hcur] at hb
   have h5 := setL_at (us := us) (i := j) hb (by simp; omega) (by simp; omega)
   have hl : (vs.take j ++ us ++ vs.drop (j + us.length)).length = n * m := (mid_len hj).trans ho.1
   refine .inr ⟨g, c, _, rfl, hb0, by rw [setCells_eq]; exact h5, h1, h2, ?_, ?_⟩
   · have := congrArg List.length hpost
     simp only [Array.length_toList, List.length_append] at this
     have hl2 : (vs.take j ++ us ++ (vs.drop (j + us.length) ++ post)).length = n * m + post.length := by rw [← List.append_assoc, List.length_append, hl]
     simp only [List.size_toArray, hl2]
     rw [ho.1] at this
     omega
   · show ((vs.take j ++ us ++ (vs.drop (j + us.length) ++ post))).take (n * m) = _
     rw [← List.append_assoc, List.take_append_of_le_length (by omega), List.take_of_length_le (by omega)]
theorem store_row_op {Kc : Act → World → Prop} (ty : TypeId) (x y : Operand) (ho : o.op = .store ty x y) (g j : Nat) (hx : a.eval x = .pointer (some ⟨g, j, none⟩)) (v : Value) (hy : a.eval y = v) (us : List Value) (hv : v.cells = us.toArray)
  (hone : ∀ u ∈ us, u.oneCell' = true) (hsz : (P.info? ty).map (·.size) = some us.length) (H : Hp w0 w K M) (i : Nat) (e : TypeId) (m n c : Nat) (vs vs' : List Value) (hi : M[i]? = some (.row e m (.slice (some ⟨g, 0, none⟩) n c) n vs)) (hj : j + us.length ≤ vs.length) (hn : vs.take j ++ us ++ vs.drop (j + us.length) = vs')
  (h : ∀ w', Hp w0 w' K (M.set i (.row e m (.slice (some ⟨g, 0, none⟩) n c) n vs')) → Kc (a.put o.dst undef) w') : Oper.wp P o a w Kc Q := by
 have hrun : (storeVar ty ⟨g, j, none⟩ v).run P w = .ok () (w.setCells g j us) := by
  have := run_storeCells_cells (P := P) g j us 0 w (fun k hk => by
    have hk' : j + k < vs.length := by omega
    rw [Nat.add_zero, H.rowCell hi (List.getElem?_eq_getElem hk')]; rfl) (fun k hk => H.rowFrozen hi _) hone
  cases hq : P.info? ty with
  | none => simp [hq] at hsz
  | some ti =>
   have hs : us.length = ti.size := by simp [hq] at hsz; omega
   simp only [Nat.add_zero] at this
   simp [storeVar, sizeOf, typeInfo, hq, hv, hs, this]
 unfold Oper.wp execOp
 simp only [ho, hx, hy, Instr.storeAt, Instr.sureAddr, Sem.run_bind, Sem.run_pure, Result.andThen_ok, hrun]
 have := H.rowSet hi j hj
 rw [hn] at this
 exact h _ this
theorem step_store_row_hp {E : Prop} {Kc : Act → World → Prop} (hgd : o.guard = none) (ty : TypeId) (x y : Operand) (ho : o.op = .store ty x y) (g j : Nat) (hx : a.eval x = .pointer (some ⟨g, j, none⟩)) (v : Value) (hy : a.eval y = v) (us : List Value) (hv : v.cells = us.toArray)
  (hone : ∀ u ∈ us, u.oneCell' = true) (hsz : (P.info? ty).map (·.size) = some us.length) (H : Hp w0 w K M) (i : Nat) (e : TypeId) (m n c : Nat) (vs vs' : List Value) (hi : M[i]? = some (.row e m (.slice (some ⟨g, 0, none⟩) n c) n vs)) (hj : j + us.length ≤ vs.length) (hn : vs.take j ++ us ++ vs.drop (j + us.length) = vs')
  (h : ∀ w', Hp w0 w' K (M.set i (.row e m (.slice (some ⟨g, 0, none⟩) n c) n vs')) → Kc (a.put o.dst undef) w') : if Region.wanted o (yielded ops a.tmps) = true then Oper.wp P o a w Kc Q else E := by
 have hw : Region.wanted o (yielded ops a.tmps) = true := by simp [Region.wanted, hgd]
 rw [if_pos hw]
 exact store_row_op ty x y ho g j hx v hy us hv hone hsz H i e m n c vs vs' hi hj hn h
end
def trows (TS : List (DefD × DV)) : List Ent := TS.flatMap fun p => DV.rows p.1 p.2
def tcells (TS : List (DefD × DV)) : List Value := TS.flatMap fun p => DV.cells p.1 p.2
def tok (K : World) (TS : List (DefD × DV)) : Prop := ∀ p ∈ TS, p.2.ok K p.1
section
variable {w0 w w' K K' : World} {M : List Ent}
theorem tok.sat {TS : List (DefD × DV)} (h : tok K TS) (hs : Sat K' K) : tok K' TS := fun p hp => (h p hp).sat hs
theorem tcells_len : ∀ (TS : List (DefD × DV)), (tcells TS).length = TS.length * 17
 | [] => rfl
 | p :: r => by
  have h : tcells (p :: r) = DV.cells p.1 p.2 ++ tcells r := by simp [tcells]
  have h2 : (DV.cells p.1 p.2).length = 17 := rfl
  rw [h, List.length_append, tcells_len r, h2, List.length_cons]; omega
theorem tcells_app (A B : List (DefD × DV)) : tcells (A ++ B) = tcells A ++ tcells B := by simp [tcells]
theorem trows_app (A B : List (DefD × DV)) : trows (A ++ B) = trows A ++ trows B := by simp [trows]
theorem Hp.freezeDef {d : DefD} {V : DV} (H : Hp w0 w K (DV.rows d V ++ M)) (hV : V.ok K d) : ∃ K', Sat K' K ∧ Hp w0 w K' M ∧ RL K' (defL d) (DV.cells d V) := by
 obtain ⟨K1, s1, H, f8⟩ := H.freezeRow hV.r8
 replace hV := hV.sat s1
 obtain ⟨K2, s2, H, f11⟩ := H.freezeRow hV.r11
 replace hV := hV.sat s2
 replace f8 := f8.sat s2
 obtain ⟨K3, s3, H, f6⟩ := H.freezeRow hV.r6
 replace hV := hV.sat s3
 replace f8 := f8.sat s3
 replace f11 := f11.sat s3
 obtain ⟨K4, s4, H, f10⟩ := H.freezeRow hV.r10
 replace hV := hV.sat s4
 replace f8 := f8.sat s4
 replace f11 := f11.sat s4
 replace f6 := f6.sat s4
 obtain ⟨K5, s5, H, f14⟩ := H.freezeRow hV.r14
 replace hV := hV.sat s5
 replace f8 := f8.sat s5
 replace f11 := f11.sat s5
 replace f6 := f6.sat s5
 replace f10 := f10.sat s5
 obtain ⟨K6, s6, H, f12⟩ := H.freezeRow hV.r12
 replace hV := hV.sat s6
 replace f8 := f8.sat s6
 replace f11 := f11.sat s6
 replace f6 := f6.sat s6
 replace f10 := f10.sat s6
 replace f14 := f14.sat s6
 obtain ⟨K7, s7, H, f9⟩ := H.freezeRow hV.r9
 replace hV := hV.sat s7
 replace f8 := f8.sat s7
 replace f11 := f11.sat s7
 replace f6 := f6.sat s7
 replace f10 := f10.sat s7
 replace f14 := f14.sat s7
 replace f12 := f12.sat s7
 obtain ⟨K8, s8, H, f7⟩ := H.freezeRow hV.r7
 replace f8 := f8.sat s8
 replace f11 := f11.sat s8
 replace f6 := f6.sat s8
 replace f10 := f10.sat s8
 replace f14 := f14.sat s8
 replace f12 := f12.sat s8
 replace f9 := f9.sat s8
 exact ⟨K8, s8.trans (s7.trans (s6.trans (s5.trans (s4.trans (s3.trans (s2.trans s1)))))), H, by
  unfold defL DV.cells
  exact .lit (.lit (.lit (.lit (.lit (.lit (.cons f6 (.cons f7 (.cons f8 (.cons f9 (.cons f10 (.cons f11 (.cons f12 (.lit (.cons f14 (.lit (.lit RL.z))))))))))))))))⟩
theorem Hp.freezeDefs : ∀ {TS : List (DefD × DV)} {K : World}, Hp w0 w K (trows TS ++ M) → tok K TS → ∃ K', Sat K' K ∧ Hp w0 w K' M ∧ RL K' (defsL (TS.map (·.1))) (tcells TS)
 | [], K, H, _ => ⟨K, Sat.refl K, H, RL.z⟩
 | p :: TS, K, H, hok => by
  have H : Hp w0 w K (DV.rows p.1 p.2 ++ (trows TS ++ M)) := by
   have : trows (p :: TS) ++ M = DV.rows p.1 p.2 ++ (trows TS ++ M) := by simp [trows]
   rw [← this]; exact H
  obtain ⟨K1, s1, H, h1⟩ := H.freezeDef (hok p (List.mem_cons_self ..))
  obtain ⟨K2, s2, H, h2⟩ := Hp.freezeDefs (TS := TS) H (fun q hq => (hok q (List.mem_cons_of_mem _ hq)).sat s1)
  exact ⟨K2, s2.trans s1, H, (h1.sat s2).app h2⟩
end
set_option maxRecDepth 100000
attribute [local go_sem ↓] Go.wp_at_zero Go.wp_at_succ
theorem textsL_flat (l : List Txt) : textsL l = l.flatMap fun x => [str' x] := by
 induction l with
 | nil => rfl
 | cons x r ih => rw [List.flatMap_cons, ← ih]; rfl
theorem elem_text {w0 w K : World} {M : List Ent} {l : List Txt} {n c k : Nat} {A : Option Addr} {x : Txt} (H : Hp w0 w K M) (hd : RD K (.list n (textsL l)) (.slice A n c)) (hk : l[k]? = some x) : ∃ ad, A = some ad ∧ w.cell? (ad.add k) = some (.string (str x)) := by
 rw [textsL_flat] at hd
 obtain ⟨ad, vs, h1, h2, _, h4⟩ := elem_hp (m := 1) (f := fun x => [str' x]) (fun _ => rfl) H hd hk (by omega)
 obtain ⟨r, rfl, _⟩ := h2.lit_inv
 exact ⟨ad, h1, by simpa using h4.1 _ rfl⟩
def valD (x : Txt) : ValueD := ⟨noteZ, x, [], 0, 0⟩
def plD (x : Txt) : NamedD := ⟨x, 0, 0⟩
theorem vals_snoc {K : World} {l : List Txt} {x : Txt} {vs : List Value} (h : RL K (valuesL (l.map valD)) vs) : RL K (valuesL ((l ++ [x]).map valD)) (vs ++ [.bool false, .bool false, .string ⟨#[]⟩, .string (str x), .slice none 0 0, .int .i64 0, .int .i64 0]) := by
 rw [List.map_append, valuesL_app]
 exact h.app (by simp only [List.map_cons, List.map_nil, valuesL, List.flatMap_cons, List.flatMap_nil, List.append_nil]; exact .lit (.lit (.lit (.lit (.cons RD.z (.lit (.lit RL.z)))))))
theorem pls_snoc {K : World} {l : List Txt} {x : Txt} {vs : List Value} (h : RL K (namedsL (l.map plD)) vs) : RL K (namedsL ((l ++ [x]).map plD)) (vs ++ [.string (str x), .int .i64 0, .int .i64 0]) := by
 rw [List.map_append, namedsL_app]
 exact h.app (by simp only [List.map_cons, List.map_nil, namedsL, List.flatMap_cons, List.flatMap_nil, List.append_nil]; exact .lit (.lit (.lit RL.z)))
def EnumP (s : ByteArray) (l : List Txt) (w0 K : World) (M : List Ent) (e : Ending) (w' : World) : Prop :=
 ∃ K' A c, e = .returned (.agg #[.int .i64 6, .bool false, .bool false, .bool false, .string ⟨#[]⟩, .string s, .slice none 0 0, .slice none 0 0, .slice none 0 0, .slice none 0 0, .slice none 0 0, .slice A l.length c, .slice none 0 0, .bool false, .slice none 0 0, .int .i64 0, .int .i64 0]) ∧ Sat K' K ∧ Hp w0 w' K' M ∧ RD K' (.list l.length (valuesL (l.map valD))) (.slice A l.length c)
set_option maxHeartbeats 4000000 in
theorem enum_hp (s : ByteArray) (l : List Txt) (n c : Nat) (A : Option Addr) (w0 w K : World) (M : List Ent) (H : Hp w0 w K M) (hl : l.length = n) (hn : n ≤ 1000000) (hd : RD K (.list n (textsL l)) (.slice A n c)) :
  Calls Tryz.prog 103 #[.string s, .slice A n c] w (EnumP s l w0 K M) := by
 obtain ⟨k0, hk0, k0z, k0s, k0b⟩ := info_parts value_info
 have HL := hide hl
 clear hl
 go_enter Tryz.func103, Tryz.ntmps103
 go_upto_region 3 with (first
  | ((with_reducible refine isL ?_); first
   | (refine al z43 4 H ?_; clear H; intro w1 g4 H)
   | (refine al z43 5 H ?_; clear H; intro w3 g5 H)
   | (refine sA 5 0 H ?_; clear H; intro w5 H)))
 go_wp2_with fail
 go_loopw [12] (fun i wr => ∃ (k : Nat) (V : Value) (vs : List Value), k ≤ n ∧ i = .int .i64 k ∧ Hp w0 wr K (.row 133 7 V k vs :: .box g5 [.int .i64 6, .bool false, .bool false, .bool false, .string ⟨#[]⟩, .string s, .slice none 0 0, .slice none 0 0, .slice none 0 0, .slice none 0 0, .slice none 0 0, V, .slice none 0 0, .bool false, .slice none 0 0, .int .i64 0, .int .i64 0] 43 :: .box g4 [.int .i64 0, .bool false, .bool false, .bool false, .string ⟨#[]⟩, .string ⟨#[]⟩, .slice none 0 0, .slice none 0 0, .slice none 0 0, .slice none 0 0, .slice none 0 0, .slice none 0 0, .slice none 0 0, .bool false, .slice none 0 0, .int .i64 0, .int .i64 0] 43 :: M) ∧ RL K (valuesL ((l.take k).map valD)) vs) (fun i _ => n - (intOf i).toNat)
 case atStart => exact ⟨0, _, [], Nat.zero_le _, rfl, H.nilRow 133 7, RL.z⟩
 case round =>
  clear H
  obtain ⟨k, V, vs, hk, rfl, H, hvs⟩ := hrel
  obtain ⟨Av, cv, rfl, _, _⟩ := H.slice (i := 0) rfl
  by_cases hlt : k < n
  · have hkI : (k : Int) < (n : Int) := by omega
    obtain ⟨x, hx⟩ : ∃ x, l[k]? = some x := ⟨_, List.getElem?_eq_getElem (by rw [HL.out]; exact hlt)⟩
    have HE := hide (take_next hx)
    obtain ⟨ad, rfl, hc⟩ := elem_text H hd hx
    clear hx
    go_upto_region 5 with (fail)
    have := H.c 1 11
    go_upto_region 6 with (first
     | (refine buildSlice_hp (by rfl) 38 133 1 _ (by rfl) (some 20) (by rfl) Tryz.underlying38 [.bool false, .bool false, .string ⟨#[]⟩, .string (str x), .slice none 0 0, .int .i64 0, .int .i64 0] (by kernel_rfl) H ?_; clear H; intro w6 g20 H; have := H.c 2 11)
     | (at_builtin; refine append_hp (by rfl) _ _ 38 (by rfl) 133 k0 _ 7 80 Tryz.underlying38 hk0 k0z k0s k0b (by rfl) (by decide) H 1 (.slice Av k cv) (k) (vs) (by rfl) (by first | rfl | simp [Act.eval, Act.put]) (some ⟨g20, 0, none⟩) 1 1 [.bool false, .bool false, .string ⟨#[]⟩, .string (str x), .slice none 0 0, .int .i64 0, .int .i64 0] (by first | rfl | simp [Act.eval, Act.put]) (by rfl) (H.rd (i := 0) rfl) (by simp [Value.oneCell']) (by simp only [maxLen]; omega) (by omega) ?_; clear H; intro V2 w2 H; replace H : Hp w0 w2 K (.box g20 [.bool false, .bool false, .string ⟨#[]⟩, .string (str x), .slice none 0 0, .int .i64 0, .int .i64 0] 133 :: .row 133 7 (V2) (k + 1) (vs ++ [.bool false, .bool false, .string ⟨#[]⟩, .string (str x), .slice none 0 0, .int .i64 0, .int .i64 0]) :: .box g5 [.int .i64 6, .bool false, .bool false, .bool false, .string ⟨#[]⟩, .string s, .slice none 0 0, .slice none 0 0, .slice none 0 0, .slice none 0 0, .slice none 0 0, .slice Av k cv, .slice none 0 0, .bool false, .slice none 0 0, .int .i64 0, .int .i64 0] 43 :: .box g4 [.int .i64 0, .bool false, .bool false, .bool false, .string ⟨#[]⟩, .string ⟨#[]⟩, .slice none 0 0, .slice none 0 0, .slice none 0 0, .slice none 0 0, .slice none 0 0, .slice none 0 0, .slice none 0 0, .bool false, .slice none 0 0, .int .i64 0, .int .i64 0] 43 :: M) := H; obtain ⟨V2A, V2c, rfl, V2l, V2m⟩ := H.slice (i := 1) rfl; have := H.c 2 11)
     | ((with_reducible refine isL ?_); first
      | (refine s1 22 2 (.slice V2A (k + 1) V2c) H ?_; clear H; intro w7 H; have := H.c 2 11)))
    replace H := H.sub (List.Sublist.cons _ (List.Sublist.cons_cons _ (List.Sublist.cons_cons _ (List.Sublist.cons_cons _ (List.Sublist.refl _)))))
    go_wp2_with fail
    go_roundw
    case rel => exact ⟨k + 1, _, _, by omega, by go_num, H, by rw [HE.out]; exact vals_snoc hvs⟩
    case measure => simp [intOf]; omega
  · obtain rfl : n = k := by omega
    have htk : l.take n = l := by rw [← HL.out]; exact List.take_length
    rw [htk] at hvs
    clear htk
    go_upto_region 7 with (fail)
    go_wp2_with (first
     | ((with_reducible refine isL ?_); first
      | (refine ld 5 1 17 Tryz.underlying43 H ?_)
      | (refine sA 4 2 H ?_; clear H; intro w8 H)))
    refine bodyPost_ret (v := .agg #[.int .i64 6, .bool false, .bool false, .bool false, .string ⟨#[]⟩, .string s, .slice none 0 0, .slice none 0 0, .slice none 0 0, .slice none 0 0, .slice none 0 0, .slice Av n cv, .slice none 0 0, .bool false, .slice none 0 0, .int .i64 0, .int .i64 0]) (results_cell_row rfl _ _ g4 43 _ (0, 0) _ (by rfl) (H.blkAt (i := 2) rfl) Tryz.underlying43 rfl (by kernel_rfl)) rfl ?_
    replace H := H.sub (List.Sublist.cons_cons _ (List.Sublist.cons _ (List.Sublist.cons _ (List.Sublist.refl _))))
    obtain ⟨K', hle, H, hv⟩ := H.freezeRow hvs
    have hl' := HL.out
    exact ⟨K', Av, cv, by rw [hl'], hle, H, by rw [hl']; exact hv⟩
def DirP (s : ByteArray) (arg : InputD) (l : List Txt) (w0 K : World) (M : List Ent) (e : Ending) (w' : World) : Prop :=
 ∃ K' g A c, e = .returned (.agg #[.int .i64 8, .bool false, .bool false, .bool false, .string ⟨#[]⟩, .string s, .slice none 0 0, .slice none 0 0, .slice none 0 0, .slice (some ⟨g, 0, none⟩) 1 1, .slice none 0 0, .slice none 0 0, .slice none 0 0, .bool false, .slice A l.length c, .int .i64 0, .int .i64 0]) ∧ Sat K' K ∧ Hp w0 w' K' M ∧ RD K' (.list l.length (namedsL (l.map plD))) (.slice A l.length c) ∧ RD K' (.list 1 (inputsL [arg])) (.slice (some ⟨g, 0, none⟩) 1 1)
set_option maxHeartbeats 4000000 in
theorem directive_hp (s : ByteArray) (arg : InputD) (a0 a1 a2 a3 a4 a5 a6 a7 a8 a9 a10 a11 a12 a13 a14 a15 a16 : Value) (l : List Txt) (n c : Nat) (A : Option Addr) (w0 w K : World) (M : List Ent) (H : Hp w0 w K M) (hl : l.length = n) (hn : n ≤ 1000000) (hd : RD K (.list n (textsL l)) (.slice A n c)) (ha : RL K (inputL arg) [a0, a1, a2, a3, a4, a5, a6, a7, a8, a9, a10, a11, a12, a13, a14, a15, a16]) :
  Calls Tryz.prog 105 #[.string s, .agg #[a0, a1, a2, a3, a4, a5, a6, a7, a8, a9, a10, a11, a12, a13, a14, a15, a16], .slice A n c] w (DirP s arg l w0 K M) := by
 obtain ⟨k0, hk0, k0z, k0s, k0b⟩ := info_parts Go.Proofs.YtbpgkkoeehopjaaGreat.dat.named_info
 have HL := hide hl
 clear hl
 have hone := ha.one
 go_enter Tryz.func105, Tryz.ntmps105
 have hK := Sat.refl K
 go_upto_region 3 with (first
  | (refine box_hp (by rfl) 123 (.tmp 1) (by rfl) [a0, a1, a2, a3, a4, a5, a6, a7, a8, a9, a10, a11, a12, a13, a14, a15, a16] _ (by rfl) (by rfl) (some 4) (by rfl) H ?_; clear H; intro w9 g4 H hg10; clear hg10)
  | (refine buildSlice_hp (by rfl) 37 123 1 _ (by rfl) (some 12) (by rfl) Tryz.underlying37 [a0, a1, a2, a3, a4, a5, a6, a7, a8, a9, a10, a11, a12, a13, a14, a15, a16] (by kernel_rfl) H ?_; clear H; intro w13 g12 H; obtain ⟨K2, hle14, H, hin⟩ := H.freezeBox (n := 1) (ls := inputsL [arg]) ((by simpa [inputsL] using ha)) (by simp only [maxLen]; omega); replace hd := hd.sat hle14; replace ha := ha.sat hle14; replace hK := hle14.trans hK)
  | ((with_reducible refine isL ?_); first
   | (refine al z43 6 H ?_; clear H; intro w11 g6 H)
   | (refine ld 4 1 17 Tryz.underlying123 H ?_)
   | (refine al z43 7 H ?_; clear H; intro w15 g7 H)
   | (refine sA 7 0 H ?_; clear H; intro w17 H)))
 go_wp2_with fail
 go_loopw [16] (fun i wr => ∃ (k : Nat) (V : Value) (vs : List Value), k ≤ n ∧ i = .int .i64 k ∧ Hp w0 wr K2 (.row 113 3 V k vs :: .box g7 [.int .i64 8, .bool false, .bool false, .bool false, .string ⟨#[]⟩, .string s, .slice none 0 0, .slice none 0 0, .slice none 0 0, .slice (some ⟨g12, 0, none⟩) 1 1, .slice none 0 0, .slice none 0 0, .slice none 0 0, .bool false, V, .int .i64 0, .int .i64 0] 43 :: .box g6 [.int .i64 0, .bool false, .bool false, .bool false, .string ⟨#[]⟩, .string ⟨#[]⟩, .slice none 0 0, .slice none 0 0, .slice none 0 0, .slice none 0 0, .slice none 0 0, .slice none 0 0, .slice none 0 0, .bool false, .slice none 0 0, .int .i64 0, .int .i64 0] 43 :: M) ∧ RL K2 (namedsL ((l.take k).map plD)) vs) (fun i _ => n - (intOf i).toNat)
 case atStart => exact ⟨0, _, [], Nat.zero_le _, rfl, (H.sub (List.Sublist.cons_cons _ (List.Sublist.cons_cons _ (List.Sublist.cons _ (List.Sublist.refl _))))).nilRow 113 3, RL.z⟩
 case round =>
  clear H
  obtain ⟨k, V, vs, hk, rfl, H, hvs⟩ := hrel
  obtain ⟨Av, cv, rfl, _, _⟩ := H.slice (i := 0) rfl
  by_cases hlt : k < n
  · have hkI : (k : Int) < (n : Int) := by omega
    obtain ⟨x, hx⟩ : ∃ x, l[k]? = some x := ⟨_, List.getElem?_eq_getElem (by rw [HL.out]; exact hlt)⟩
    have HE := hide (take_next hx)
    obtain ⟨ad, rfl, hc⟩ := elem_text H hd hx
    clear hx
    go_upto_region 5 with (fail)
    have := H.c 1 14
    go_upto_region 6 with (first
     | (refine buildSlice_hp (by rfl) 34 113 1 _ (by rfl) (some 24) (by rfl) Tryz.underlying34 [.string (str x), .int .i64 0, .int .i64 0] (by kernel_rfl) H ?_; clear H; intro w18 g24 H; have := H.c 2 14)
     | (at_builtin; refine append_hp (by rfl) _ _ 34 (by rfl) 113 k0 _ 3 32 Tryz.underlying34 hk0 k0z k0s k0b (by rfl) (by decide) H 1 (.slice Av k cv) (k) (vs) (by rfl) (by first | rfl | simp [Act.eval, Act.put]) (some ⟨g24, 0, none⟩) 1 1 [.string (str x), .int .i64 0, .int .i64 0] (by first | rfl | simp [Act.eval, Act.put]) (by rfl) (H.rd (i := 0) rfl) (by simp [Value.oneCell']) (by simp only [maxLen]; omega) (by omega) ?_; clear H; intro V2 w2 H; replace H : Hp w0 w2 K2 (.box g24 [.string (str x), .int .i64 0, .int .i64 0] 113 :: .row 113 3 (V2) (k + 1) (vs ++ [.string (str x), .int .i64 0, .int .i64 0]) :: .box g7 [.int .i64 8, .bool false, .bool false, .bool false, .string ⟨#[]⟩, .string s, .slice none 0 0, .slice none 0 0, .slice none 0 0, .slice (some ⟨g12, 0, none⟩) 1 1, .slice none 0 0, .slice none 0 0, .slice none 0 0, .bool false, .slice Av k cv, .int .i64 0, .int .i64 0] 43 :: .box g6 [.int .i64 0, .bool false, .bool false, .bool false, .string ⟨#[]⟩, .string ⟨#[]⟩, .slice none 0 0, .slice none 0 0, .slice none 0 0, .slice none 0 0, .slice none 0 0, .slice none 0 0, .slice none 0 0, .bool false, .slice none 0 0, .int .i64 0, .int .i64 0] 43 :: M) := H; obtain ⟨V2A, V2c, rfl, V2l, V2m⟩ := H.slice (i := 1) rfl; have := H.c 2 14)
     | ((with_reducible refine isL ?_); first
      | (refine s1 26 2 (.slice V2A (k + 1) V2c) H ?_; clear H; intro w19 H; have := H.c 2 14)))
    replace H := H.sub (List.Sublist.cons _ (List.Sublist.cons_cons _ (List.Sublist.cons_cons _ (List.Sublist.cons_cons _ (List.Sublist.refl _)))))
    go_wp2_with fail
    go_roundw
    case rel => exact ⟨k + 1, _, _, by omega, by go_num, H, by rw [HE.out]; exact pls_snoc hvs⟩
    case measure => simp [intOf]; omega
  · obtain rfl : n = k := by omega
    have htk : l.take n = l := by rw [← HL.out]; exact List.take_length
    rw [htk] at hvs
    clear htk
    go_upto_region 7 with (fail)
    go_wp2_with (first
     | ((with_reducible refine isL ?_); first
      | (refine ld 7 1 17 Tryz.underlying43 H ?_)
      | (refine sA 6 2 H ?_; clear H; intro w20 H)))
    refine bodyPost_ret (v := .agg #[.int .i64 8, .bool false, .bool false, .bool false, .string ⟨#[]⟩, .string s, .slice none 0 0, .slice none 0 0, .slice none 0 0, .slice (some ⟨g12, 0, none⟩) 1 1, .slice none 0 0, .slice none 0 0, .slice none 0 0, .bool false, .slice Av n cv, .int .i64 0, .int .i64 0]) (results_cell_row rfl _ _ g6 43 _ (0, 0) _ (by rfl) (H.blkAt (i := 2) rfl) Tryz.underlying43 rfl (by kernel_rfl)) rfl ?_
    replace H := H.sub (List.Sublist.cons_cons _ (List.Sublist.cons _ (List.Sublist.cons _ (List.Sublist.refl _))))
    obtain ⟨K', hle, H, hv⟩ := H.freezeRow hvs
    have hl' := HL.out
    exact ⟨K', g12, Av, cv, by rw [hl'], hle.trans hK, H, by rw [hl']; exact hv, hin.sat hle⟩
end Go.Proofs.YtbpgkkoeehopjaaGreat.hp
