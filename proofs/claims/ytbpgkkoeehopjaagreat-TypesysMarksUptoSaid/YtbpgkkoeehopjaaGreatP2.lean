/- Part 2 of 17 of a proof: see the last part. -/
import Derived.Test.YtbpgkkoeehopjaaGreatP1
import Derived.Lib.MapLaws
import Derived.Lib.ValidU
import Derived.Lib.QuoteLoop
import Derived.Lib.Small
import Derived.Lib.FieldsU
import Derived.WalkSmall
import Derived.Lib.OthersKept
import Derived.Lib.RuneCountTail
import Derived.Deep.QuietTactic
import Derived.BigQuiet
set_option linter.unusedVariables false
set_option linter.unusedSimpArgs false
namespace Go.Proofs.YtbpgkkoeehopjaaGreat.lex
open Go.RowKit Go.Proofs.YtbpgkkoeehopjaaGreat.words Go.Proofs.YtbpgkkoeehopjaaGreat.enc Go.Proofs.YtbpgkkoeehopjaaGreat.tree Go.Proofs.YtbpgkkoeehopjaaGreat.gram
set_option maxRecDepth 100000
def shortF (c : Int) : Int := if c = 34 then 34 else if c = 92 then 92 else if c = 47 then 47 else if c = 98 then 8 else if c = 102 then 12 else if c = 110 then 10 else if c = 114 then 13 else if c = 116 then 9 else -1
def hexF (c : Int) : Int := if 48 ≤ c ∧ c ≤ 57 then c - 48 else if 97 ≤ c ∧ c ≤ 102 then c - 87 else if 65 ≤ c ∧ c ≤ 70 then c - 55 else -1
set_option maxHeartbeats 16000000 in
theorem short_any (c : Int) (w : World) : Calls Tryz.prog 218 #[.int .i32 c] w fun e w' => e = .returned (.int .i32 (shortF c)) ∧ w' = w := by
 obtain ⟨r, hr⟩ : ∃ r, shortF c = r := ⟨_, rfl⟩
 rw [hr]
 have HR := hide hr
 clear hr
 go_enter Tryz.func218, Tryz.ntmps218
 go_wp2_with fail
 go_loopw [5] (fun i wr => ∃ k : Nat, k ≤ 8 ∧ i = .int .i64 k ∧ Hid ((0 < k → c ≠ 34) ∧ (1 < k → c ≠ 92) ∧ (2 < k → c ≠ 47) ∧ (3 < k → c ≠ 98) ∧ (4 < k → c ≠ 102) ∧ (5 < k → c ≠ 110) ∧ (6 < k → c ≠ 114) ∧ (7 < k → c ≠ 116)) ∧ wr = w) (fun i _ => 8 - (intOf i).toNat)
 case atStart => exact ⟨0, by omega, rfl, by refine ⟨?_, ?_, ?_, ?_, ?_, ?_, ?_, ?_⟩ <;> omega, rfl⟩
 case round =>
  obtain ⟨k, hk, rfl, hno, rfl⟩ := hrel
  have hcs : k = 0 ∨ k = 1 ∨ k = 2 ∨ k = 3 ∨ k = 4 ∨ k = 5 ∨ k = 6 ∨ k = 7 ∨ k = 8 := by omega
  clear hk
  rcases hcs with rfl | rfl | rfl | rfl | rfl | rfl | rfl | rfl | rfl
  · have n1 : wrap32 ((({ data := #[34, 92, 47, 98, 102, 110, 114, 116] } : ByteArray)[0]'(by decide)).toNat : Int) = 34 := by kernel_rfl
    have n2 : wrap32 ((({ data := #[34, 92, 47, 8, 12, 10, 13, 9] } : ByteArray)[0]'(by decide)).toNat : Int) = 34 := by kernel_rfl
    by_cases heq : c = 34
    · subst heq
      clear hno
      go_wp2_with fail
      go_ret
      exact ⟨congrArg (fun z => Ending.returned (.int .i32 z)) (n2.trans (show (34 : Int) = r from HR.out)), rfl⟩
    · have b1 : ((34 : Int) == c) = false := by rw [beq_eq_false_iff_ne]; omega
      have h1 : Hid ((0 < 1 → c ≠ 34) ∧ (1 < 1 → c ≠ 92) ∧ (2 < 1 → c ≠ 47) ∧ (3 < 1 → c ≠ 98) ∧ (4 < 1 → c ≠ 102) ∧ (5 < 1 → c ≠ 110) ∧ (6 < 1 → c ≠ 114) ∧ (7 < 1 → c ≠ 116)) := by
       have h0 := hno.out
       refine ⟨?_, ?_, ?_, ?_, ?_, ?_, ?_, ?_⟩ <;> intro hx <;> first | omega | (intro hy; omega)
      clear hno heq
      go_wp2_with fail
      go_roundw
      case rel => exact ⟨1, by omega, rfl, h1, trivial⟩
      case measure => simp [intOf]
  · have n1 : wrap32 ((({ data := #[34, 92, 47, 98, 102, 110, 114, 116] } : ByteArray)[1]'(by decide)).toNat : Int) = 92 := by kernel_rfl
    have n2 : wrap32 ((({ data := #[34, 92, 47, 8, 12, 10, 13, 9] } : ByteArray)[1]'(by decide)).toNat : Int) = 92 := by kernel_rfl
    by_cases heq : c = 92
    · subst heq
      clear hno
      go_wp2_with fail
      go_ret
      exact ⟨congrArg (fun z => Ending.returned (.int .i32 z)) (n2.trans (show (92 : Int) = r from HR.out)), rfl⟩
    · have b1 : ((92 : Int) == c) = false := by rw [beq_eq_false_iff_ne]; omega
      have h1 : Hid ((0 < 2 → c ≠ 34) ∧ (1 < 2 → c ≠ 92) ∧ (2 < 2 → c ≠ 47) ∧ (3 < 2 → c ≠ 98) ∧ (4 < 2 → c ≠ 102) ∧ (5 < 2 → c ≠ 110) ∧ (6 < 2 → c ≠ 114) ∧ (7 < 2 → c ≠ 116)) := by
       have h0 := hno.out
       refine ⟨?_, ?_, ?_, ?_, ?_, ?_, ?_, ?_⟩ <;> intro hx <;> first | omega | (intro hy; omega)
      clear hno heq
      go_wp2_with fail
      go_roundw
      case rel => exact ⟨2, by omega, rfl, h1, trivial⟩
      case measure => simp [intOf]
  · have n1 : wrap32 ((({ data := #[34, 92, 47, 98, 102, 110, 114, 116] } : ByteArray)[2]'(by decide)).toNat : Int) = 47 := by kernel_rfl
    have n2 : wrap32 ((({ data := #[34, 92, 47, 8, 12, 10, 13, 9] } : ByteArray)[2]'(by decide)).toNat : Int) = 47 := by kernel_rfl
    by_cases heq : c = 47
    · subst heq
      clear hno
      go_wp2_with fail
      go_ret
      exact ⟨congrArg (fun z => Ending.returned (.int .i32 z)) (n2.trans (show (47 : Int) = r from HR.out)), rfl⟩
    · have b1 : ((47 : Int) == c) = false := by rw [beq_eq_false_iff_ne]; omega
      have h1 : Hid ((0 < 3 → c ≠ 34) ∧ (1 < 3 → c ≠ 92) ∧ (2 < 3 → c ≠ 47) ∧ (3 < 3 → c ≠ 98) ∧ (4 < 3 → c ≠ 102) ∧ (5 < 3 → c ≠ 110) ∧ (6 < 3 → c ≠ 114) ∧ (7 < 3 → c ≠ 116)) := by
       have h0 := hno.out
       refine ⟨?_, ?_, ?_, ?_, ?_, ?_, ?_, ?_⟩ <;> intro hx <;> first | omega | (intro hy; omega)
      clear hno heq
      go_wp2_with fail
      go_roundw
      case rel => exact ⟨3, by omega, rfl, h1, trivial⟩
      case measure => simp [intOf]
  · have n1 : wrap32 ((({ data := #[34, 92, 47, 98, 102, 110, 114, 116] } : ByteArray)[3]'(by decide)).toNat : Int) = 98 := by kernel_rfl
    have n2 : wrap32 ((({ data := #[34, 92, 47, 8, 12, 10, 13, 9] } : ByteArray)[3]'(by decide)).toNat : Int) = 8 := by kernel_rfl
    by_cases heq : c = 98
    · subst heq
      clear hno
      go_wp2_with fail
      go_ret
      exact ⟨congrArg (fun z => Ending.returned (.int .i32 z)) (n2.trans (show (8 : Int) = r from HR.out)), rfl⟩
    · have b1 : ((98 : Int) == c) = false := by rw [beq_eq_false_iff_ne]; omega
      have h1 : Hid ((0 < 4 → c ≠ 34) ∧ (1 < 4 → c ≠ 92) ∧ (2 < 4 → c ≠ 47) ∧ (3 < 4 → c ≠ 98) ∧ (4 < 4 → c ≠ 102) ∧ (5 < 4 → c ≠ 110) ∧ (6 < 4 → c ≠ 114) ∧ (7 < 4 → c ≠ 116)) := by
       have h0 := hno.out
       refine ⟨?_, ?_, ?_, ?_, ?_, ?_, ?_, ?_⟩ <;> intro hx <;> first | omega | (intro hy; omega)
      clear hno heq
      go_wp2_with fail
      go_roundw
      case rel => exact ⟨4, by omega, rfl, h1, trivial⟩
      case measure => simp [intOf]
  · have n1 : wrap32 ((({ data := #[34, 92, 47, 98, 102, 110, 114, 116] } : ByteArray)[4]'(by decide)).toNat : Int) = 102 := by kernel_rfl
    have n2 : wrap32 ((({ data := #[34, 92, 47, 8, 12, 10, 13, 9] } : ByteArray)[4]'(by decide)).toNat : Int) = 12 := by kernel_rfl
    by_cases heq : c = 102
    · subst heq
      clear hno
      go_wp2_with fail
      go_ret
      exact ⟨congrArg (fun z => Ending.returned (.int .i32 z)) (n2.trans (show (12 : Int) = r from HR.out)), rfl⟩
    · have b1 : ((102 : Int) == c) = false := by rw [beq_eq_false_iff_ne]; omega
      have h1 : Hid ((0 < 5 → c ≠ 34) ∧ (1 < 5 → c ≠ 92) ∧ (2 < 5 → c ≠ 47) ∧ (3 < 5 → c ≠ 98) ∧ (4 < 5 → c ≠ 102) ∧ (5 < 5 → c ≠ 110) ∧ (6 < 5 → c ≠ 114) ∧ (7 < 5 → c ≠ 116)) := by
       have h0 := hno.out
       refine ⟨?_, ?_, ?_, ?_, ?_, ?_, ?_, ?_⟩ <;> intro hx <;> first | omega | (intro hy; omega)
      clear hno heq
      go_wp2_with fail
      go_roundw
      case rel => exact ⟨5, by omega, rfl, h1, trivial⟩
      case measure => simp [intOf]
  · have n1 : wrap32 ((({ data := #[34, 92, 47, 98, 102, 110, 114, 116] } : ByteArray)[5]'(by decide)).toNat : Int) = 110 := by kernel_rfl
    have n2 : wrap32 ((({ data := #[34, 92, 47, 8, 12, 10, 13, 9] } : ByteArray)[5]'(by decide)).toNat : Int) = 10 := by kernel_rfl
    by_cases heq : c = 110
    · subst heq
      clear hno
      go_wp2_with fail
      go_ret
      exact ⟨congrArg (fun z => Ending.returned (.int .i32 z)) (n2.trans (show (10 : Int) = r from HR.out)), rfl⟩
    · have b1 : ((110 : Int) == c) = false := by rw [beq_eq_false_iff_ne]; omega
      have h1 : Hid ((0 < 6 → c ≠ 34) ∧ (1 < 6 → c ≠ 92) ∧ (2 < 6 → c ≠ 47) ∧ (3 < 6 → c ≠ 98) ∧ (4 < 6 → c ≠ 102) ∧ (5 < 6 → c ≠ 110) ∧ (6 < 6 → c ≠ 114) ∧ (7 < 6 → c ≠ 116)) := by
       have h0 := hno.out
       refine ⟨?_, ?_, ?_, ?_, ?_, ?_, ?_, ?_⟩ <;> intro hx <;> first | omega | (intro hy; omega)
      clear hno heq
      go_wp2_with fail
      go_roundw
      case rel => exact ⟨6, by omega, rfl, h1, trivial⟩
      case measure => simp [intOf]
  · have n1 : wrap32 ((({ data := #[34, 92, 47, 98, 102, 110, 114, 116] } : ByteArray)[6]'(by decide)).toNat : Int) = 114 := by kernel_rfl
    have n2 : wrap32 ((({ data := #[34, 92, 47, 8, 12, 10, 13, 9] } : ByteArray)[6]'(by decide)).toNat : Int) = 13 := by kernel_rfl
    by_cases heq : c = 114
    · subst heq
      clear hno
      go_wp2_with fail
      go_ret
      exact ⟨congrArg (fun z => Ending.returned (.int .i32 z)) (n2.trans (show (13 : Int) = r from HR.out)), rfl⟩
    · have b1 : ((114 : Int) == c) = false := by rw [beq_eq_false_iff_ne]; omega
      have h1 : Hid ((0 < 7 → c ≠ 34) ∧ (1 < 7 → c ≠ 92) ∧ (2 < 7 → c ≠ 47) ∧ (3 < 7 → c ≠ 98) ∧ (4 < 7 → c ≠ 102) ∧ (5 < 7 → c ≠ 110) ∧ (6 < 7 → c ≠ 114) ∧ (7 < 7 → c ≠ 116)) := by
       have h0 := hno.out
       refine ⟨?_, ?_, ?_, ?_, ?_, ?_, ?_, ?_⟩ <;> intro hx <;> first | omega | (intro hy; omega)
      clear hno heq
      go_wp2_with fail
      go_roundw
      case rel => exact ⟨7, by omega, rfl, h1, trivial⟩
      case measure => simp [intOf]
  · have n1 : wrap32 ((({ data := #[34, 92, 47, 98, 102, 110, 114, 116] } : ByteArray)[7]'(by decide)).toNat : Int) = 116 := by kernel_rfl
    have n2 : wrap32 ((({ data := #[34, 92, 47, 8, 12, 10, 13, 9] } : ByteArray)[7]'(by decide)).toNat : Int) = 9 := by kernel_rfl
    by_cases heq : c = 116
    · subst heq
      clear hno
      go_wp2_with fail
      go_ret
      exact ⟨congrArg (fun z => Ending.returned (.int .i32 z)) (n2.trans (show (9 : Int) = r from HR.out)), rfl⟩
    · have b1 : ((116 : Int) == c) = false := by rw [beq_eq_false_iff_ne]; omega
      have h1 : Hid ((0 < 8 → c ≠ 34) ∧ (1 < 8 → c ≠ 92) ∧ (2 < 8 → c ≠ 47) ∧ (3 < 8 → c ≠ 98) ∧ (4 < 8 → c ≠ 102) ∧ (5 < 8 → c ≠ 110) ∧ (6 < 8 → c ≠ 114) ∧ (7 < 8 → c ≠ 116)) := by
       have h0 := hno.out
       refine ⟨?_, ?_, ?_, ?_, ?_, ?_, ?_, ?_⟩ <;> intro hx <;> first | omega | (intro hy; omega)
      clear hno heq
      go_wp2_with fail
      go_roundw
      case rel => exact ⟨8, by omega, rfl, h1, trivial⟩
      case measure => simp [intOf]
  · have h0 := hno.out
    have hrr : r = -1 := by
     rw [← HR.out]
     unfold shortF
     repeat (first | rw [if_neg (by omega)] | rfl)
    subst hrr
    clear hno h0
    go_wp2_with fail
    go_ret
    exact ⟨rfl, rfl⟩
set_option maxHeartbeats 32000000 in
theorem Hex_any (c : Int) (w : World) : Calls Tryz.prog 222 #[.int .i32 c] w fun e w' => e = .returned (.int .i64 (hexF c)) ∧ w' = w := by
 obtain ⟨r, hr⟩ : ∃ r, hexF c = r := ⟨_, rfl⟩
 rw [hr]
 have HR := hide hr
 clear hr
 go_enter Tryz.func222, Tryz.ntmps222
 go_wp2_with fail
 go_loopw [5] (fun i wr => ∃ k : Nat, k ≤ 16 ∧ i = .int .i64 k ∧ Hid (¬ (48 ≤ c ∧ c ≤ 57 ∧ c < 48 + k) ∧ ¬ (97 ≤ c ∧ c + 10 < 97 + k) ∧ ¬ (65 ≤ c ∧ c + 10 < 65 + k)) ∧ wr = w) (fun i _ => 16 - (intOf i).toNat)
 case atStart => exact ⟨0, by omega, rfl, by refine ⟨?_, ?_, ?_⟩ <;> omega, rfl⟩
 case round =>
  obtain ⟨k, hk, rfl, hno, rfl⟩ := hrel
  have hcs : k = 0 ∨ k = 1 ∨ k = 2 ∨ k = 3 ∨ k = 4 ∨ k = 5 ∨ k = 6 ∨ k = 7 ∨ k = 8 ∨ k = 9 ∨ k = 10 ∨ k = 11 ∨ k = 12 ∨ k = 13 ∨ k = 14 ∨ k = 15 ∨ k = 16 := by omega
  clear hk
  rcases hcs with rfl | rfl | rfl | rfl | rfl | rfl | rfl | rfl | rfl | rfl | rfl | rfl | rfl | rfl | rfl | rfl | rfl
  · have n1 : wrap32 ((({ data := #[48, 49, 50, 51, 52, 53, 54, 55, 56, 57, 97, 98, 99, 100, 101, 102] } : ByteArray)[0]'(by decide)).toNat : Int) = 48 := by kernel_rfl
    have n2 : wrap32 ((({ data := #[48, 49, 50, 51, 52, 53, 54, 55, 56, 57, 65, 66, 67, 68, 69, 70] } : ByteArray)[0]'(by decide)).toNat : Int) = 48 := by kernel_rfl
    by_cases heq : c = 48
    · subst heq
      clear hno
      go_wp2_with fail
      go_ret
      refine ⟨?_, rfl⟩
      rw [← HR.out]
      rfl
    have b1 : ((48 : Int) == c) = false := by rw [beq_eq_false_iff_ne]; omega
    have h1 : Hid (¬ (48 ≤ c ∧ c ≤ 57 ∧ c < 48 + ((1 : Nat) : Int)) ∧ ¬ (97 ≤ c ∧ c + 10 < 97 + ((1 : Nat) : Int)) ∧ ¬ (65 ≤ c ∧ c + 10 < 65 + ((1 : Nat) : Int))) := by
     have h0 := hno.out
     refine ⟨?_, ?_, ?_⟩ <;> omega
    clear hno heq
    go_wp2_with fail
    go_roundw
    case rel => exact ⟨1, by omega, rfl, h1, trivial⟩
    case measure => simp [intOf]
  · have n1 : wrap32 ((({ data := #[48, 49, 50, 51, 52, 53, 54, 55, 56, 57, 97, 98, 99, 100, 101, 102] } : ByteArray)[1]'(by decide)).toNat : Int) = 49 := by kernel_rfl
    have n2 : wrap32 ((({ data := #[48, 49, 50, 51, 52, 53, 54, 55, 56, 57, 65, 66, 67, 68, 69, 70] } : ByteArray)[1]'(by decide)).toNat : Int) = 49 := by kernel_rfl
    by_cases heq : c = 49
    · subst heq
      clear hno
      go_wp2_with fail
      go_ret
      refine ⟨?_, rfl⟩
      rw [← HR.out]
      rfl
    have b1 : ((49 : Int) == c) = false := by rw [beq_eq_false_iff_ne]; omega
    have h1 : Hid (¬ (48 ≤ c ∧ c ≤ 57 ∧ c < 48 + ((2 : Nat) : Int)) ∧ ¬ (97 ≤ c ∧ c + 10 < 97 + ((2 : Nat) : Int)) ∧ ¬ (65 ≤ c ∧ c + 10 < 65 + ((2 : Nat) : Int))) := by
     have h0 := hno.out
     refine ⟨?_, ?_, ?_⟩ <;> omega
    clear hno heq
    go_wp2_with fail
    go_roundw
    case rel => exact ⟨2, by omega, rfl, h1, trivial⟩
    case measure => simp [intOf]
  · have n1 : wrap32 ((({ data := #[48, 49, 50, 51, 52, 53, 54, 55, 56, 57, 97, 98, 99, 100, 101, 102] } : ByteArray)[2]'(by decide)).toNat : Int) = 50 := by kernel_rfl
    have n2 : wrap32 ((({ data := #[48, 49, 50, 51, 52, 53, 54, 55, 56, 57, 65, 66, 67, 68, 69, 70] } : ByteArray)[2]'(by decide)).toNat : Int) = 50 := by kernel_rfl
    by_cases heq : c = 50
    · subst heq
      clear hno
      go_wp2_with fail
      go_ret
      refine ⟨?_, rfl⟩
      rw [← HR.out]
      rfl
    have b1 : ((50 : Int) == c) = false := by rw [beq_eq_false_iff_ne]; omega
    have h1 : Hid (¬ (48 ≤ c ∧ c ≤ 57 ∧ c < 48 + ((3 : Nat) : Int)) ∧ ¬ (97 ≤ c ∧ c + 10 < 97 + ((3 : Nat) : Int)) ∧ ¬ (65 ≤ c ∧ c + 10 < 65 + ((3 : Nat) : Int))) := by
     have h0 := hno.out
     refine ⟨?_, ?_, ?_⟩ <;> omega
    clear hno heq
    go_wp2_with fail
    go_roundw
    case rel => exact ⟨3, by omega, rfl, h1, trivial⟩
    case measure => simp [intOf]
  · have n1 : wrap32 ((({ data := #[48, 49, 50, 51, 52, 53, 54, 55, 56, 57, 97, 98, 99, 100, 101, 102] } : ByteArray)[3]'(by decide)).toNat : Int) = 51 := by kernel_rfl
    have n2 : wrap32 ((({ data := #[48, 49, 50, 51, 52, 53, 54, 55, 56, 57, 65, 66, 67, 68, 69, 70] } : ByteArray)[3]'(by decide)).toNat : Int) = 51 := by kernel_rfl
    by_cases heq : c = 51
    · subst heq
      clear hno
      go_wp2_with fail
      go_ret
      refine ⟨?_, rfl⟩
      rw [← HR.out]
      rfl
    have b1 : ((51 : Int) == c) = false := by rw [beq_eq_false_iff_ne]; omega
    have h1 : Hid (¬ (48 ≤ c ∧ c ≤ 57 ∧ c < 48 + ((4 : Nat) : Int)) ∧ ¬ (97 ≤ c ∧ c + 10 < 97 + ((4 : Nat) : Int)) ∧ ¬ (65 ≤ c ∧ c + 10 < 65 + ((4 : Nat) : Int))) := by
     have h0 := hno.out
     refine ⟨?_, ?_, ?_⟩ <;> omega
    clear hno heq
    go_wp2_with fail
    go_roundw
    case rel => exact ⟨4, by omega, rfl, h1, trivial⟩
    case measure => simp [intOf]
  · have n1 : wrap32 ((({ data := #[48, 49, 50, 51, 52, 53, 54, 55, 56, 57, 97, 98, 99, 100, 101, 102] } : ByteArray)[4]'(by decide)).toNat : Int) = 52 := by kernel_rfl
    have n2 : wrap32 ((({ data := #[48, 49, 50, 51, 52, 53, 54, 55, 56, 57, 65, 66, 67, 68, 69, 70] } : ByteArray)[4]'(by decide)).toNat : Int) = 52 := by kernel_rfl
    by_cases heq : c = 52
    · subst heq
      clear hno
      go_wp2_with fail
      go_ret
      refine ⟨?_, rfl⟩
      rw [← HR.out]
      rfl
    have b1 : ((52 : Int) == c) = false := by rw [beq_eq_false_iff_ne]; omega
    have h1 : Hid (¬ (48 ≤ c ∧ c ≤ 57 ∧ c < 48 + ((5 : Nat) : Int)) ∧ ¬ (97 ≤ c ∧ c + 10 < 97 + ((5 : Nat) : Int)) ∧ ¬ (65 ≤ c ∧ c + 10 < 65 + ((5 : Nat) : Int))) := by
     have h0 := hno.out
     refine ⟨?_, ?_, ?_⟩ <;> omega
    clear hno heq
    go_wp2_with fail
    go_roundw
    case rel => exact ⟨5, by omega, rfl, h1, trivial⟩
    case measure => simp [intOf]
  · have n1 : wrap32 ((({ data := #[48, 49, 50, 51, 52, 53, 54, 55, 56, 57, 97, 98, 99, 100, 101, 102] } : ByteArray)[5]'(by decide)).toNat : Int) = 53 := by kernel_rfl
    have n2 : wrap32 ((({ data := #[48, 49, 50, 51, 52, 53, 54, 55, 56, 57, 65, 66, 67, 68, 69, 70] } : ByteArray)[5]'(by decide)).toNat : Int) = 53 := by kernel_rfl
    by_cases heq : c = 53
    · subst heq
      clear hno
      go_wp2_with fail
      go_ret
      refine ⟨?_, rfl⟩
      rw [← HR.out]
      rfl
    have b1 : ((53 : Int) == c) = false := by rw [beq_eq_false_iff_ne]; omega
    have h1 : Hid (¬ (48 ≤ c ∧ c ≤ 57 ∧ c < 48 + ((6 : Nat) : Int)) ∧ ¬ (97 ≤ c ∧ c + 10 < 97 + ((6 : Nat) : Int)) ∧ ¬ (65 ≤ c ∧ c + 10 < 65 + ((6 : Nat) : Int))) := by
     have h0 := hno.out
     refine ⟨?_, ?_, ?_⟩ <;> omega
    clear hno heq
    go_wp2_with fail
    go_roundw
    case rel => exact ⟨6, by omega, rfl, h1, trivial⟩
    case measure => simp [intOf]
  · have n1 : wrap32 ((({ data := #[48, 49, 50, 51, 52, 53, 54, 55, 56, 57, 97, 98, 99, 100, 101, 102] } : ByteArray)[6]'(by decide)).toNat : Int) = 54 := by kernel_rfl
    have n2 : wrap32 ((({ data := #[48, 49, 50, 51, 52, 53, 54, 55, 56, 57, 65, 66, 67, 68, 69, 70] } : ByteArray)[6]'(by decide)).toNat : Int) = 54 := by kernel_rfl
    by_cases heq : c = 54
    · subst heq
      clear hno
      go_wp2_with fail
      go_ret
      refine ⟨?_, rfl⟩
      rw [← HR.out]
      rfl
    have b1 : ((54 : Int) == c) = false := by rw [beq_eq_false_iff_ne]; omega
    have h1 : Hid (¬ (48 ≤ c ∧ c ≤ 57 ∧ c < 48 + ((7 : Nat) : Int)) ∧ ¬ (97 ≤ c ∧ c + 10 < 97 + ((7 : Nat) : Int)) ∧ ¬ (65 ≤ c ∧ c + 10 < 65 + ((7 : Nat) : Int))) := by
     have h0 := hno.out
     refine ⟨?_, ?_, ?_⟩ <;> omega
    clear hno heq
    go_wp2_with fail
    go_roundw
    case rel => exact ⟨7, by omega, rfl, h1, trivial⟩
    case measure => simp [intOf]
  · have n1 : wrap32 ((({ data := #[48, 49, 50, 51, 52, 53, 54, 55, 56, 57, 97, 98, 99, 100, 101, 102] } : ByteArray)[7]'(by decide)).toNat : Int) = 55 := by kernel_rfl
    have n2 : wrap32 ((({ data := #[48, 49, 50, 51, 52, 53, 54, 55, 56, 57, 65, 66, 67, 68, 69, 70] } : ByteArray)[7]'(by decide)).toNat : Int) = 55 := by kernel_rfl
    by_cases heq : c = 55
    · subst heq
      clear hno
      go_wp2_with fail
      go_ret
      refine ⟨?_, rfl⟩
      rw [← HR.out]
      rfl
    have b1 : ((55 : Int) == c) = false := by rw [beq_eq_false_iff_ne]; omega
    have h1 : Hid (¬ (48 ≤ c ∧ c ≤ 57 ∧ c < 48 + ((8 : Nat) : Int)) ∧ ¬ (97 ≤ c ∧ c + 10 < 97 + ((8 : Nat) : Int)) ∧ ¬ (65 ≤ c ∧ c + 10 < 65 + ((8 : Nat) : Int))) := by
     have h0 := hno.out
     refine ⟨?_, ?_, ?_⟩ <;> omega
    clear hno heq
    go_wp2_with fail
    go_roundw
    case rel => exact ⟨8, by omega, rfl, h1, trivial⟩
    case measure => simp [intOf]
  · have n1 : wrap32 ((({ data := #[48, 49, 50, 51, 52, 53, 54, 55, 56, 57, 97, 98, 99, 100, 101, 102] } : ByteArray)[8]'(by decide)).toNat : Int) = 56 := by kernel_rfl
    have n2 : wrap32 ((({ data := #[48, 49, 50, 51, 52, 53, 54, 55, 56, 57, 65, 66, 67, 68, 69, 70] } : ByteArray)[8]'(by decide)).toNat : Int) = 56 := by kernel_rfl
    by_cases heq : c = 56
    · subst heq
      clear hno
      go_wp2_with fail
      go_ret
      refine ⟨?_, rfl⟩
      rw [← HR.out]
      rfl
    have b1 : ((56 : Int) == c) = false := by rw [beq_eq_false_iff_ne]; omega
    have h1 : Hid (¬ (48 ≤ c ∧ c ≤ 57 ∧ c < 48 + ((9 : Nat) : Int)) ∧ ¬ (97 ≤ c ∧ c + 10 < 97 + ((9 : Nat) : Int)) ∧ ¬ (65 ≤ c ∧ c + 10 < 65 + ((9 : Nat) : Int))) := by
     have h0 := hno.out
     refine ⟨?_, ?_, ?_⟩ <;> omega
    clear hno heq
    go_wp2_with fail
    go_roundw
    case rel => exact ⟨9, by omega, rfl, h1, trivial⟩
    case measure => simp [intOf]
  · have n1 : wrap32 ((({ data := #[48, 49, 50, 51, 52, 53, 54, 55, 56, 57, 97, 98, 99, 100, 101, 102] } : ByteArray)[9]'(by decide)).toNat : Int) = 57 := by kernel_rfl
    have n2 : wrap32 ((({ data := #[48, 49, 50, 51, 52, 53, 54, 55, 56, 57, 65, 66, 67, 68, 69, 70] } : ByteArray)[9]'(by decide)).toNat : Int) = 57 := by kernel_rfl
    by_cases heq : c = 57
    · subst heq
      clear hno
      go_wp2_with fail
      go_ret
      refine ⟨?_, rfl⟩
      rw [← HR.out]
      rfl
    have b1 : ((57 : Int) == c) = false := by rw [beq_eq_false_iff_ne]; omega
    have h1 : Hid (¬ (48 ≤ c ∧ c ≤ 57 ∧ c < 48 + ((10 : Nat) : Int)) ∧ ¬ (97 ≤ c ∧ c + 10 < 97 + ((10 : Nat) : Int)) ∧ ¬ (65 ≤ c ∧ c + 10 < 65 + ((10 : Nat) : Int))) := by
     have h0 := hno.out
     refine ⟨?_, ?_, ?_⟩ <;> omega
    clear hno heq
    go_wp2_with fail
    go_roundw
    case rel => exact ⟨10, by omega, rfl, h1, trivial⟩
    case measure => simp [intOf]
  · have n1 : wrap32 ((({ data := #[48, 49, 50, 51, 52, 53, 54, 55, 56, 57, 97, 98, 99, 100, 101, 102] } : ByteArray)[10]'(by decide)).toNat : Int) = 97 := by kernel_rfl
    have n2 : wrap32 ((({ data := #[48, 49, 50, 51, 52, 53, 54, 55, 56, 57, 65, 66, 67, 68, 69, 70] } : ByteArray)[10]'(by decide)).toNat : Int) = 65 := by kernel_rfl
    by_cases heq : c = 97
    · subst heq
      clear hno
      go_wp2_with fail
      go_ret
      refine ⟨?_, rfl⟩
      rw [← HR.out]
      rfl
    by_cases heq2 : c = 65
    · subst heq2
      clear hno
      go_wp2_with fail
      go_ret
      refine ⟨?_, rfl⟩
      rw [← HR.out]
      rfl
    have b1 : ((97 : Int) == c) = false := by rw [beq_eq_false_iff_ne]; omega
    have b2 : ((65 : Int) == c) = false := by rw [beq_eq_false_iff_ne]; omega
    have h1 : Hid (¬ (48 ≤ c ∧ c ≤ 57 ∧ c < 48 + ((11 : Nat) : Int)) ∧ ¬ (97 ≤ c ∧ c + 10 < 97 + ((11 : Nat) : Int)) ∧ ¬ (65 ≤ c ∧ c + 10 < 65 + ((11 : Nat) : Int))) := by
     have h0 := hno.out
     refine ⟨?_, ?_, ?_⟩ <;> omega
    clear hno heq heq2
    go_wp2_with fail
    go_roundw
    case rel => exact ⟨11, by omega, rfl, h1, trivial⟩
    case measure => simp [intOf]
  · have n1 : wrap32 ((({ data := #[48, 49, 50, 51, 52, 53, 54, 55, 56, 57, 97, 98, 99, 100, 101, 102] } : ByteArray)[11]'(by decide)).toNat : Int) = 98 := by kernel_rfl
    have n2 : wrap32 ((({ data := #[48, 49, 50, 51, 52, 53, 54, 55, 56, 57, 65, 66, 67, 68, 69, 70] } : ByteArray)[11]'(by decide)).toNat : Int) = 66 := by kernel_rfl
    by_cases heq : c = 98
    · subst heq
      clear hno
      go_wp2_with fail
      go_ret
      refine ⟨?_, rfl⟩
      rw [← HR.out]
      rfl
    by_cases heq2 : c = 66
    · subst heq2
      clear hno
      go_wp2_with fail
      go_ret
      refine ⟨?_, rfl⟩
      rw [← HR.out]
      rfl
    have b1 : ((98 : Int) == c) = false := by rw [beq_eq_false_iff_ne]; omega
    have b2 : ((66 : Int) == c) = false := by rw [beq_eq_false_iff_ne]; omega
    have h1 : Hid (¬ (48 ≤ c ∧ c ≤ 57 ∧ c < 48 + ((12 : Nat) : Int)) ∧ ¬ (97 ≤ c ∧ c + 10 < 97 + ((12 : Nat) : Int)) ∧ ¬ (65 ≤ c ∧ c + 10 < 65 + ((12 : Nat) : Int))) := by
     have h0 := hno.out
     refine ⟨?_, ?_, ?_⟩ <;> omega
    clear hno heq heq2
    go_wp2_with fail
    go_roundw
    case rel => exact ⟨12, by omega, rfl, h1, trivial⟩
    case measure => simp [intOf]
  · have n1 : wrap32 ((({ data := #[48, 49, 50, 51, 52, 53, 54, 55, 56, 57, 97, 98, 99, 100, 101, 102] } : ByteArray)[12]'(by decide)).toNat : Int) = 99 := by kernel_rfl
    have n2 : wrap32 ((({ data := #[48, 49, 50, 51, 52, 53, 54, 55, 56, 57, 65, 66, 67, 68, 69, 70] } : ByteArray)[12]'(by decide)).toNat : Int) = 67 := by kernel_rfl
    by_cases heq : c = 99
    · subst heq
      clear hno
      go_wp2_with fail
      go_ret
      refine ⟨?_, rfl⟩
      rw [← HR.out]
      rfl
    by_cases heq2 : c = 67
    · subst heq2
      clear hno
      go_wp2_with fail
      go_ret
      refine ⟨?_, rfl⟩
      rw [← HR.out]
      rfl
    have b1 : ((99 : Int) == c) = false := by rw [beq_eq_false_iff_ne]; omega
    have b2 : ((67 : Int) == c) = false := by rw [beq_eq_false_iff_ne]; omega
    have h1 : Hid (¬ (48 ≤ c ∧ c ≤ 57 ∧ c < 48 + ((13 : Nat) : Int)) ∧ ¬ (97 ≤ c ∧ c + 10 < 97 + ((13 : Nat) : Int)) ∧ ¬ (65 ≤ c ∧ c + 10 < 65 + ((13 : Nat) : Int))) := by
     have h0 := hno.out
     refine ⟨?_, ?_, ?_⟩ <;> omega
    clear hno heq heq2
    go_wp2_with fail
    go_roundw
    case rel => exact ⟨13, by omega, rfl, h1, trivial⟩
    case measure => simp [intOf]
  · have n1 : wrap32 ((({ data := #[48, 49, 50, 51, 52, 53, 54, 55, 56, 57, 97, 98, 99, 100, 101, 102] } : ByteArray)[13]'(by decide)).toNat : Int) = 100 := by kernel_rfl
    have n2 : wrap32 ((({ data := #[48, 49, 50, 51, 52, 53, 54, 55, 56, 57, 65, 66, 67, 68, 69, 70] } : ByteArray)[13]'(by decide)).toNat : Int) = 68 := by kernel_rfl
    by_cases heq : c = 100
    · subst heq
      clear hno
      go_wp2_with fail
      go_ret
      refine ⟨?_, rfl⟩
      rw [← HR.out]
      rfl
    by_cases heq2 : c = 68
    · subst heq2
      clear hno
      go_wp2_with fail
      go_ret
      refine ⟨?_, rfl⟩
      rw [← HR.out]
      rfl
    have b1 : ((100 : Int) == c) = false := by rw [beq_eq_false_iff_ne]; omega
    have b2 : ((68 : Int) == c) = false := by rw [beq_eq_false_iff_ne]; omega
    have h1 : Hid (¬ (48 ≤ c ∧ c ≤ 57 ∧ c < 48 + ((14 : Nat) : Int)) ∧ ¬ (97 ≤ c ∧ c + 10 < 97 + ((14 : Nat) : Int)) ∧ ¬ (65 ≤ c ∧ c + 10 < 65 + ((14 : Nat) : Int))) := by
     have h0 := hno.out
     refine ⟨?_, ?_, ?_⟩ <;> omega
    clear hno heq heq2
    go_wp2_with fail
    go_roundw
    case rel => exact ⟨14, by omega, rfl, h1, trivial⟩
    case measure => simp [intOf]
  · have n1 : wrap32 ((({ data := #[48, 49, 50, 51, 52, 53, 54, 55, 56, 57, 97, 98, 99, 100, 101, 102] } : ByteArray)[14]'(by decide)).toNat : Int) = 101 := by kernel_rfl
    have n2 : wrap32 ((({ data := #[48, 49, 50, 51, 52, 53, 54, 55, 56, 57, 65, 66, 67, 68, 69, 70] } : ByteArray)[14]'(by decide)).toNat : Int) = 69 := by kernel_rfl
    by_cases heq : c = 101
    · subst heq
      clear hno
      go_wp2_with fail
      go_ret
      refine ⟨?_, rfl⟩
      rw [← HR.out]
      rfl
    by_cases heq2 : c = 69
    · subst heq2
      clear hno
      go_wp2_with fail
      go_ret
      refine ⟨?_, rfl⟩
      rw [← HR.out]
      rfl
    have b1 : ((101 : Int) == c) = false := by rw [beq_eq_false_iff_ne]; omega
    have b2 : ((69 : Int) == c) = false := by rw [beq_eq_false_iff_ne]; omega
    have h1 : Hid (¬ (48 ≤ c ∧ c ≤ 57 ∧ c < 48 + ((15 : Nat) : Int)) ∧ ¬ (97 ≤ c ∧ c + 10 < 97 + ((15 : Nat) : Int)) ∧ ¬ (65 ≤ c ∧ c + 10 < 65 + ((15 : Nat) : Int))) := by
     have h0 := hno.out
     refine ⟨?_, ?_, ?_⟩ <;> omega
    clear hno heq heq2
    go_wp2_with fail
    go_roundw
    case rel => exact ⟨15, by omega, rfl, h1, trivial⟩
    case measure => simp [intOf]
  · have n1 : wrap32 ((({ data := #[48, 49, 50, 51, 52, 53, 54, 55, 56, 57, 97, 98, 99, 100, 101, 102] } : ByteArray)[15]'(by decide)).toNat : Int) = 102 := by kernel_rfl
    have n2 : wrap32 ((({ data := #[48, 49, 50, 51, 52, 53, 54, 55, 56, 57, 65, 66, 67, 68, 69, 70] } : ByteArray)[15]'(by decide)).toNat : Int) = 70 := by kernel_rfl
    by_cases heq : c = 102
    · subst heq
      clear hno
      go_wp2_with fail
      go_ret
      refine ⟨?_, rfl⟩
      rw [← HR.out]
      rfl
    by_cases heq2 : c = 70
    · subst heq2
      clear hno
      go_wp2_with fail
      go_ret
      refine ⟨?_, rfl⟩
      rw [← HR.out]
      rfl
    have b1 : ((102 : Int) == c) = false := by rw [beq_eq_false_iff_ne]; omega
    have b2 : ((70 : Int) == c) = false := by rw [beq_eq_false_iff_ne]; omega
    have h1 : Hid (¬ (48 ≤ c ∧ c ≤ 57 ∧ c < 48 + ((16 : Nat) : Int)) ∧ ¬ (97 ≤ c ∧ c + 10 < 97 + ((16 : Nat) : Int)) ∧ ¬ (65 ≤ c ∧ c + 10 < 65 + ((16 : Nat) : Int))) := by
     have h0 := hno.out
     refine ⟨?_, ?_, ?_⟩ <;> omega
    clear hno heq heq2
    go_wp2_with fail
    go_roundw
    case rel => exact ⟨16, by omega, rfl, h1, trivial⟩
    case measure => simp [intOf]
  · have h0 := hno.out
    have hrr : r = -1 := by
     rw [← HR.out]
     unfold hexF
     rw [if_neg (by omega), if_neg (by omega), if_neg (by omega)]
    subst hrr
    clear hno h0
    go_wp2_with fail
    go_ret
    exact ⟨rfl, rfl⟩
set_option maxHeartbeats 2000000 in
theorem plain_no (c : Int) (w : World) (h : plainF c = false) : Calls Tryz.prog 217 #[.int .i32 c] w fun e w' => e = .returned (.bool false) ∧ w' = w := by
 unfold plainF at h
 have hs := fun w => Source_any c w
 cases h1 : sourceF c with
 | false =>
  rw [h1] at hs
  clear h h1
  go_enter Tryz.func217, Tryz.ntmps217
  go_wp2_with (first | (go_at_call 167; refine (hs _).mono ?_; rintro e w' ⟨rfl, rfl⟩))
  go_ret
  exact ⟨rfl, rfl⟩
 | true =>
  rw [h1] at hs h
  have hc : c = 34 ∨ c = 92 ∨ c = 10 ∨ c = 13 := by
   simp only [Bool.true_and, Bool.and_eq_false_iff, bne_eq_false_iff_eq] at h
   omega
  clear h h1
  rcases hc with rfl | rfl | rfl | rfl
  all_goals
   go_enter Tryz.func217, Tryz.ntmps217
   go_wp2_with (first | (go_at_call 167; refine (hs _).mono ?_; rintro e w' ⟨rfl, rfl⟩))
   go_ret
   exact ⟨rfl, rfl⟩
theorem plain_any (c : Int) (w : World) : Calls Tryz.prog 217 #[.int .i32 c] w fun e w' => e = .returned (.bool (plainF c)) ∧ w' = w := by
 cases h : plainF c with
 | true => exact plain_yes c w h
 | false => exact plain_no c w h
def joinF (h l : Int) : Int × Bool := if h < 55296 ∨ 56319 < h ∨ l < 56320 ∨ 57343 < l then (0, false) else (65536 + (h - 55296) * 1024 + (l - 56320), true)
set_option maxHeartbeats 4000000 in
theorem Join_any (h l : Int) (w : World) : Calls Tryz.prog 220 #[.int .i32 h, .int .i32 l] w fun e w' => e = .returned (.tuple #[.int .i32 (joinF h l).1, .bool (joinF h l).2]) ∧ w' = w := by
 obtain ⟨r1, r2, hr⟩ : ∃ r1 r2, joinF h l = (r1, r2) := ⟨_, _, rfl⟩
 rw [hr]
 unfold joinF at hr
 by_cases h1 : h < 55296
 · rw [if_pos (.inl h1)] at hr
   injection hr with e1 e2; subst e1 e2
   go_enter Tryz.func220, Tryz.ntmps220
   go_wp2_with fail
   go_ret2
   exact ⟨rfl, rfl⟩
 by_cases h2 : 56319 < h
 · rw [if_pos (.inr (.inl h2))] at hr
   injection hr with e1 e2; subst e1 e2
   go_enter Tryz.func220, Tryz.ntmps220
   go_wp2_with fail
   go_ret2
   exact ⟨rfl, rfl⟩
 by_cases h3 : l < 56320
 · rw [if_pos (.inr (.inr (.inl h3)))] at hr
   injection hr with e1 e2; subst e1 e2
   go_enter Tryz.func220, Tryz.ntmps220
   go_wp2_with fail
   go_ret2
   exact ⟨rfl, rfl⟩
 by_cases h4 : 57343 < l
 · rw [if_pos (.inr (.inr (.inr h4)))] at hr
   injection hr with e1 e2; subst e1 e2
   go_enter Tryz.func220, Tryz.ntmps220
   go_wp2_with fail
   go_ret2
   exact ⟨rfl, rfl⟩
 rw [if_neg (by omega)] at hr
 injection hr with e1 e2
 have w1 : wrap32 (h - 55296) = h - 55296 := by simp [wrap32]; omega
 have w2 : wrap32 ((h - 55296) * 1024) = (h - 55296) * 1024 := by simp [wrap32]; omega
 have w3 : wrap32 (65536 + (h - 55296) * 1024) = 65536 + (h - 55296) * 1024 := by simp [wrap32]; omega
 have w4 : wrap32 (l - 56320) = l - 56320 := by simp [wrap32]; omega
 have w5 : wrap32 (65536 + (h - 55296) * 1024 + (l - 56320)) = 65536 + (h - 55296) * 1024 + (l - 56320) := by simp [wrap32]; omega
 subst e1 e2
 go_enter Tryz.func220, Tryz.ntmps220
 go_wp2_with fail
 go_ret2
 exact ⟨rfl, rfl⟩
def unitGo : List Int → Int → Int
 | [], n => n
 | z :: r, n => if hexF z < 0 then -1 else unitGo r (n * 16 + hexF z)
def unitF (s : List Int) (i : Nat) : Int := if s.length < i + 6 then -1 else if s[i]? = some 92 ∧ s[i + 1]? = some 117 then unitGo ((s.drop (i + 2)).take 4) 0 else -1
theorem hex_bound (c : Int) : -1 ≤ hexF c ∧ hexF c ≤ 15 := by
 unfold hexF
 repeat (first | omega | split)
theorem unitGo_bound : ∀ (l : List Int) (n : Int) (m : Nat), l.length ≤ m → 0 ≤ n → n < 65536 / 16 ^ m → -1 ≤ unitGo l n ∧ unitGo l n < 65536
 | [], n, m, _, h0, h => by
  have : (65536 : Int) / 16 ^ m ≤ 65536 := Int.ediv_le_self _ (by omega)
  rw [unitGo]; omega
 | z :: r, n, 0, hl, _, _ => by simp at hl
 | z :: r, n, m + 1, hl, h0, h => by
  rw [unitGo]
  split
  · omega
  · have hb := hex_bound z
    refine unitGo_bound r _ m (by simpa using hl) (by omega) ?_
    have h2 : (65536 : Int) / 16 ^ (m + 1) = 65536 / 16 ^ m / 16 := by rw [Int.pow_succ, Int.ediv_ediv_of_nonneg (by exact Int.pow_nonneg (by omega))]
    rw [h2] at h
    omega
theorem unit_bound (s : List Int) (i : Nat) : -1 ≤ unitF s i ∧ unitF s i < 65536 := by
 unfold unitF
 split
 · omega
 · split
   · exact unitGo_bound _ 0 4 (by rw [List.length_take]; omega) (by omega) (by decide)
   · omega
set_option maxHeartbeats 16000000 in
theorem unit_any (A : Option Addr) (n c B : Nat) (s : List Int) (w : World) (hr : Rd w B A (s.map (Value.int .i32))) (hn : s.length = n) (h63 : n ≤ 1099511627776) (i : Nat) (hi : i ≤ 1099511627776) :
  Calls Tryz.prog 219 #[.slice A n c, .int .i64 i] w fun e w' => e = .returned (.int .i32 (unitF s i)) ∧ w' = w := by
 obtain ⟨r, hrr⟩ : ∃ r, unitF s i = r := ⟨_, rfl⟩
 rw [hrr]
 unfold unitF at hrr
 rw [hn] at hrr
 by_cases h6 : n < i + 6
 · rw [if_pos h6] at hrr
   subst hrr
   have hI : (n : Int) < (i : Int) + 6 := by omega
   clear hn
   go_enter Tryz.func219, Tryz.ntmps219
   go_wp2_with fail
   go_ret
   exact ⟨rfl, rfl⟩
 rw [if_neg h6] at hrr
 have hI : ¬ (n : Int) < (i : Int) + 6 := by omega
 have hiI : (i : Int) < (n : Int) := by omega
 have hiI1 : (i : Int) + 1 < (n : Int) := by omega
 obtain ⟨y, hy⟩ : ∃ z, s[i]? = some z := ⟨_, List.getElem?_eq_getElem (by omega)⟩
 obtain ⟨z, hz⟩ : ∃ z, s[i + 1]? = some z := ⟨_, List.getElem?_eq_getElem (by omega)⟩
 obtain ⟨ad, rfl, hcy⟩ := at_i32 hr hy
 obtain ⟨ad', e1, hcz⟩ := at_i32 hr hz
 injection e1 with e1
 subst e1
 rw [add_succ] at hcz
 rw [hy, hz] at hrr
 simp only [Option.some.injEq] at hrr
 have HN := hide hn
 clear hn hy hz
 by_cases h1 : y = 92
 · by_cases h2 : z = 117
   · rw [if_pos ⟨h1, h2⟩] at hrr
     subst h1 h2
     have HR := hide hrr
     clear hrr
     go_enter Tryz.func219, Tryz.ntmps219
     go_wp2_with fail
     go_loopw [5, 6, 7] (fun vn vk _ wr => ∃ (j : Nat) (m : Int), j ≤ 4 ∧ vk = .int .i64 ((i + 2 + j : Nat) : Int) ∧ vn = .int .i32 m ∧ 0 ≤ m ∧ m < 65536 / 16 ^ (4 - j) ∧ Hid (unitGo ((s.drop (i + 2 + j)).take (4 - j)) m = r) ∧ wr = w) (fun _ vk _ _ => n - (intOf vk).toNat)
     case atStart => exact ⟨0, 0, by omega, by go_num, rfl, by omega, by decide, HR, rfl⟩
     case round =>
      obtain ⟨j, m, hj, rfl, rfl, hm0, hm1, hp, rfl⟩ := hrel
      have hm2 : m < 65536 := by
       have : (65536 : Int) / 16 ^ (4 - j) ≤ 65536 := Int.ediv_le_self _ (by omega)
       omega
      by_cases hlt : j < 4
      · have hkI : ((i + 2 + j : Nat) : Int) < (i : Int) + 6 := by omega
        have hkn : ((i + 2 + j : Nat) : Int) < (n : Int) := by omega
        have hkn' : i + 2 + j < n := by omega
        obtain ⟨z, hz⟩ : ∃ z, s[i + 2 + j]? = some z := ⟨_, List.getElem?_eq_getElem (by rw [HN.out]; exact hkn')⟩
        obtain ⟨ad', e1, hc⟩ := at_i32 hr hz
        injection e1 with e1
        subst e1
        have h0 := hp.out
        obtain ⟨hk', hzz⟩ := List.getElem?_eq_some_iff.1 hz
        have ht : (s.drop (i + 2 + j)).take (4 - j) = z :: (s.drop (i + 2 + (j + 1))).take (4 - (j + 1)) := by
         rw [List.drop_eq_getElem_cons hk', hzz]
         have e : 4 - j = (4 - (j + 1)) + 1 := by omega
         rw [e, List.take_succ_cons]
         rfl
        rw [ht, unitGo] at h0
        have hb := hex_bound z
        obtain ⟨q, hq⟩ : ∃ q, hexF z = q := ⟨_, rfl⟩
        have hcall := fun w => Hex_any z w
        rw [hq] at h0 hb hcall
        have hm4 : m < 4096 := by
         have hj' : j = 0 ∨ j = 1 ∨ j = 2 ∨ j = 3 := by omega
         rcases hj' with rfl | rfl | rfl | rfl <;> simp at hm1 <;> omega
        have hnext : 0 ≤ q → m * 16 + q < 65536 / 16 ^ (4 - (j + 1)) := by
         intro hq0
         have hj' : j = 0 ∨ j = 1 ∨ j = 2 ∨ j = 3 := by omega
         rcases hj' with rfl | rfl | rfl | rfl <;> simp at hm1 ⊢ <;> omega
        clear hz hzz hq ht hk' hm1
        obtain ⟨kk, hkk⟩ : ∃ kk, i + 2 + j = kk := ⟨_, rfl⟩
        have HK := hide hkk
        rw [hkk] at hkI hkn hkn' hc
        have hkk1 : (i + 2 + (j + 1)) = kk + 1 := by omega
        rw [hkk1] at h0
        rw [hkk]
        clear hkk hkk1 hp
        by_cases hneg : q < 0
        · rw [if_pos hneg] at h0
          subst h0
          go_wp2_with (first | (go_at_call 222; refine (hcall _).mono ?_; rintro e w' ⟨rfl, rfl⟩))
          go_ret
          exact ⟨rfl, rfl⟩
        · rw [if_neg hneg] at h0
          have H0 := hide h0
          have hnx := hnext (by omega)
          have w1 : wrap32 q = q := by simp [wrap32]; omega
          have w2 : wrap32 (m * 16) = m * 16 := by simp [wrap32]; omega
          have w3 : wrap32 (m * 16 + q) = m * 16 + q := by simp [wrap32]; omega
          have HX := hide hnx
          clear h0 hnext hnx
          go_wp2_with (first | (go_at_call 222; refine (hcall _).mono ?_; rintro e w' ⟨rfl, rfl⟩))
          go_roundw
          case rel => exact ⟨j + 1, m * 16 + q, by omega, by have := HK.out; go_num, rfl, by omega, HX.out, by have e := HK.out; rw [show i + 2 + (j + 1) = kk + 1 by omega]; exact H0, trivial⟩
          case measure => simp [intOf]; omega
      · obtain rfl : j = 4 := by omega
        have h0 := hp.out
        have hkI : ¬ ((i + 2 + 4 : Nat) : Int) < (i : Int) + 6 := by omega
        have hr0 : r = m := by
         rw [← h0]
         have e : (s.drop (i + 2 + 4)).take (4 - 4) = [] := by simp
         rw [e, unitGo]
        subst hr0
        clear hp h0 hm1 HR
        go_wp2_with fail
        go_ret
        exact ⟨rfl, rfl⟩
   · rw [if_neg (by omega)] at hrr
     subst hrr h1
     have b1 : ((z : Int) != 117) = true := by rw [bne_iff_ne]; exact h2
     clear h2
     go_enter Tryz.func219, Tryz.ntmps219
     go_wp2_with fail
     go_ret
     exact ⟨rfl, rfl⟩
 · rw [if_neg (by omega)] at hrr
   subst hrr
   have b1 : ((y : Int) != 92) = true := by rw [bne_iff_ne]; exact h1
   clear h1
   go_enter Tryz.func219, Tryz.ntmps219
   go_wp2_with fail
   go_ret
   exact ⟨rfl, rfl⟩
def pieceF (s : List Int) (i : Nat) : Int × Nat := match s[i]? with
 | none => (0, 0)
 | some z => if plainF z = true then (z, 1)
  else if z ≠ 92 then (0, 0)
  else match s[i + 1]? with
   | none => (0, 0)
   | some y => if 0 ≤ shortF y then (shortF y, 2)
    else if unitF s i < 0 ∨ (56320 ≤ unitF s i ∧ unitF s i ≤ 57343) then (0, 0)
    else if 55296 ≤ unitF s i ∧ unitF s i ≤ 56319 then (if (joinF (unitF s i) (unitF s (i + 6))).2 = true then ((joinF (unitF s i) (unitF s (i + 6))).1, 12) else (0, 0))
    else (unitF s i, 6)
theorem piece_len (s : List Int) (i : Nat) : (pieceF s i).2 ≤ 12 := by
 unfold pieceF
 (repeat' split) <;> simp
set_option maxHeartbeats 16000000 in
theorem piece_any (A : Option Addr) (n c B : Nat) (s : List Int) (w : World) (hr : Rd w B A (s.map (Value.int .i32))) (hn : s.length = n) (h63 : n ≤ 1099511627770) (i : Nat) (hi : i < n) :
  Calls Tryz.prog 213 #[.slice A n c, .int .i64 i] w fun e w' => e = .returned (.tuple #[.int .i32 (pieceF s i).1, .int .i64 (pieceF s i).2]) ∧ w' = w := by
 obtain ⟨r1, r2, hrr⟩ : ∃ r1 r2, pieceF s i = (r1, r2) := ⟨_, _, rfl⟩
 rw [hrr]
 unfold pieceF at hrr
 have hiI : (i : Int) < (n : Int) := by omega
 obtain ⟨z, hz⟩ : ∃ z, s[i]? = some z := ⟨_, List.getElem?_eq_getElem (by omega)⟩
 have hu := fun w hr j hj => unit_any A n c B s w hr hn (by omega) j hj
 obtain ⟨ad, rfl, hcz⟩ := at_i32 hr hz
 rw [hz] at hrr
 simp only at hrr
 have hpl := fun w => plain_any z w
 cases hp : plainF z with
 | true =>
  rw [hp, if_pos rfl] at hrr
  rw [hp] at hpl
  injection hrr with e1 e2; subst e1 e2
  clear hn hz hp hu
  go_enter Tryz.func213, Tryz.ntmps213
  go_wp2_with (first | (go_at_call 217; refine (hpl _).mono ?_; rintro e w' ⟨rfl, rfl⟩))
  go_ret2
  exact ⟨rfl, rfl⟩
 | false =>
  rw [hp, if_neg (by decide)] at hrr
  rw [hp] at hpl
  by_cases h92 : z = 92
  · rw [if_neg (by omega)] at hrr
    subst h92
    by_cases hi1 : i + 1 < n
    · obtain ⟨y, hy⟩ : ∃ z, s[i + 1]? = some z := ⟨_, List.getElem?_eq_getElem (by omega)⟩
      have hiI1 : ¬ (n : Int) ≤ (i : Int) + 1 := by omega
      have hiI2 : (i : Int) + 1 < (n : Int) := by omega
      obtain ⟨ad', e1, hcy⟩ := at_i32 hr hy
      injection e1 with e1
      subst e1
      rw [add_succ] at hcy
      rw [hy] at hrr
      simp only at hrr
      have hsh := fun w => short_any y w
      obtain ⟨q, hq⟩ : ∃ q, shortF y = q := ⟨_, rfl⟩
      rw [hq] at hrr hsh
      clear hn hz hp hy hq
      by_cases hs0 : 0 ≤ q
      · rw [if_pos hs0] at hrr
        injection hrr with e1 e2; subst e1 e2
        go_enter Tryz.func213, Tryz.ntmps213
        go_wp2_with (first | (go_at_call 217; refine (hpl _).mono ?_; rintro e w' ⟨rfl, rfl⟩) | (go_at_call 218; refine (hsh _).mono ?_; rintro e w' ⟨rfl, rfl⟩))
        go_ret2
        exact ⟨rfl, rfl⟩
      rw [if_neg hs0] at hrr
      have hu1 := fun w hr => hu w hr i (by omega)
      have hu2 : ∀ w, Rd w B (some ad) (s.map (Value.int .i32)) → Calls Tryz.prog 219 #[.slice (some ad) n c, .int .i64 ((i : Int) + 6)] w fun e w' => e = .returned (.int .i32 (unitF s (i + 6))) ∧ w' = w := fun w hr => hu w hr (i + 6) (by omega)
      obtain ⟨u, hue⟩ : ∃ u, unitF s i = u := ⟨_, rfl⟩
      obtain ⟨v, hve⟩ : ∃ v, unitF s (i + 6) = v := ⟨_, rfl⟩
      rw [hue, hve] at hrr
      rw [hue] at hu1
      rw [hve] at hu2
      have hub := unit_bound s i
      rw [hue] at hub
      clear hue hve hu
      by_cases hu0 : u < 0
      · rw [if_pos (.inl hu0)] at hrr
        injection hrr with e1 e2; subst e1 e2
        go_enter Tryz.func213, Tryz.ntmps213
        go_wp2_with (first | (go_at_call 217; refine (hpl _).mono ?_; rintro e w' ⟨rfl, rfl⟩) | (go_at_call 218; refine (hsh _).mono ?_; rintro e w' ⟨rfl, rfl⟩) | (go_at_call 219; refine (hu1 _ hr).mono ?_; rintro e w' ⟨rfl, rfl⟩))
        go_ret2
        exact ⟨rfl, rfl⟩
      have hu0' : 0 ≤ u := by omega
      by_cases hd1 : 56320 ≤ u
      · by_cases hd2 : u ≤ 57343
        · rw [if_pos (.inr ⟨hd1, hd2⟩)] at hrr
          injection hrr with e1 e2; subst e1 e2
          go_enter Tryz.func213, Tryz.ntmps213
          go_wp2_with (first | (go_at_call 217; refine (hpl _).mono ?_; rintro e w' ⟨rfl, rfl⟩) | (go_at_call 218; refine (hsh _).mono ?_; rintro e w' ⟨rfl, rfl⟩) | (go_at_call 219; refine (hu1 _ hr).mono ?_; rintro e w' ⟨rfl, rfl⟩))
          go_ret2
          exact ⟨rfl, rfl⟩
        · rw [if_neg (by omega), if_neg (by omega)] at hrr
          injection hrr with e1 e2; subst e1 e2
          have hx1 : 55296 ≤ u := by omega
          have hx2 : ¬ u ≤ 56319 := by omega
          go_enter Tryz.func213, Tryz.ntmps213
          go_wp2_with (first | (go_at_call 217; refine (hpl _).mono ?_; rintro e w' ⟨rfl, rfl⟩) | (go_at_call 218; refine (hsh _).mono ?_; rintro e w' ⟨rfl, rfl⟩) | (go_at_call 219; refine (hu1 _ hr).mono ?_; rintro e w' ⟨rfl, rfl⟩))
          go_ret2
          exact ⟨rfl, rfl⟩
      · rw [if_neg (by omega)] at hrr
        by_cases hx1 : 55296 ≤ u
        · have hx2 : u ≤ 56319 := by omega
          rw [if_pos ⟨hx1, hx2⟩] at hrr
          have hj := fun w => Join_any u v w
          obtain ⟨j1, j2, hje⟩ : ∃ j1 j2, joinF u v = (j1, j2) := ⟨_, _, rfl⟩
          rw [hje] at hrr hj
          simp only at hrr hj
          clear hje
          cases j2 with
          | true =>
           rw [if_pos rfl] at hrr
           injection hrr with e1 e2; subst e1 e2
           go_enter Tryz.func213, Tryz.ntmps213
           go_wp2_with (first | (go_at_call 217; refine (hpl _).mono ?_; rintro e w' ⟨rfl, rfl⟩) | (go_at_call 218; refine (hsh _).mono ?_; rintro e w' ⟨rfl, rfl⟩) | (go_at_call 219; refine (hu1 _ hr).mono ?_; clear hu1; rintro e w' ⟨rfl, rfl⟩) | (go_at_call 219; refine (hu2 _ hr).mono ?_; rintro e w' ⟨rfl, rfl⟩) | (go_at_call 220; refine (hj _).mono ?_; rintro e w' ⟨rfl, rfl⟩))
           go_ret2
           exact ⟨rfl, rfl⟩
          | false =>
           rw [if_neg (by decide)] at hrr
           injection hrr with e1 e2; subst e1 e2
           go_enter Tryz.func213, Tryz.ntmps213
           go_wp2_with (first | (go_at_call 217; refine (hpl _).mono ?_; rintro e w' ⟨rfl, rfl⟩) | (go_at_call 218; refine (hsh _).mono ?_; rintro e w' ⟨rfl, rfl⟩) | (go_at_call 219; refine (hu1 _ hr).mono ?_; clear hu1; rintro e w' ⟨rfl, rfl⟩) | (go_at_call 219; refine (hu2 _ hr).mono ?_; rintro e w' ⟨rfl, rfl⟩) | (go_at_call 220; refine (hj _).mono ?_; rintro e w' ⟨rfl, rfl⟩))
           go_ret2
           exact ⟨rfl, rfl⟩
        · rw [if_neg (by omega)] at hrr
          injection hrr with e1 e2; subst e1 e2
          go_enter Tryz.func213, Tryz.ntmps213
          go_wp2_with (first | (go_at_call 217; refine (hpl _).mono ?_; rintro e w' ⟨rfl, rfl⟩) | (go_at_call 218; refine (hsh _).mono ?_; rintro e w' ⟨rfl, rfl⟩) | (go_at_call 219; refine (hu1 _ hr).mono ?_; rintro e w' ⟨rfl, rfl⟩))
          go_ret2
          exact ⟨rfl, rfl⟩
    · rw [List.getElem?_eq_none (by omega)] at hrr
      simp only at hrr
      injection hrr with e1 e2; subst e1 e2
      have hiI1 : (n : Int) ≤ (i : Int) + 1 := by omega
      clear hn hz hp hu
      go_enter Tryz.func213, Tryz.ntmps213
      go_wp2_with (first | (go_at_call 217; refine (hpl _).mono ?_; rintro e w' ⟨rfl, rfl⟩))
      go_ret2
      exact ⟨rfl, rfl⟩
  · rw [if_pos h92] at hrr
    injection hrr with e1 e2; subst e1 e2
    have b1 : ((z : Int) != 92) = true := by rw [bne_iff_ne]; exact h92
    clear hn hz hp hu h92
    go_enter Tryz.func213, Tryz.ntmps213
    go_wp2_with (first | (go_at_call 217; refine (hpl _).mono ?_; rintro e w' ⟨rfl, rfl⟩))
    go_ret2
    exact ⟨rfl, rfl⟩
def escGo (s : List Int) : Nat → Nat → Option (List Int)
 | 0, _ => some []
 | g + 1, i => if s.length ≤ i then some [] else if (pieceF s i).2 = 0 then none else (escGo s g (i + (pieceF s i).2)).map ((pieceF s i).1 :: ·)
def escF (s : List Int) : Option (List Int) := escGo s s.length 0
def quotedF (s : List Int) : Txt × Int := match escF s with
 | none => ([], 60)
 | some l => ((encS l).data.toList, 0)
set_option maxHeartbeats 8000000 in
theorem Quoted_any (A : Option Addr) (n c B : Nat) (s : List Int) (w : World) (hr : Rd w B A (s.map (Value.int .i32))) (hB : B ≤ w.heap.size) (hn : s.length = n) (h63 : n ≤ 1099511627700) :
  Calls Tryz.prog 206 #[.slice A n c] w fun e w' => e = .returned (.tuple #[.string (str (quotedF s).1), .int .i64 (quotedF s).2]) ∧ Below w.heap.size w w' := by
 obtain ⟨i0, hi0, hz0, hz1, hz2⟩ := info_parts rune_info
 obtain ⟨r1, r2, hrr⟩ : ∃ r1 r2, quotedF s = (r1, r2) := ⟨_, _, rfl⟩
 rw [hrr]
 have HR := hide hrr
 have HN := hide hn
 have HE : Hid ((escGo s n 0).map ([] ++ ·) = escF s) := by
  show (escGo s n 0).map ([] ++ ·) = escF s
  unfold escF; rw [hn]; cases escGo s n 0 <;> simp
 clear hn hrr
 go_enter Tryz.func206, Tryz.ntmps206
 go_wp2_with fail
 go_loopw [4, 5, 6, 7] (fun v iv _ _ wr => ∃ (k g : Nat) (dn : List Int), k ≤ n + 12 ∧ n ≤ k + g ∧ dn.length ≤ k ∧ iv = .int .i64 k ∧ wr.ownsRow w.heap.size 21 1 v dn.length (dn.map (Value.int .i32)) ∧ Hid ((escGo s g k).map (dn ++ ·) = escF s) ∧ Below w.heap.size w wr) (fun _ iv _ _ _ => n + 12 - (intOf iv).toNat)
 case atStart => exact ⟨0, n, [], by omega, by omega, by simp, rfl, World.ownsRow_nil _ _ _ _, HE, Below.refl _ _⟩
 case round =>
  clear HE
  obtain ⟨k, g, dn, hk, hg, hdn, rfl, hown, he, hb⟩ := hrel
  obtain ⟨Av, cv, rfl, _, hcv⟩ := own_slice hown
  by_cases hlt : k < n
  · have hkI : (k : Int) < (n : Int) := by omega
    have hcall := piece_any A n c B s wr (hr.below' hb hB) HN.out (by omega) k hlt
    obtain ⟨g, rfl⟩ : ∃ g', g = g' + 1 := ⟨g - 1, by omega⟩
    have h0 := he.out
    rw [escGo, if_neg (by rw [HN.out]; omega)] at h0
    have hpl := piece_len s k
    obtain ⟨p, q, hpq⟩ : ∃ p q, pieceF s k = (p, q) := ⟨_, _, rfl⟩
    rw [hpq] at h0 hcall hpl
    simp only at h0 hcall hpl
    clear hpq he
    by_cases hq0 : q = 0
    · rw [if_pos hq0] at h0
      have hrr := HR.out
      unfold quotedF at hrr
      rw [← h0] at hrr
      simp only [Option.map_none] at hrr
      injection hrr with e1 e2
      subst e1 e2 hq0
      clear h0
      go_wp2_with fail
      refine hcall.mono ?_
      rintro e wr ⟨rfl, rfl⟩
      clear hcall
      go_wp2_with fail
      go_ret2
      exact ⟨rfl, hb⟩
    · rw [if_neg hq0] at h0
      have hnext : Hid ((escGo s g (k + q)).map ((dn ++ [p]) ++ ·) = escF s) := by
       show (escGo s g (k + q)).map ((dn ++ [p]) ++ ·) = escF s
       rw [← h0]
       cases escGo s g (k + q) <;> simp
      have b1 : ((q : Int) == 0) = false := by rw [beq_eq_false_iff_ne]; omega
      clear h0
      go_wp2_with fail
      refine hcall.mono ?_
      rintro e wr ⟨rfl, rfl⟩
      clear hcall
      go_wp2_with (at_builtin; refine wpList_append_rd _ rfl _ _ 187 rfl w.heap.size 21 i0 (.int .i32 0) 1 4 Tryz.underlying187 hi0 hz0 hz1 hz2 rfl (by decide) _ _ _ rfl (hown.alloc _) _ _ 1 1 [_] rfl (by rfl) (rd_new _ [_] _ (Nat.lt_succ_self _)) (one_i32 [_]) (by simp only [maxLen]; omega) (by omega) (Nat.le_trans hb.size (by simp)) ?_)
      intro v2 w2 hown2 hg2 hat2
      have hb2 := below_append (hb.alloc hb.size _) (hown.alloc _) (Nat.le_refl _) hg2 (Nat.le_trans hb.size (by simp))
      have hown3 : w2.ownsRow w.heap.size 21 1 v2 (dn ++ [p]).length ((dn ++ [p]).map (Value.int .i32)) := by
       rw [List.length_append, List.map_append]
       exact hown2
      go_wp2_with fail
      go_roundw
      case rel => exact ⟨k + q, g, dn ++ [p], by omega, by omega, by rw [List.length_append, List.length_singleton]; omega, by go_num, hown3, hnext, hb2⟩
      case measure => simp [intOf]; omega
  · have hkI : ¬ (k : Int) < (n : Int) := by omega
    have h0 := he.out
    have hes : escGo s g k = some [] := by
     cases g with
     | zero => rfl
     | succ g => rw [escGo, if_pos (by rw [HN.out]; omega)]
    rw [hes] at h0
    simp only [Option.map_some, List.append_nil] at h0
    have hrr := HR.out
    unfold quotedF at hrr
    rw [← h0] at hrr
    simp only at hrr
    injection hrr with e1 e2
    subst e2
    have e3 : str r1 = encS dn := by rw [← e1]; exact str_of _
    have E3 := hide e3
    clear he h0 hes e1 e3
    go_wp2_with fail
    refine (RefEncode_any Av dn.length cv wr.heap.size dn _ (Rd.of_own hown) (Nat.le_refl _) rfl (by omega)).mono ?_
    rintro e w2 ⟨rfl, hb2⟩
    have hB2 := hb.trans (hb2.mono hb.size)
    go_wp2_with fail
    go_ret2
    exact ⟨by rw [E3.out]; rfl, hB2⟩
end Go.Proofs.YtbpgkkoeehopjaaGreat.lex
namespace Go.Proofs.YtbpgkkoeehopjaaGreat.utf
open Go.Lib
def Bad (l : List UInt8) : Prop := (decodeL l).1 = 65533 ∧ (decodeL l).2 = 1
instance (l : List UInt8) : Decidable (Bad l) := inferInstanceAs (Decidable (_ ∧ _))
def dec : Nat → List UInt8 → List Int × Nat
 | 0, _ => ([], 0)
 | f + 1, l => if l = [] ∨ Bad l then ([], 0) else (((decodeL l).1 : Int) :: (dec f (l.drop (decodeL l).2)).1, (decodeL l).2 + (dec f (l.drop (decodeL l).2)).2)
def decF (l : List UInt8) : List Int × Nat := dec l.length l
theorem drop_lt (l : List UInt8) (h : l ≠ []) : (l.drop (decodeL l).2).length < l.length := by
 have h1 := decodeL_width l
 have h2 : 0 < l.length := List.length_pos_iff.2 h
 rw [List.length_drop]
 omega
theorem dec_fuel : ∀ (f : Nat) (l : List UInt8), l.length ≤ f → dec f l = decF l
 | 0, l, h => by
  have : l = [] := List.eq_nil_of_length_eq_zero (by omega)
  subst this; rfl
 | f + 1, l, h => by
  by_cases hl : l = []
  · subst hl; rfl
  · have hlt := drop_lt l hl
    obtain ⟨m, hm⟩ : ∃ m, l.length = m + 1 := ⟨l.length - 1, by have := List.length_pos_iff.2 hl; omega⟩
    unfold decF
    rw [hm]
    unfold dec
    by_cases hb : l = [] ∨ Bad l
    · rw [if_pos hb, if_pos hb]
    · rw [if_neg hb, if_neg hb, dec_fuel f _ (by omega), dec_fuel m _ (by omega)]
theorem decF_nil : decF [] = ([], 0) := rfl
theorem decF_bad {l : List UInt8} (h : Bad l) : decF l = ([], 0) := by
 cases l with
 | nil => rfl
 | cons b l => unfold decF; simp only [List.length_cons, dec]; rw [if_pos (.inr h)]
theorem decF_good {l : List UInt8} (hl : l ≠ []) (h : ¬ Bad l) : decF l = (((decodeL l).1 : Int) :: (decF (l.drop (decodeL l).2)).1, (decodeL l).2 + (decF (l.drop (decodeL l).2)).2) := by
 obtain ⟨m, hm⟩ : ∃ m, l.length = m + 1 := ⟨l.length - 1, by have := List.length_pos_iff.2 hl; omega⟩
 have hlt := drop_lt l hl
 have e : decF l = dec (m + 1) l := by unfold decF; rw [hm]
 rw [e]
 simp only [dec]
 rw [if_neg (by rintro (h1 | h1); exact hl h1; exact h h1), dec_fuel m _ (by omega)]
theorem decF_ind {P : List UInt8 → Prop} (hn : P []) (hb : ∀ l, l ≠ [] → Bad l → P l) (hg : ∀ l, l ≠ [] → ¬ Bad l → P (l.drop (decodeL l).2) → P l) : ∀ l, P l := by
 have key : ∀ n l, List.length l = n → P l := by
  intro n
  induction n using Nat.strongRecOn with
  | _ n ih =>
   intro l h
   by_cases hl : l = []
   · subst hl; exact hn
   by_cases h1 : Bad l
   · exact hb l hl h1
   · exact hg l hl h1 (ih _ (by have := drop_lt l hl; omega) _ rfl)
 exact fun l => key _ l rfl
theorem decF_le : ∀ l, (decF l).2 ≤ l.length := by
 refine decF_ind (by simp [decF_nil]) (fun l _ h => by rw [decF_bad h]; simp) (fun l hl h ih => ?_)
 rw [decF_good hl h]
 have := decodeL_le l hl
 rw [List.length_drop] at ih
 dsimp only
 omega
theorem decF_len : ∀ l, (decF l).1.length ≤ (decF l).2 := by
 refine decF_ind (by simp [decF_nil]) (fun l _ h => by rw [decF_bad h]; simp) (fun l hl h ih => ?_)
 rw [decF_good hl h]
 have := decodeL_width l
 simp only [List.length_cons]
 omega
theorem decodeL_valid (l : List UInt8) : validRune ((decodeL l).1 : Int) = true := by
 have h := decodeN_valid l.length (l.getD 0 0).toNat (l.getD 1 0).toNat (l.getD 2 0).toNat (l.getD 3 0).toNat (l.getD 0 0).toNat_lt
 rw [← decodeL_N] at h
 unfold validRune
 rw [decide_eq_true_eq]
 omega
theorem runeZ (r : Int) (h : validRune r = true) : (0 ≤ r ∧ r < 55296) ∨ (57343 < r ∧ r ≤ 1114111) := of_decide_eq_true h
theorem byte_of (x : Int) (h0 : 0 ≤ x) (h1 : x < 256) : (x.toNat.toUInt8.toNat : Int) = x := by
 obtain ⟨n, rfl⟩ := Int.eq_ofNat_of_zero_le h0
 simp
 omega
theorem nat_of (x : Int) (h0 : 0 ≤ x) (h1 : x < 256) : x.toNat.toUInt8.toNat = x.toNat := by have := byte_of x h0 h1; omega
theorem encRune_len (r : Int) : 1 ≤ (encodeRune r).length ∧ (encodeRune r).length ≤ 4 := by
 have := encodeRuneZ_length r
 simpa [encodeRune] using this
theorem decodeL_encode (r : Int) (h : validRune r = true) (t : List UInt8) : decodeL (encodeRune r ++ t) = (r.toNat, (encodeRune r).length) := by
 have hr := runeZ r h
 obtain ⟨n, rfl⟩ := Int.eq_ofNat_of_zero_le (a := r) (by omega)
 rw [decodeL_N]
 unfold encodeRune
 by_cases h1 : (n : Int) ≤ 127
 · rw [encodeRuneZ_one (by omega) h1]
   have e0 := nat_of (n : Int) (by omega) (by omega)
   simp only [List.map_cons, List.map_nil, List.cons_append, List.nil_append, List.getD_cons_zero, e0, decodeN]
   rw [if_pos (by omega)]
   rfl
 by_cases h2 : (n : Int) ≤ 2047
 · rw [encodeRuneZ_two (by omega) h2]
   have e0 := nat_of (192 + (n : Int) / 64) (by omega) (by omega)
   have e1 := nat_of (128 + (n : Int) % 64) (by omega) (by omega)
   simp only [List.map_cons, List.map_nil, List.cons_append, List.nil_append, List.getD_cons_zero, List.getD_cons_succ, e0, e1, List.length_cons, decodeN]
   rw [if_neg (by omega), if_pos ⟨by omega, by omega, by omega⟩, if_pos (by omega)]
   refine Prod.ext ?_ rfl
   dsimp only
   omega
 by_cases h3 : (n : Int) ≤ 65535
 · rw [encodeRuneZ_three (by omega)]
   have e0 := nat_of (224 + (n : Int) / 4096) (by omega) (by omega)
   have e1 := nat_of (128 + (n : Int) / 64 % 64) (by omega) (by omega)
   have e2 := nat_of (128 + (n : Int) % 64) (by omega) (by omega)
   simp only [List.map_cons, List.map_nil, List.cons_append, List.nil_append, List.getD_cons_zero, List.getD_cons_succ, e0, e1, e2, List.length_cons, decodeN]
   rw [if_neg (by omega), if_neg (by omega), if_pos ⟨by omega, ⟨by omega, by omega⟩, by omega, by omega⟩, if_pos ⟨by omega, by omega⟩]
   refine Prod.ext ?_ rfl
   dsimp only
   omega
 · rw [encodeRuneZ_four (by omega) (by omega)]
   have e0 := nat_of (240 + (n : Int) / 262144) (by omega) (by omega)
   have e1 := nat_of (128 + (n : Int) / 4096 % 64) (by omega) (by omega)
   have e2 := nat_of (128 + (n : Int) / 64 % 64) (by omega) (by omega)
   have e3 := nat_of (128 + (n : Int) % 64) (by omega) (by omega)
   simp only [List.map_cons, List.map_nil, List.cons_append, List.nil_append, List.getD_cons_zero, List.getD_cons_succ, e0, e1, e2, e3, List.length_cons, decodeN]
   rw [if_neg (by omega), if_neg (by omega), if_neg (by omega), if_pos ⟨by omega, ⟨by omega, by omega⟩, ⟨by omega, by omega⟩, by omega, by omega⟩, if_pos ⟨by omega, by omega⟩]
   refine Prod.ext ?_ rfl
   dsimp only
   omega
theorem not_bad_encode (r : Int) (h : validRune r = true) (t : List UInt8) : ¬ Bad (encodeRune r ++ t) := by
 unfold Bad
 rw [decodeL_encode r h t]
 rintro ⟨h1, h2⟩
 dsimp only at h1 h2
 have hr := runeZ r h
 obtain rfl : r = 65533 := by omega
 revert h2
 decide
def putL (c : Int) : List Int := if validRune c = true then encodeRuneZ c else []
def firstD (n : Nat) : Int := [0, 128, 32, 16, 8].getD n 0
def ints (l : List UInt8) : List Int := l.map fun b => (b.toNat : Int)
def numL (g : List Int) : Int := (g.drop 1).foldl (fun n b => n * 64 + b % 64) (g.headD 0 % firstD g.length)
def Hit (l : List UInt8) (k : Nat) : Prop := putL (numL (ints (l.take k))) = ints (l.take k)
theorem ints_encode (r : Int) : ints (encodeRune r) = encodeRuneZ r := by
 unfold ints encodeRune
 rw [List.map_map]
 have h : ∀ x ∈ encodeRuneZ r, ((fun b : UInt8 => (b.toNat : Int)) ∘ fun x : Int => x.toNat.toUInt8) x = id x := fun x hx => by
  have := encodeRuneZ_byte r x hx
  exact byte_of x this.1 this.2
 rw [List.map_congr_left h, List.map_id]
theorem ints_inj {a b : List UInt8} (h : ints a = ints b) : a = b := by
 unfold ints at h
 exact (List.map_inj_right (f := fun b : UInt8 => (b.toNat : Int)) (fun x y e => UInt8.toNat_inj.1 (by have e' : (x.toNat : Int) = (y.toNat : Int) := e; omega))).1 h
theorem numL_encode (r : Int) (h : validRune r = true) : numL (encodeRuneZ r) = r := by
 have hr := runeZ r h
 by_cases h1 : r ≤ 127
 · rw [encodeRuneZ_one (by omega) h1]
   simp [numL, firstD]
   omega
 by_cases h2 : r ≤ 2047
 · rw [encodeRuneZ_two (by omega) h2]
   simp [numL, firstD]
   omega
 by_cases h3 : r ≤ 65535
 · rw [encodeRuneZ_three (by omega)]
   simp [numL, firstD]
   omega
 · rw [encodeRuneZ_four (by omega) (by omega)]
   simp [numL, firstD]
   omega
theorem hit_good {l : List UInt8} {k : Nat} (hk : 1 ≤ k) (hl : k ≤ l.length) (h : Hit l k) : l ≠ [] ∧ ¬ Bad l ∧ decodeL l = ((numL (ints (l.take k))).toNat, k) ∧ validRune (numL (ints (l.take k))) = true := by
 unfold Hit at h
 generalize hr : numL (ints (l.take k)) = r at h ⊢
 have hlen : (l.take k).length = k := by rw [List.length_take]; omega
 have hv : validRune r = true := by
  cases hv : validRune r with
  | true => rfl
  | false =>
   unfold putL at h
   rw [hv] at h
   have := congrArg List.length h
   simp [ints] at this
   omega
 have e : encodeRune r = l.take k := ints_inj (by rw [ints_encode, ← h]; unfold putL; rw [if_pos hv])
 have el : l = encodeRune r ++ l.drop k := by rw [e, List.take_append_drop]
 refine ⟨by rintro rfl; simp at hl; omega, ?_, ?_, hv⟩
 · rw [el]; exact not_bad_encode r hv _
 · rw [el, decodeL_encode r hv, e, hlen]
theorem good_hit {l : List UInt8} (hl : l ≠ []) (h : ¬ Bad l) : Hit l (decodeL l).2 ∧ (decodeL l).2 ≤ 4 ∧ (decodeL l).2 ≤ l.length := by
 have e := encode_decode l hl h
 have hv := decodeL_valid l
 refine ⟨?_, ?_, decodeL_le l hl⟩
 · unfold Hit
   rw [← e, ints_encode, numL_encode _ hv]
   unfold putL
   rw [if_pos hv]
 · have := (encRune_len ((decodeL l).1 : Int)).2
   rw [e, List.length_take] at this
   have := decodeL_le l hl
   omega
def oneL (l : List UInt8) : Int × Nat := if l = [] ∨ Bad l then (0, 0) else (((decodeL l).1 : Int), (decodeL l).2)
theorem oneL_hit {l : List UInt8} {k : Nat} (hk : 1 ≤ k) (hl : k ≤ l.length) (h : Hit l k) : oneL l = (numL (ints (l.take k)), k) := by
 obtain ⟨h1, h2, h3, h4⟩ := hit_good hk hl h
 unfold oneL
 rw [if_neg (by rintro (x | x); exact h1 x; exact h2 x), h3]
 have := runeZ _ h4
 refine Prod.ext ?_ rfl
 dsimp only
 omega
theorem oneL_miss {l : List UInt8} (h : ∀ k, 1 ≤ k → k ≤ 4 → k ≤ l.length → ¬ Hit l k) : oneL l = (0, 0) := by
 unfold oneL
 by_cases hl : l = []
 · rw [if_pos (.inl hl)]
 by_cases hb : Bad l
 · rw [if_pos (.inr hb)]
 · obtain ⟨h1, h2, h3⟩ := good_hit hl hb
   exact absurd h1 (h _ (decodeL_width l) h2 h3)
end Go.Proofs.YtbpgkkoeehopjaaGreat.utf
namespace Go.Proofs.YtbpgkkoeehopjaaGreat.dec
open Go.RowKit Go.Proofs.YtbpgkkoeehopjaaGreat.words Go.Proofs.YtbpgkkoeehopjaaGreat.enc Go.Proofs.YtbpgkkoeehopjaaGreat.utf
theorem own_more {w : World} {B B' e size n : Nat} {v : Value} {xs : List Value} (h : w.ownsRow B e size v n xs) (hB : B' ≤ B) : w.ownsRow B' e size v n xs := by
 refine ⟨h.1, ?_⟩
 rcases h.2 with h2 | ⟨g, cap, cur, hv, hg, r⟩
 · exact .inl h2
 · exact .inr ⟨g, cap, cur, hv, by omega, r⟩
theorem own_below {w w' : World} {B e size n : Nat} {v : Value} {xs : List Value} (h : w.ownsRow B e size v n xs) (hb : Below w.heap.size w w') : w'.ownsRow B e size v n xs :=
 h.kept (row := none) ⟨hb.os, hb.tape, hb.output, hb.size, fun i hi _ => hb.block i hi⟩ (by cases v.ownBlock <;> simp)
def At (l : List UInt8) (pos : Nat) (acc : List Int) : Prop := pos ≤ l.length ∧ decF l = (acc ++ (decF (l.drop pos)).1, pos + (decF (l.drop pos)).2) ∧ acc.length ≤ pos
theorem at_start (l : List UInt8) : At l 0 [] := ⟨by omega, by simp, by simp⟩
theorem at_bad {l : List UInt8} {pos : Nat} {acc : List Int} (h : At l pos acc) (hb : Bad (l.drop pos)) : decF l = (acc, pos) := by
 rw [h.2.1, decF_bad hb]; simp
theorem at_end {l : List UInt8} {pos : Nat} {acc : List Int} (h : At l pos acc) (hp : ¬ pos < l.length) : decF l = (acc, l.length) := by
 have e : pos = l.length := by have := h.1; omega
 rw [h.2.1, e, List.drop_length]; simp [decF_nil]
theorem at_good {l : List UInt8} {pos : Nat} {acc : List Int} (h : At l pos acc) (hp : pos < l.length) (hb : ¬ Bad (l.drop pos)) :
  At l (pos + (Lib.decodeL (l.drop pos)).2) (acc ++ [((Lib.decodeL (l.drop pos)).1 : Int)]) := by
 have hne : l.drop pos ≠ [] := by intro e; have := congrArg List.length e; rw [List.length_drop, List.length_nil] at this; omega
 have hle := Lib.decodeL_le (l.drop pos) hne
 have hw := Lib.decodeL_width (l.drop pos)
 rw [List.length_drop] at hle
 refine ⟨by omega, ?_, by rw [List.length_append, List.length_singleton]; have := h.2.2; omega⟩
 rw [h.2.1, decF_good hne hb, List.drop_drop]
 simp only [List.append_assoc, List.singleton_append, Nat.add_assoc]
def DecPost (l : List UInt8) (w : World) (e : Ending) (w' : World) : Prop :=
 ∃ v, e = .returned (.tuple #[v, .int .i64 (decF l).2]) ∧ w'.ownsRow w.heap.size 21 1 v (decF l).1.length ((decF l).1.map (Value.int .i32)) ∧ Below w.heap.size w w'
theorem rd_one (w : World) (B : Nat) (z : Int) (hB : w.heap.size < B) : Rd (w.alloc (.cells #[.int .i32 z] 21)) B (some ⟨w.heap.size, 0, none⟩) ([z].map (Value.int .i32)) :=
 rd_new w ([z].map (Value.int .i32)) 21 hB
end Go.Proofs.YtbpgkkoeehopjaaGreat.dec
namespace Go.Proofs.YtbpgkkoeehopjaaGreat.ref
open Go.RowKit Go.Proofs.YtbpgkkoeehopjaaGreat.words Go.Proofs.YtbpgkkoeehopjaaGreat.enc Go.Proofs.YtbpgkkoeehopjaaGreat.utf Go.Proofs.YtbpgkkoeehopjaaGreat.dec
theorem bytes_len (l : List UInt8) : (Lib.byteCells l).length = l.length := by simp [Lib.byteCells]
theorem rd_byte {w : World} {B : Nat} {A : Option Addr} {l : List UInt8} {k : Nat} (h : Rd w B A (Lib.byteCells l)) (hk : k < l.length) :
  ∃ ad b, A = some ad ∧ l[k]? = some b ∧ ad.block < B ∧ w.cell? (ad.add k) = some (.int .u8 (b.toNat : Int)) := by
 obtain ⟨ad, e, hb, hc⟩ := h.at (k := k) (by rw [bytes_len]; exact hk)
 exact ⟨ad, l[k], e, List.getElem?_eq_getElem hk, hb, by rw [hc]; simp [Lib.byteCells]⟩
def sameB (l l' : List UInt8) : Bool := decide (l = l')
theorem ret_bool {a b : Bool} (h : a = b) : Ending.returned (.bool a) = .returned (.bool b) := by rw [h]
theorem take_snoc {α : Type} {l : List α} {k : Nat} {x : α} (h : l[k]? = some x) : l.take (k + 1) = l.take k ++ [x] := by
 obtain ⟨hk, rfl⟩ := List.getElem?_eq_some_iff.1 h
 exact List.take_succ_eq_append_getElem hk
theorem same_any (A A' : Option Addr) (n c c' B B' : Nat) (l l' : List UInt8) (w : World) (hr : Rd w B A (Lib.byteCells l)) (hr' : Rd w B' A' (Lib.byteCells l')) (hl : l.length = n) (hl' : l'.length = n) (hn : n ≤ maxLen) :
  Calls Tryz.prog 188 #[.slice A n c, .slice A' n c'] w fun e w' => e = .returned (.bool (sameB l l')) ∧ ∃ k, w' = w.drewN k := by
 unfold maxLen at hn
 have HL := hide hl
 have HL' := hide hl'
 clear hl hl'
 go_enter Tryz.func188, Tryz.ntmps188
 go_wp2
 go_loopw [5] (fun i wr => ∃ k : Nat, k ≤ n ∧ i = .int .i64 k ∧ Hid (l.take k = l'.take k) ∧ ∃ m, wr = w.drewN m) (fun i _ => n - (intOf i).toNat)
 case atStart => exact ⟨0, Nat.zero_le _, rfl, rfl, 0, rfl⟩
 case round =>
  obtain ⟨k, hk, rfl, heq, m, rfl⟩ := hrel
  by_cases hlt : k < n
  · obtain ⟨ad, z, rfl, hz, had, hc⟩ := rd_byte hr (k := k) (by rw [HL.out]; exact hlt)
    obtain ⟨ad', z', rfl, hz', had', hc'⟩ := rd_byte hr' (k := k) (by rw [HL'.out]; exact hlt)
    have HZ := hide hz
    have HZ' := hide hz'
    clear hz hz'
    have hkI : (k : Int) < (n : Int) := by omega
    by_cases hzz : z = z'
    · subst hzz
      go_wp2_with fail
      go_quiet (fail)
      go_wp2_with fail
      go_roundw
      case rel => exact ⟨k + 1, by omega, by go_num, (by show l.take (k + 1) = l'.take (k + 1); rw [take_snoc HZ.out, take_snoc HZ'.out, heq.out]), _, rfl⟩
      case measure => simp [intOf]; omega
    · have hne : ((z.toNat : Int) == (z'.toNat : Int)) = false := by
       rw [beq_eq_false_iff_ne]
       intro e
       exact hzz (UInt8.toNat_inj.1 (by omega))
      have hne' : ((z.toNat : Int) != (z'.toNat : Int)) = true := by rw [bne, hne]; rfl
      have hf : sameB l l' = false := decide_eq_false (fun e => hzz (by subst e; have h1 := HZ.out; rw [HZ'.out] at h1; exact (Option.some.inj h1).symm))
      have HF := hide hf
      clear hf hzz
      go_wp2_with fail
      go_quiet (fail)
      go_wp2_with fail
      go_ret
      exact ⟨ret_bool HF.out.symm, _, World.drewN_drewN _ _ _⟩
  · have ht : sameB l l' = true := decide_eq_true (by
     have := heq.out
     rw [List.take_of_length_le (by rw [HL.out]; omega), List.take_of_length_le (by rw [HL'.out]; omega)] at this
     exact this)
    have HT := hide ht
    clear ht
    go_wp2
    go_ret
    exact ⟨ret_bool HT.out.symm, _, rfl⟩
def numGo (g : List Int) (k : Nat) : Int := ((g.take k).drop 1).foldl (fun n b => n * 64 + b % 64) (g.headD 0 % firstD g.length)
theorem numGo_all (g : List Int) : numGo g g.length = numL g := by unfold numGo numL; rw [List.take_length]
theorem numGo_snoc {g : List Int} {k : Nat} {b : Int} (hk : 1 ≤ k) (h : g[k]? = some b) : numGo g (k + 1) = numGo g k * 64 + b % 64 := by
 unfold numGo
 rw [take_snoc h, List.drop_append_of_le_length (by rw [List.length_take]; have := (List.getElem?_eq_some_iff.1 h).1; omega), List.foldl_append]
 rfl
theorem numGo_one {g : List Int} (h : g ≠ []) : numGo g 1 = g.headD 0 % firstD g.length := by
 cases g with
 | nil => exact absurd rfl h
 | cons x r => rfl
theorem firstD_at (n : Nat) (h1 : 1 ≤ n) (h4 : n ≤ 4) : 8 ≤ firstD n ∧ firstD n ≤ 128 := by
 have : n = 1 ∨ n = 2 ∨ n = 3 ∨ n = 4 := by omega
 rcases this with rfl | rfl | rfl | rfl <;> decide
theorem numGo_le (g : List Int) (h1 : 1 ≤ g.length) (h4 : g.length ≤ 4) : ∀ k, 1 ≤ k → k ≤ g.length → 0 ≤ numGo g k ∧ numGo g k < 128 * 64 ^ (k - 1)
 | 0, h, _ => by omega
 | 1, _, _ => by
  rw [numGo_one (by rintro rfl; simp at h1)]
  have hf := firstD_at g.length h1 h4
  have a := Int.emod_nonneg (g.headD 0) (b := firstD g.length) (by omega)
  have b := Int.emod_lt_of_pos (g.headD 0) (b := firstD g.length) (by omega)
  simp only [Nat.sub_self, Int.pow_zero]
  omega
 | k + 2, _, hk => by
  have ih := numGo_le g h1 h4 (k + 1) (by omega) (by omega)
  have hg : g[k + 1]? = some g[k + 1] := List.getElem?_eq_getElem (by omega)
  rw [numGo_snoc (by omega) hg]
  have e : (128 : Int) * 64 ^ (k + 2 - 1) = 128 * 64 ^ (k + 1 - 1) * 64 := by
   rw [show k + 2 - 1 = k + 1 from by omega, show k + 1 - 1 = k from by omega, Int.pow_succ]; omega
  rw [e]
  omega
theorem numGo_fits (g : List Int) (h1 : 1 ≤ g.length) (h4 : g.length ≤ 4) (k : Nat) (hk1 : 1 ≤ k) (hk : k ≤ g.length) : 0 ≤ numGo g k ∧ numGo g k ≤ 33554432 := by
 have h := numGo_le g h1 h4 k hk1 hk
 have : k = 1 ∨ k = 2 ∨ k = 3 ∨ k = 4 := by omega
 rcases this with rfl | rfl | rfl | rfl <;> simp at h <;> omega
theorem ints_at {l : List UInt8} {k : Nat} {b : UInt8} (h : l[k]? = some b) : (ints l)[k]? = some (b.toNat : Int) := by
 unfold ints; rw [List.getElem?_map, h]; rfl
theorem ints_len (l : List UInt8) : (ints l).length = l.length := by simp [ints]
theorem ret_i32 {a b : Int} (h : a = b) : Ending.returned (.int .i32 a) = .returned (.int .i32 b) := by rw [h]
theorem number_any (A : Option Addr) (n c B : Nat) (l : List UInt8) (w : World) (hr : Rd w B A (Lib.byteCells l)) (hl : l.length = n) (h1 : 1 ≤ n) (h4 : n ≤ 4) :
  Calls Tryz.prog 186 #[.slice A n c] w fun e w' => e = .returned (.int .i32 (numL (ints l))) ∧ Below w.heap.size w w' := by
 have HL := hide hl
 have hB : n = 1 ∨ n = 2 ∨ n = 3 ∨ n = 4 := by omega
 clear hl
 obtain ⟨ad, z, rfl, hz, had, hc⟩ := rd_byte hr (k := 0) (by rw [HL.out]; omega)
 have HZ := hide hz
 clear hz
 have hc0 : w.cell? ad = some (.int .u8 (z.toNat : Int)) := by rw [show ad.add 0 = ad by unfold Addr.add; simp] at hc; exact hc
 have hzb : (z.toNat : Int) ≤ 255 := by have := z.toNat_lt; omega
 have hc1 : ∀ o, (w.alloc o).cell? ad = some (.int .u8 (z.toNat : Int)) := fun o => (World.cell?_alloc_lt w o ad (World.block_lt_of_cell? w ad hc0)).trans hc0
 have hst : numGo (ints l) 1 = (z.toNat : Int) % firstD l.length := by
  have h0 := ints_at HZ.out
  rw [numGo_one (by rintro e; rw [e] at h0; simp at h0), ints_len]
  congr 1
  cases hh : ints l with
  | nil => rw [hh] at h0; simp at h0
  | cons x r => rw [hh] at h0; simpa using h0
 rw [HL.out] at hst
 have HST := hide hst
 clear hst
 have HG := hide (numGo_fits (ints l) (by rw [ints_len, HL.out]; exact h1) (by rw [ints_len, HL.out]; exact h4))
 rcases hB with rfl | rfl | rfl | rfl
 all_goals
  go_enter Tryz.func186, Tryz.ntmps186
  go_wp2_with fail
  go_quiet (fail)
  go_wp2_with fail
  go_loop [4, 5] (fun t i => ∃ k : Nat, 1 ≤ k ∧ k ≤ l.length ∧ i = .int .i64 k ∧ t = .int .i64 (numGo (ints l) k)) (fun _ i => 4 - (intOf i).toNat)
  case atStart => exact ⟨1, by omega, by rw [HL.out]; omega, rfl, by rw [HST.out]; rfl⟩
  case round =>
   obtain ⟨k, hk1, hk, rfl, rfl⟩ := hrel
   obtain ⟨g1, g2⟩ := HG.out k hk1 (by rw [ints_len]; exact hk)
   by_cases hlt : k < l.length
   · obtain ⟨ad', z', ea, hz', had', hc'⟩ := rd_byte hr (k := k) hlt
     injection ea with ea
     subst ea
     have hck : ∀ o, (w.alloc o).cell? (ad.add k) = some (.int .u8 (z'.toNat : Int)) := fun o => (World.cell?_alloc_lt w o _ (World.block_lt_of_cell? w _ hc')).trans hc'
     have hzb' : (z'.toNat : Int) ≤ 255 := by have := z'.toNat_lt; omega
     have HZ' := hide hz'
     have hlt' := hlt
     rw [HL.out] at hlt' hk
     clear hz' hlt hc'
     first
      | (exfalso; omega)
      | (go_wp2_with fail
         go_round
         case rel => exact ⟨k + 1, by omega, by rw [HL.out]; omega, by go_num, by rw [numGo_snoc hk1 (ints_at HZ'.out)]⟩
         case measure => simp [intOf]; omega)
   · have hfin : numGo (ints l) k = numL (ints l) := by rw [← numGo_all, ints_len]; congr 1; omega
     have HF := hide hfin
     have hge := hlt
     rw [HL.out] at hge hk
     clear hfin hlt
     go_wp2_with fail
     go_ret
     exact ⟨ret_i32 HF.out, below_drewN ((Below.refl _ _).alloc (Nat.le_refl _) _) _⟩
end Go.Proofs.YtbpgkkoeehopjaaGreat.ref
namespace Go.Proofs.YtbpgkkoeehopjaaGreat.ln
def ch (zs : List Int) (i : Nat) : Int := zs.getD i 0
theorem ch_of {zs : List Int} {i : Nat} {z : Int} (h : zs[i]? = some z) : ch zs i = z := by
 unfold ch; rw [List.getD_eq_getElem?_getD, h]; rfl
def endAt (zs : List Int) (i : Nat) : Bool := decide (ch zs i = 10 ∨ (ch zs i = 13 ∧ ¬ (i + 1 < zs.length ∧ ch zs (i + 1) = 10)))
theorem endAt_lf {zs : List Int} {i : Nat} (h : ch zs i = 10) : endAt zs i = true := decide_eq_true (.inl h)
theorem endAt_cr {zs : List Int} {i : Nat} (h : ch zs i = 13) (h' : ¬ (i + 1 < zs.length ∧ ch zs (i + 1) = 10)) : endAt zs i = true := decide_eq_true (.inr ⟨h, h'⟩)
theorem endAt_crlf {zs : List Int} {i : Nat} (h : ch zs i = 13) (h1 : i + 1 < zs.length) (h2 : ch zs (i + 1) = 10) : endAt zs i = false := decide_eq_false (by omega)
theorem endAt_other {zs : List Int} {i : Nat} (h : ch zs i ≠ 10) (h' : ch zs i ≠ 13) : endAt zs i = false := decide_eq_false (by omega)
theorem of_end {zs : List Int} {i : Nat} (h : endAt zs i = true) : ch zs i = 10 ∨ (ch zs i = 13 ∧ ¬ (i + 1 < zs.length ∧ ch zs (i + 1) = 10)) := of_decide_eq_true h
theorem of_not_end {zs : List Int} {i : Nat} (h : endAt zs i = false) : ch zs i ≠ 10 ∧ (ch zs i = 13 → i + 1 < zs.length ∧ ch zs (i + 1) = 10) := by
 have := of_decide_eq_false h
 exact ⟨fun e => this (.inl e), fun e => Classical.not_not.1 fun hh => this (.inr ⟨e, hh⟩)⟩
def st (zs : List Int) : Nat → Nat
 | 0 => 0
 | k + 1 => if endAt zs k = true then k + 1 else st zs k
def starts (zs : List Int) : Nat → List Nat
 | 0 => [0]
 | k + 1 => if endAt zs k = true then starts zs k ++ [k + 1] else starts zs k
def cut (zs : List Int) (a b : Nat) : List Int := (zs.take b).drop a
def segEnd (zs : List Int) (a b : Nat) : Nat := if ch zs (b - 1) = 10 ∧ a < b - 1 ∧ ch zs (b - 2) = 13 then b - 2 else b - 1
def done (zs : List Int) : Nat → List (List Int)
 | 0 => []
 | k + 1 => if endAt zs k = true then done zs k ++ [cut zs (st zs k) (segEnd zs (st zs k) (k + 1))] else done zs k
def cur (zs : List Int) (k : Nat) : List Int := if st zs k < k ∧ ch zs (k - 1) = 13 then cut zs (st zs k) (k - 1) else cut zs (st zs k) k
def linesOf (zs : List Int) : List (List Int) := done zs zs.length ++ [cut zs (st zs zs.length) zs.length]
theorem st_end {zs : List Int} {k : Nat} (h : endAt zs k = true) : st zs (k + 1) = k + 1 := by simp [st, h]
theorem st_same {zs : List Int} {k : Nat} (h : endAt zs k = false) : st zs (k + 1) = st zs k := by simp [st, h]
theorem st_le (zs : List Int) : ∀ k, st zs k ≤ k
 | 0 => Nat.le_refl _
 | k + 1 => by
  have := st_le zs k
  unfold st
  split <;> omega
theorem no_end (zs : List Int) : ∀ k i, st zs k ≤ i → i < k → endAt zs i = false
 | 0, i, _, h => by omega
 | k + 1, i, h1, h2 => by
  cases he : endAt zs k with
  | true => rw [st_end he] at h1; omega
  | false =>
   rw [st_same he] at h1
   by_cases hi : i = k
   · subst hi; exact he
   · exact no_end zs k i h1 (by omega)
theorem cut_nil (zs : List Int) (a : Nat) : cut zs a a = [] := by
 unfold cut
 rw [List.drop_eq_nil_iff, List.length_take]
 omega
theorem cut_len {zs : List Int} {a b : Nat} (hb : b ≤ zs.length) : (cut zs a b).length = b - a := by
 unfold cut
 rw [List.length_drop, List.length_take]
 omega
theorem cr_last {zs : List Int} {k i : Nat} (h1 : st zs k ≤ i) (h2 : i < k) (h3 : ch zs i = 13) : i + 1 = k ∧ k < zs.length ∧ ch zs k = 10 := by
 obtain ⟨_, hf⟩ := of_not_end (no_end zs k i h1 h2)
 obtain ⟨ha, hb⟩ := hf h3
 by_cases hk : i + 1 < k
 · have := no_end zs k (i + 1) (by omega) hk
   exact absurd hb (of_not_end this).1
 · have : i + 1 = k := by omega
   subst this
   exact ⟨rfl, ha, hb⟩
theorem cur_plain {zs : List Int} {k : Nat} (h : ¬ (k < zs.length ∧ ch zs k = 10)) : cur zs k = cut zs (st zs k) k := by
 unfold cur
 rw [if_neg]
 rintro ⟨h1, h2⟩
 have := cr_last (zs := zs) (k := k) (i := k - 1) (by omega) (by omega) h2
 exact h ⟨this.2.1, this.2.2⟩
theorem done_end {zs : List Int} {k : Nat} (he : endAt zs k = true) : done zs (k + 1) = done zs k ++ [cur zs k] ∧ cur zs (k + 1) = [] := by
 constructor
 · show (if endAt zs k = true then done zs k ++ [cut zs (st zs k) (segEnd zs (st zs k) (k + 1))] else done zs k) = _
   rw [if_pos he]
   congr 2
   rcases of_end he with h | ⟨h, h'⟩
   · unfold segEnd cur
     simp only [Nat.add_sub_cancel]
     have e : k + 1 - 2 = k - 1 := by omega
     rw [e]
     by_cases hc : st zs k < k ∧ ch zs (k - 1) = 13
     · rw [if_pos ⟨h, hc.1, hc.2⟩, if_pos hc]
     · rw [if_neg (fun hh => hc ⟨hh.2.1, hh.2.2⟩), if_neg hc]
   · rw [cur_plain (by omega)]
     unfold segEnd
     simp only [Nat.add_sub_cancel]
     rw [if_neg (by omega)]
 · unfold cur
   rw [st_end he, if_neg (by omega), cut_nil]
theorem starts_end {zs : List Int} {k : Nat} (h : endAt zs k = true) : starts zs (k + 1) = starts zs k ++ [k + 1] := by simp [starts, h]
theorem starts_same {zs : List Int} {k : Nat} (h : endAt zs k = false) : starts zs (k + 1) = starts zs k := by simp [starts, h]
theorem starts_pos (zs : List Int) : ∀ k, 1 ≤ (starts zs k).length
 | 0 => by simp [starts]
 | k + 1 => by
  have := starts_pos zs k
  cases he : endAt zs k with
  | true => rw [starts_end he]; simp
  | false => rw [starts_same he]; exact this
theorem starts_len (zs : List Int) : ∀ k, (starts zs k).length ≤ k + 1
 | 0 => by simp [starts]
 | k + 1 => by
  have := starts_len zs k
  cases he : endAt zs k with
  | true => rw [starts_end he]; simp; omega
  | false => rw [starts_same he]; omega
theorem starts_last (zs : List Int) : ∀ k, (starts zs k)[(starts zs k).length - 1]? = some (st zs k)
 | 0 => by simp [starts, st]
 | k + 1 => by
  cases he : endAt zs k with
  | true => rw [starts_end he, st_end he]; simp
  | false => rw [starts_same he, st_same he]; exact starts_last zs k
theorem starts_at_le (zs : List Int) : ∀ (k j s : Nat), (starts zs k)[j]? = some s → s ≤ k
 | 0, j, s, h => by
  have : s ∈ [0] := List.mem_of_getElem? h
  simp at this
  omega
 | k + 1, j, s, h => by
  cases he : endAt zs k with
  | true =>
   rw [starts_end he, List.getElem?_append] at h
   split at h
   · have := starts_at_le zs k j s h; omega
   · have : s ∈ [k + 1] := List.mem_of_getElem? h
     simp at this
     omega
  | false =>
   rw [starts_same he] at h
   have := starts_at_le zs k j s h; omega
theorem starts_rise (zs : List Int) : ∀ (k j a b : Nat), (starts zs k)[j]? = some a → (starts zs k)[j + 1]? = some b → a < b
 | 0, j, a, b, _, h => by simp [starts] at h
 | k + 1, j, a, b, h1, h2 => by
  cases he : endAt zs k with
  | true =>
   rw [starts_end he] at h1 h2
   rw [List.getElem?_append] at h1 h2
   by_cases hj : j + 1 < (starts zs k).length
   · rw [if_pos hj] at h2
     rw [if_pos (by omega)] at h1
     exact starts_rise zs k j a b h1 h2
   · rw [if_neg hj] at h2
     have hb : b ∈ [k + 1] := List.mem_of_getElem? h2
     simp at hb
     have hj2 : j + 1 - (starts zs k).length < 1 := by
      have := (List.getElem?_eq_some_iff.1 h2).1
      simpa using this
     rw [if_pos (by omega)] at h1
     have := starts_at_le zs k j a h1
     omega
  | false =>
   rw [starts_same he] at h1 h2
   exact starts_rise zs k j a b h1 h2
theorem done_len (zs : List Int) : ∀ k, (done zs k).length + 1 = (starts zs k).length
 | 0 => by simp [done, starts]
 | k + 1 => by
  have := done_len zs k
  cases he : endAt zs k with
  | true => rw [starts_end he, (done_end he).1]; simp; omega
  | false =>
   rw [starts_same he, show done zs (k + 1) = done zs k by simp [done, he]]
   exact this
theorem done_at (zs : List Int) : ∀ (k j a b : Nat), (starts zs k)[j]? = some a → (starts zs k)[j + 1]? = some b → (done zs k)[j]? = some (cut zs a (segEnd zs a b))
 | 0, j, a, b, _, h => by simp [starts] at h
 | k + 1, j, a, b, h1, h2 => by
  have hl := done_len zs k
  cases he : endAt zs k with
  | true =>
   have hd : done zs (k + 1) = done zs k ++ [cut zs (st zs k) (segEnd zs (st zs k) (k + 1))] := by
    show (if endAt zs k = true then _ else _) = _
    rw [if_pos he]
   rw [starts_end he] at h1 h2
   rw [hd]
   rw [List.getElem?_append] at h1 h2
   by_cases hj : j + 1 < (starts zs k).length
   · rw [if_pos hj] at h2
     rw [if_pos (by omega)] at h1
     rw [List.getElem?_append, if_pos (by omega)]
     exact done_at zs k j a b h1 h2
   · rw [if_neg hj] at h2
     have hj2 : j + 1 - (starts zs k).length < 1 := by
      have := (List.getElem?_eq_some_iff.1 h2).1
      simpa using this
     have hb : b ∈ [k + 1] := List.mem_of_getElem? h2
     simp at hb
     subst hb
     rw [if_pos (by omega)] at h1
     have hlast := starts_last zs k
     have e : (starts zs k).length - 1 = j := by omega
     rw [e, h1] at hlast
     injection hlast with ea
     subst ea
     rw [List.getElem?_append, if_neg (by omega)]
     have e2 : j - (done zs k).length = 0 := by omega
     rw [e2]
     rfl
  | false =>
   rw [starts_same he] at h1 h2
   rw [show done zs (k + 1) = done zs k by simp [done, he]]
   exact done_at zs k j a b h1 h2
theorem line_mid {zs : List Int} {j a b : Nat} (h1 : (starts zs zs.length)[j]? = some a) (h2 : (starts zs zs.length)[j + 1]? = some b) : (linesOf zs)[j]? = some (cut zs a (segEnd zs a b)) := by
 have hl := done_len zs zs.length
 have := (List.getElem?_eq_some_iff.1 h2).1
 unfold linesOf
 rw [List.getElem?_append, if_pos (by omega)]
 exact done_at zs zs.length j a b h1 h2
theorem line_end {zs : List Int} {j a : Nat} (h1 : (starts zs zs.length)[j]? = some a) (h2 : ¬ j + 1 < (starts zs zs.length).length) : (linesOf zs)[j]? = some (cut zs a zs.length) := by
 have hl := done_len zs zs.length
 have hj := (List.getElem?_eq_some_iff.1 h1).1
 have hlast := starts_last zs zs.length
 have e : (starts zs zs.length).length - 1 = j := by omega
 rw [e, h1] at hlast
 injection hlast with ea
 subst ea
 unfold linesOf
 rw [List.getElem?_append, if_neg (by omega)]
 have e2 : j - (done zs zs.length).length = 0 := by omega
 rw [e2]
 rfl
theorem lines_len (zs : List Int) : (linesOf zs).length = (starts zs zs.length).length := by
 have := done_len zs zs.length
 unfold linesOf
 rw [List.length_append, List.length_singleton]
 omega
end Go.Proofs.YtbpgkkoeehopjaaGreat.ln
namespace Go.Proofs.YtbpgkkoeehopjaaGreat.lines
open Go.RowKit Go.Proofs.YtbpgkkoeehopjaaGreat.words Go.Proofs.YtbpgkkoeehopjaaGreat.enc Go.Proofs.YtbpgkkoeehopjaaGreat.dec Go.Proofs.YtbpgkkoeehopjaaGreat.ref Go.Proofs.YtbpgkkoeehopjaaGreat.ln
structure RowsOwn (w : World) (B : Nat) (cs : List Value) (L : List (List Int)) : Prop where
 len : cs.length = L.length
 rows : ∀ (j : Nat) (l : List Int), L[j]? = some l → ∃ v, cs[j]? = some v ∧ w.ownsRow B 21 1 v l.length (l.map (Value.int .i32))
 apart : ∀ (i j : Nat) (u v : Value), cs[i]? = some u → cs[j]? = some v → i ≠ j → u.ownBlock = none ∨ u.ownBlock ≠ v.ownBlock
theorem rows_of_mem {w : World} {B : Nat} {cs : List Value} {L : List (List Int)} (h : RowsOwn w B cs L) {v : Value} (hv : v ∈ cs) : ∃ l : List Int, w.ownsRow B 21 1 v l.length (l.map (Value.int .i32)) := by
 obtain ⟨j, hj, rfl⟩ := List.getElem_of_mem hv
 obtain ⟨u, hu, ho⟩ := h.rows j (L[j]'(by rw [← h.len]; exact hj)) (List.getElem?_eq_getElem _)
 rw [List.getElem?_eq_getElem hj] at hu
 injection hu with hu
 subst hu
 exact ⟨_, ho⟩
theorem rows_nil (w : World) (B : Nat) : RowsOwn w B [] [] := ⟨rfl, fun j l h => by simp at h, fun i j u v h => by simp at h⟩
theorem rows_kept {w w' : World} {B : Nat} {cs : List Value} {L : List (List Int)} {row : Option Nat} (h : RowsOwn w B cs L) (hg : w.grownBy w' row) (hne : ∀ v ∈ cs, v.ownBlock = none ∨ v.ownBlock ≠ row) : RowsOwn w' B cs L :=
 ⟨h.len, fun j l hl => by
   obtain ⟨v, hv, ho⟩ := h.rows j l hl
   exact ⟨v, hv, ho.kept hg (hne v (List.mem_of_getElem? hv))⟩, h.apart⟩
theorem grown_of_below {w w' : World} (hb : Below w.heap.size w w') (row : Option Nat) : w.grownBy w' row := ⟨hb.os, hb.tape, hb.output, hb.size, fun i hi _ => hb.block i hi⟩
theorem rows_below {w w' : World} {B : Nat} {cs : List Value} {L : List (List Int)} (h : RowsOwn w B cs L) (hb : Below w.heap.size w w') : RowsOwn w' B cs L :=
 rows_kept h (grown_of_below hb none) fun v _ => by cases v.ownBlock <;> simp
theorem rows_push {w : World} {B : Nat} {cs : List Value} {L : List (List Int)} {v : Value} {l : List Int} (h : RowsOwn w B cs L) (hv : w.ownsRow B 21 1 v l.length (l.map (Value.int .i32)))
  (hap : ∀ u ∈ cs, u.ownBlock = none ∨ u.ownBlock ≠ v.ownBlock) : RowsOwn w B (cs ++ [v]) (L ++ [l]) := by
 have hlen := h.len
 refine ⟨by simp [hlen], fun j x hx => ?_, fun i j a b ha hb hij => ?_⟩
 · rw [List.getElem?_append] at hx
   split at hx
   · rename_i hj
     obtain ⟨u, hu, ho⟩ := h.rows j x hx
     exact ⟨u, by rw [List.getElem?_append, if_pos (by omega)]; exact hu, ho⟩
   · rename_i hj
     have hx' := List.mem_of_getElem? hx
     have hj1 := (List.getElem?_eq_some_iff.1 hx).1
     simp at hx' hj1
     subst hx'
     exact ⟨v, by rw [List.getElem?_append, if_neg (by omega), show j - cs.length = 0 by omega]; rfl, hv⟩
 · rw [List.getElem?_append] at ha hb
   by_cases hi : i < cs.length
   · rw [if_pos hi] at ha
     by_cases hj : j < cs.length
     · rw [if_pos hj] at hb
       exact h.apart i j a b ha hb hij
     · rw [if_neg hj] at hb
       have := List.mem_of_getElem? hb
       simp at this
       subst this
       exact hap a (List.mem_of_getElem? ha)
   · rw [if_neg hi] at ha
     have h1 := List.mem_of_getElem? ha
     have h2 := (List.getElem?_eq_some_iff.1 ha).1
     simp at h1 h2
     subst h1
     by_cases hj : j < cs.length
     · rw [if_pos hj] at hb
       rcases hap b (List.mem_of_getElem? hb) with h3 | h3
       · by_cases h4 : a.ownBlock = none
         · exact .inl h4
         · exact .inr (by rw [h3]; exact h4)
       · exact .inr (fun e => h3 e.symm)
     · rw [if_neg hj] at hb
       have h3 := (List.getElem?_eq_some_iff.1 hb).1
       simp at h3
       omega
theorem own_types {w : World} {B B' e e' s s' n n' : Nat} {v v' : Value} {xs xs' : List Value} (h : w.ownsRow B e s v n xs) (h' : w.ownsRow B' e' s' v' n' xs') (hne : e ≠ e') : v.ownBlock = none ∨ v.ownBlock ≠ v'.ownBlock := by
 rcases h.2 with ⟨rfl, _⟩ | ⟨g, cap, cur, rfl, _, hg, _⟩
 · exact .inl rfl
 · rcases h'.2 with ⟨rfl, _⟩ | ⟨g', cap', cur', rfl, _, hg', _⟩
   · exact .inr (by simp [Value.ownBlock])
   · refine .inr fun ee => ?_
     have : g = g' := by simpa [Value.ownBlock] using ee
     subst this
     rw [hg] at hg'
     injection hg' with hg'
     injection hg' with _ ht
     exact hne ht
theorem slice_info : (Tryz.prog.info? 187).map (fun i => (i.zero, i.size, i.bytes)) = some (some (.slice none 0 0), 1, 24) := by kernel_rfl
theorem rd_slice (w : World) (B : Nat) (v : Value) (hB : w.heap.size < B) : Rd (w.alloc (.cells #[v] 187)) B (some ⟨w.heap.size, 0, none⟩) [v] :=
 rd_new w [v] 187 hB
def LinesPost (zs : List Int) (w : World) (e : Ending) (w' : World) : Prop :=
 ∃ v cs, e = .returned v ∧ w'.ownsRow w.heap.size 187 1 v cs.length cs ∧ RowsOwn w' w.heap.size cs (linesOf zs) ∧ Below w.heap.size w w'
end Go.Proofs.YtbpgkkoeehopjaaGreat.lines
namespace Go.Proofs.YtbpgkkoeehopjaaGreat.lex
open Go.RowKit Go.Proofs.YtbpgkkoeehopjaaGreat.words Go.Proofs.YtbpgkkoeehopjaaGreat.enc Go.Proofs.YtbpgkkoeehopjaaGreat.tree Go.Proofs.YtbpgkkoeehopjaaGreat.gram Go.Proofs.YtbpgkkoeehopjaaGreat.ln
def blkF (s : List Int) (i : Nat) : Nat → Nat → Option Nat
 | 0, _ => none
 | f + 1, j => match s[j]? with
  | none => none
  | some c => if c < 0 then some i
   else if c = 92 ∧ threeF s (j + 1) 34 = true then blkF s i f (j + 4)
   else if threeF s j 34 = true then some (j + 3)
   else blkF s i f (j + 1)
def escT (s : List Int) (i : Nat) : Bool := decide (s[i]? = some 92 ∧ threeF s (i + 1) 34 = true)
theorem three_len {s : List Int} {i : Nat} {c : Int} (h : threeF s i c = true) : i + 2 < s.length := by
 have h := (of_decide_eq_true h).2.2
 exact (List.getElem?_eq_some_iff.1 h).1
theorem escT_len {s : List Int} {i : Nat} (h : escT s i = true) : i + 3 < s.length := by
 have := three_len (of_decide_eq_true h).2
 omega
def standGo (s : List Int) : Nat → Nat → Int → Int → Bool
 | 0, _, _, _ => true
 | g + 1, i, q, l => match s[i]? with
  | none => (l != 34) && (l != 92)
  | some z => if sourceF z = false then false
   else if escT s i = true then standGo s g (i + 4) 0 0
   else if z = 34 then (if q + 1 = 3 then false else standGo s g (i + 1) (q + 1) z)
   else standGo s g (i + 1) 0 z
def standF (s : List Int) : Bool := standGo s (s.length + 1) 0 0 0
def openGo (s : List Int) : Nat → Nat → List Int
 | 0, _ => []
 | g + 1, i => match s[i]? with
  | none => []
  | some z => if escT s i = true then 34 :: 34 :: 34 :: openGo s g (i + 4) else z :: openGo s g (i + 1)
def openF (s : List Int) : List Int := openGo s (s.length + 1) 0
theorem openGo_len (s : List Int) : ∀ g i, i ≤ s.length → (openGo s g i).length + i ≤ s.length
 | 0, i, h => by simp [openGo]; exact h
 | g + 1, i, h => by
  unfold openGo
  cases hz : s[i]? with
  | none => simpa using h
  | some z =>
   have hi := (List.getElem?_eq_some_iff.1 hz).1
   dsimp only
   split
   · rename_i he
     have h4 := escT_len he
     have := openGo_len s g (i + 4) (by omega)
     simp only [List.length_cons]; omega
   · have := openGo_len s g (i + 1) (by omega)
     simp only [List.length_cons]; omega
theorem openF_len (s : List Int) : (openF s).length ≤ s.length := by have := openGo_len s (s.length + 1) 0 (Nat.zero_le _); unfold openF; omega
def whiteF (c : Int) : Bool := (c == 9) || (c == 32)
def indF (s : List Int) : Nat := (s.takeWhile whiteF).length
theorem takeWhile_len {α : Type} (p : α → Bool) (l : List α) : (l.takeWhile p).length ≤ l.length := by
 induction l with
 | nil => simp
 | cons a l ih => rw [List.takeWhile_cons]; split <;> simp <;> omega
theorem indF_le (s : List Int) : indF s ≤ s.length := takeWhile_len _ _
def blankL (s : List Int) : Bool := decide (indF s = s.length)
def leastF (x : List Int) (l : Int) : Int := if indF x < x.length ∧ (l < 0 ∨ (indF x : Int) < l) then indF x else l
def leastGo : List (List Int) → Int → Int
 | [], l => l
 | x :: r, l => leastGo r (leastF x l)
def commonF (ls : List (List Int)) : Int := if leastGo (ls.drop 1) (-1) < 0 then 0 else leastGo (ls.drop 1) (-1)
theorem commonF_ge (ls : List (List Int)) : 0 ≤ commonF ls := by unfold commonF; split <;> omega
theorem leastF_le (x : List Int) (l N : Int) (h : l ≤ N) (hx : (x.length : Int) ≤ N) : leastF x l ≤ N := by have := indF_le x; unfold leastF; split <;> omega
theorem leastGo_le : ∀ (ls : List (List Int)) (l N : Int), l ≤ N → (∀ x ∈ ls, (x.length : Int) ≤ N) → leastGo ls l ≤ N
 | [], l, N, h, _ => h
 | x :: r, l, N, h, hx => leastGo_le r _ N (leastF_le x l N h (hx x (by simp))) fun y hy => hx y (by simp [hy])
theorem commonF_le (ls : List (List Int)) (N : Nat) (h : ∀ x ∈ ls, x.length ≤ N) : commonF ls ≤ N := by
 have := leastGo_le (ls.drop 1) (-1) N (by omega) (fun x hx => by have := h x (List.mem_of_mem_drop hx); omega)
 unfold commonF; split <;> omega
def cutF (n : Nat) : List (List Int) → List (List Int)
 | [] => []
 | l :: r => l :: r.map (·.drop n)
theorem cutF_len (n : Nat) (ls : List (List Int)) : (cutF n ls).length = ls.length := by cases ls <;> simp [cutF]
theorem cutF_at (n : Nat) {ls : List (List Int)} {k : Nat} {x : List Int} (h : ls[k]? = some x) : (cutF n ls)[k]? = some (if k = 0 then x else x.drop n) := by
 cases ls with
 | nil => simp at h
 | cons l r => cases k with
  | zero => simpa [cutF] using h
  | succ k => simp only [List.getElem?_cons_succ] at h; simp [cutF, h]
def fromF (c : List (List Int)) : Nat := (c.takeWhile blankL).length
def toGo (c : List (List Int)) (f : Nat) : Nat → Nat
 | 0 => 0
 | t + 1 => if f < t + 1 ∧ (c[t]?.map blankL).getD false = true then toGo c f t else t + 1
def dedentF (ls : List (List Int)) : List (List Int) :=
 let c := cutF (commonF ls).toNat ls
 (c.take (toGo c (fromF c) c.length)).drop (fromF c)
def joinL : List (List Int) → List Int
 | [] => []
 | l :: r => l ++ r.flatMap (10 :: ·)
def blockV (s : List Int) : Txt × Int := if standF s = true then ((encS (joinL (dedentF ((linesOf s).map openF)))).data.toList, 0) else ([], 60)
theorem lines_len (zs : List Int) : ∀ l ∈ linesOf zs, l.length ≤ zs.length := by
 have hd : ∀ k, k ≤ zs.length → ∀ l ∈ done zs k, l.length ≤ zs.length := by
  intro k
  induction k with
  | zero => intro _ l hl; simp [done] at hl
  | succ k ih =>
   intro hk l hl
   unfold done at hl
   split at hl
   · rcases List.mem_append.1 hl with hl | hl
     · exact ih (by omega) l hl
     · obtain rfl := List.mem_singleton.1 hl
       unfold cut
       simp only [List.length_drop, List.length_take]; omega
   · exact ih (by omega) l hl
 intro l hl
 rcases List.mem_append.1 hl with hl | hl
 · exact hd _ (Nat.le_refl _) l hl
 · obtain rfl := List.mem_singleton.1 hl
   unfold cut
   simp only [List.length_drop, List.length_take]; omega
theorem lines_num (zs : List Int) : (linesOf zs).length ≤ zs.length + 1 := by
 have hd : ∀ k, (done zs k).length ≤ k := by
  intro k
  induction k with
  | zero => simp [done]
  | succ k ih =>
   unfold done
   split
   · rw [List.length_append, List.length_singleton]; omega
   · omega
 unfold linesOf
 rw [List.length_append, List.length_singleton]
 have := hd zs.length; omega
end Go.Proofs.YtbpgkkoeehopjaaGreat.lex
