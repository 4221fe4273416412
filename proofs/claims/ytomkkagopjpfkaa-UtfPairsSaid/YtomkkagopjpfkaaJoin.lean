/-
  The walks of Join and Split of the program and of the reference, each once.
-/
import Derived.Test.YtomkkagopjpfkaaRows
import Derived.WalkKit
namespace Go.Proofs.Ytomkkagopjpfkaa.join
open Go.RowKit
set_option linter.unusedVariables false

/-- two halves that make one character -/
def okJ (h l : Int) : Bool := decide (55296 ≤ h ∧ h ≤ 56319 ∧ 56320 ≤ l ∧ l ≤ 57343)
def valJ (h l : Int) : Int := if okJ h l then 65536 + (h - 55296) * 1024 + (l - 56320) else 0

theorem okJ_true {h l : Int} (a : 55296 ≤ h) (b : h ≤ 56319) (c : 56320 ≤ l) (d : l ≤ 57343) : okJ h l = true := by
  simp [okJ, a, b, c, d]
theorem okJ_false {h l : Int} (a : ¬ (55296 ≤ h ∧ h ≤ 56319 ∧ 56320 ≤ l ∧ l ≤ 57343)) : okJ h l = false := by
  simp only [okJ, decide_eq_false_iff_not]; exact a

/-- a character above U+FFFF -/
def okS (c : Int) : Bool := decide (65536 ≤ c ∧ c ≤ 1114111)
def hiS (c : Int) : Int := if okS c then 55296 + (c - 65536) / 1024 else 0
def loS (c : Int) : Int := if okS c then 56320 + (c - 65536) % 1024 else 0
theorem okS_true {c : Int} (a : 65536 ≤ c) (b : c ≤ 1114111) : okS c = true := by simp [okS, a, b]
theorem okS_false {c : Int} (a : ¬ (65536 ≤ c ∧ c ≤ 1114111)) : okS c = false := by
  simp only [okS, decide_eq_false_iff_not]; exact a

theorem ofInt_i32 (a : Nat) (ha : a < 2147483648) : (BitVec.ofInt 32 (a : Int)).toNat = a := by
  rw [BitVec.ofInt_natCast, BitVec.toNat_ofNat]; exact Nat.mod_eq_of_lt (by omega)
/-- the low ten bits -/
theorem low10 {c : Int} (a : 0 ≤ c) (b : c < 2147483648) : bits .and .i32 c 1023 = c % 1024 := by
  obtain ⟨n, rfl⟩ := Int.eq_ofNat_of_zero_le a
  have hx : n &&& 1023 = n % 1024 := Nat.and_two_pow_sub_one_eq_mod n 10
  show IntKind.i32.wrap ((BitVec.ofInt 32 (n : Int) &&& BitVec.ofInt 32 ((1023 : Nat) : Int)).toNat : Int) = _
  rw [BitVec.toNat_and, ofInt_i32 n (by omega), ofInt_i32 1023 (by omega), hx, IntKind.wrap_i32]
  omega

theorem ret2 {a b : Int} {c d : Bool} (h : a = b) (k : c = d) : Ending.returned (.tuple #[.int .i32 a, .bool c]) = .returned (.tuple #[.int .i32 b, .bool d]) := by rw [h, k]
theorem ret3 {a b a' b' : Int} {c d : Bool} (h : a = b) (h' : a' = b') (k : c = d) :
    Ending.returned (.tuple #[.int .i32 a, .int .i32 a', .bool c]) = .returned (.tuple #[.int .i32 b, .int .i32 b', .bool d]) := by rw [h, h', k]

theorem Join_any (h l : Int) (w : World) :
    Calls Try.prog 12 #[.int .i32 h, .int .i32 l] w fun e w' => e = .returned (.tuple #[.int .i32 (valJ h l), .bool (okJ h l)]) ∧ w = w' := by
  by_cases a : h < 55296
  · go_enter Try.func12, Try.ntmps12
    go_wp2
    go_ret2
    exact ⟨ret2 (by rw [valJ, okJ_false (by omega)]; rfl) (okJ_false (by omega)).symm, rfl⟩
  by_cases b : 56319 < h
  · go_enter Try.func12, Try.ntmps12
    go_wp2
    go_ret2
    exact ⟨ret2 (by rw [valJ, okJ_false (by omega)]; rfl) (okJ_false (by omega)).symm, rfl⟩
  by_cases c : l < 56320
  · go_enter Try.func12, Try.ntmps12
    go_wp2
    go_ret2
    exact ⟨ret2 (by rw [valJ, okJ_false (by omega)]; rfl) (okJ_false (by omega)).symm, rfl⟩
  by_cases d : 57343 < l
  · go_enter Try.func12, Try.ntmps12
    go_wp2
    go_ret2
    exact ⟨ret2 (by rw [valJ, okJ_false (by omega)]; rfl) (okJ_false (by omega)).symm, rfl⟩
  · go_enter Try.func12, Try.ntmps12
    go_wp2
    go_ret2
    exact ⟨ret2 (by rw [valJ, okJ_true (by omega) (by omega) (by omega) (by omega)]; rfl) (okJ_true (by omega) (by omega) (by omega) (by omega)).symm, rfl⟩

theorem RefJoin_any (h l : Int) (w : World) :
    Calls Try.prog 13 #[.int .i32 h, .int .i32 l] w fun e w' => e = .returned (.tuple #[.int .i32 (valJ h l), .bool (okJ h l)]) ∧ w = w' := by
  by_cases a : h < 55296
  · go_enter Try.func13, Try.ntmps13
    go_wp2
    go_ret2
    exact ⟨ret2 (by rw [valJ, okJ_false (by omega)]; rfl) (okJ_false (by omega)).symm, rfl⟩
  by_cases b : 56319 < h
  · go_enter Try.func13, Try.ntmps13
    go_wp2
    go_ret2
    exact ⟨ret2 (by rw [valJ, okJ_false (by omega)]; rfl) (okJ_false (by omega)).symm, rfl⟩
  by_cases c : l < 56320
  · go_enter Try.func13, Try.ntmps13
    go_wp2
    go_ret2
    exact ⟨ret2 (by rw [valJ, okJ_false (by omega)]; rfl) (okJ_false (by omega)).symm, rfl⟩
  by_cases d : 57343 < l
  · go_enter Try.func13, Try.ntmps13
    go_wp2
    go_ret2
    exact ⟨ret2 (by rw [valJ, okJ_false (by omega)]; rfl) (okJ_false (by omega)).symm, rfl⟩
  · go_enter Try.func13, Try.ntmps13
    go_wp2
    go_ret2
    exact ⟨ret2 (by rw [valJ, okJ_true (by omega) (by omega) (by omega) (by omega)]; rfl) (okJ_true (by omega) (by omega) (by omega) (by omega)).symm, rfl⟩

theorem Split_any (c : Int) (w : World) :
    Calls Try.prog 9 #[.int .i32 c] w fun e w' => e = .returned (.tuple #[.int .i32 (hiS c), .int .i32 (loS c), .bool (okS c)]) ∧ w = w' := by
  by_cases a : c < 65536
  · go_enter Try.func9, Try.ntmps9
    go_wp2
    go_ret3
    exact ⟨ret3 (by rw [hiS, okS_false (by omega)]; rfl) (by rw [loS, okS_false (by omega)]; rfl) (okS_false (by omega)).symm, rfl⟩
  by_cases b : 1114111 < c
  · go_enter Try.func9, Try.ntmps9
    go_wp2
    go_ret3
    exact ⟨ret3 (by rw [hiS, okS_false (by omega)]; rfl) (by rw [loS, okS_false (by omega)]; rfl) (okS_false (by omega)).symm, rfl⟩
  · go_enter Try.func9, Try.ntmps9
    go_wp2
    go_ret3
    refine ⟨ret3 ?_ ?_ (okS_true (by omega) (by omega)).symm, rfl⟩
    · rw [hiS, okS_true (by omega) (by omega)]; rfl
    · rw [loS, okS_true (by omega) (by omega)]; rw [low10 (by omega) (by omega), IntWalk.wrap32_in _ ⟨by omega, by omega⟩]; rfl

theorem RefSplit_any (c : Int) (w : World) :
    Calls Try.prog 14 #[.int .i32 c] w fun e w' => e = .returned (.tuple #[.int .i32 (hiS c), .int .i32 (loS c), .bool (okS c)]) ∧ w = w' := by
  by_cases a : c < 65536
  · go_enter Try.func14, Try.ntmps14
    go_wp2
    go_ret3
    exact ⟨ret3 (by rw [hiS, okS_false (by omega)]; rfl) (by rw [loS, okS_false (by omega)]; rfl) (okS_false (by omega)).symm, rfl⟩
  by_cases b : 1114111 < c
  · go_enter Try.func14, Try.ntmps14
    go_wp2
    go_ret3
    exact ⟨ret3 (by rw [hiS, okS_false (by omega)]; rfl) (by rw [loS, okS_false (by omega)]; rfl) (okS_false (by omega)).symm, rfl⟩
  · go_enter Try.func14, Try.ntmps14
    go_wp2
    go_ret3
    refine ⟨ret3 ?_ ?_ (okS_true (by omega) (by omega)).symm, rfl⟩
    · rw [hiS, okS_true (by omega) (by omega)]; rfl
    · rw [loS, okS_true (by omega) (by omega)]; rfl
end Go.Proofs.Ytomkkagopjpfkaa.join
