/-
  The walks of the classes of the program and of the reference, each once.
-/
import Derived.Test.YtomkkagopjpfkaaRows
import Derived.WalkKit
import Derived.Lib.Hide
namespace Go.Proofs.Ytomkkagopjpfkaa.classes
open Go.RowKit
set_option linter.unusedVariables false

/-- does the character stand among the bytes? -/
def inB (c : Int) (l : List UInt8) : Bool := l.any fun b => (b.toNat : Int) == c

theorem inB_take (c : Int) (l : List UInt8) (k : Nat) (h : k < l.length) : inB c (l.take (k + 1)) = (inB c (l.take k) || ((l[k].toNat : Int) == c)) := by
  unfold inB
  rw [List.take_succ_eq_append_getElem h, List.any_append]
  simp only [List.any_cons, List.any_nil, Bool.or_false]
theorem inB_hit (c : Int) (l : List UInt8) (k : Nat) (h : k < l.length) (e : ((l[k].toNat : Int) == c) = true) : inB c l = true := by
  unfold inB; rw [List.any_eq_true]; exact ⟨l[k], List.getElem_mem h, e⟩

theorem ret_bool {a b : Bool} (h : a = b) : Ending.returned (.bool a) = .returned (.bool b) := by rw [h]

theorem in_any (c : Int) (s : ByteArray) (w : World) (hs : s.size ≤ maxLen) :
    Calls Try.prog 30 #[.int .i32 c, .string s] w fun e w' => e = .returned (.bool (inB c s.data.toList)) ∧ w = w' := by
  unfold maxLen at hs
  go_enter Try.func30, Try.ntmps30
  go_wp2
  go_loop [5] (fun i => ∃ k : Nat, k ≤ s.size ∧ i = .int .i64 k ∧ Hid (inB c (s.data.toList.take k) = false)) (fun i => s.size - (intOf i).toNat)
  case atStart => exact ⟨0, Nat.zero_le _, rfl, rfl⟩
  case round =>
    obtain ⟨k, hk, rfl, hn⟩ := hrel
    by_cases hlt : k < s.size
    · have hb : (s[k].toNat : Int) ≤ 255 := by have := s[k].toNat_lt; omega
      go_wp2
      · have he : ((s[k].toNat : Int) == c) = true := by assumption
        go_ret
        exact ⟨ret_bool (inB_hit c s.data.toList k (by simpa using hlt) he).symm, rfl⟩
      · have he : ((s[k].toNat : Int) == c) = false := by assumption
        go_round
        case rel => exact ⟨k + 1, by omega, by go_num, by
          show inB c (s.data.toList.take (k + 1)) = false
          rw [inB_take c s.data.toList k (by simpa using hlt), hn.out, Bool.false_or]; exact he⟩
        case measure => simp [intOf]; omega
    · go_wp2
      go_ret
      exact ⟨ret_bool (by rw [← hn.out, List.take_of_length_le (by simp; omega)]), rfl⟩

def letters : List UInt8 := [97, 98, 99, 100, 101, 102, 103, 104, 105, 106, 107, 108, 109, 110, 111, 112, 113, 114, 115, 116, 117, 118, 119, 120, 121, 122, 65, 66, 67, 68, 69, 70, 71, 72, 73, 74, 75, 76, 77, 78, 79, 80, 81, 82, 83, 84, 85, 86, 87, 88, 89, 90, 95]
def digits : List UInt8 := [48, 49, 50, 51, 52, 53, 54, 55, 56, 57]

/-- outside the bytes below 128 nothing is met; inside, all is looked up -/
theorem inB_by (l : List UInt8) (f : Int → Bool) (hl : ∀ b ∈ l, b.toNat < 128) (hf : ∀ c : Int, c < 0 ∨ 128 ≤ c → f c = false) (hin : ∀ n : Fin 128, inB (n.val : Int) l = f (n.val : Int)) (c : Int) : inB c l = f c := by
  by_cases h : c < 0 ∨ 128 ≤ c
  · rw [hf c h]
    unfold inB
    rw [List.any_eq_false]
    intro b hb e
    have h1 := hl b hb
    have h2 : (b.toNat : Int) = c := by simpa using e
    omega
  · obtain ⟨n, rfl⟩ := Int.eq_ofNat_of_zero_le (a := c) (by omega)
    exact hin ⟨n, by omega⟩

def srcB (c : Int) : Bool := decide (c = 9 ∨ c = 10 ∨ c = 13 ∨ (32 ≤ c ∧ c ≤ 65535 ∧ ¬ (55296 ≤ c ∧ c ≤ 57343)))
def blankB (c : Int) : Bool := decide (c = 9 ∨ c = 10 ∨ c = 13 ∨ c = 32 ∨ c = 44 ∨ c = 65279)
def startB (c : Int) : Bool := decide ((65 ≤ c ∧ c ≤ 90) ∨ (97 ≤ c ∧ c ≤ 122) ∨ c = 95)
def digitB (c : Int) : Bool := decide (48 ≤ c ∧ c ≤ 57)
def hexV (c : Int) : Int := if 48 ≤ c ∧ c ≤ 57 then c - 48 else if 97 ≤ c ∧ c ≤ 102 then c - 87 else if 65 ≤ c ∧ c ≤ 70 then c - 55 else -1

theorem in_letters (c : Int) : inB c letters = startB c :=
  inB_by letters startB (by decide) (fun c h => by simp only [startB, decide_eq_false_iff_not]; omega) (by decide +kernel) c
theorem in_digits (c : Int) : inB c digits = digitB c :=
  inB_by digits digitB (by decide) (fun c h => by simp only [digitB, decide_eq_false_iff_not]; omega) (by decide +kernel) c
theorem in_three (c : Int) : inB c [9, 10, 13] = decide (c = 9 ∨ c = 10 ∨ c = 13) :=
  inB_by [9, 10, 13] (fun c => decide (c = 9 ∨ c = 10 ∨ c = 13)) (by decide) (fun c h => by simp only [decide_eq_false_iff_not]; omega) (by decide +kernel) c
theorem in_five (c : Int) : inB c [9, 10, 13, 32, 44] = decide (c = 9 ∨ c = 10 ∨ c = 13 ∨ c = 32 ∨ c = 44) :=
  inB_by [9, 10, 13, 32, 44] (fun c => decide (c = 9 ∨ c = 10 ∨ c = 13 ∨ c = 32 ∨ c = 44)) (by decide) (fun c h => by simp only [decide_eq_false_iff_not]; omega) (by decide +kernel) c

/-- the reference's Scalar -/
def scalB (c : Int) : Bool := decide (0 ≤ c ∧ c ≤ 1114111 ∧ ¬ (55296 ≤ c ∧ c ≤ 57343))

theorem Source_any (c : Int) (w : World) :
    Calls Try.prog 15 #[.int .i32 c] w fun e w' => e = .returned (.bool (srcB c)) ∧ w = w' := by
  by_cases a0 : c = 9
  · subst a0
    go_enter Try.func15, Try.ntmps15
    go_wp2
    go_ret
    exact ⟨ret_bool (Bool.eq_iff_iff.2 (by simp only [srcB, decide_eq_true_eq]; first | omega | (simp; done) | (simp; omega))), rfl⟩
  by_cases a1 : c = 10
  · subst a1
    go_enter Try.func15, Try.ntmps15
    go_wp2
    go_ret
    exact ⟨ret_bool (Bool.eq_iff_iff.2 (by simp only [srcB, decide_eq_true_eq]; first | omega | (simp; done) | (simp; omega))), rfl⟩
  by_cases a2 : c = 13
  · subst a2
    go_enter Try.func15, Try.ntmps15
    go_wp2
    go_ret
    exact ⟨ret_bool (Bool.eq_iff_iff.2 (by simp only [srcB, decide_eq_true_eq]; first | omega | (simp; done) | (simp; omega))), rfl⟩
  by_cases a3 : c < 32
  · go_enter Try.func15, Try.ntmps15
    go_wp2
    go_ret
    exact ⟨ret_bool (Bool.eq_iff_iff.2 (by simp only [srcB, decide_eq_true_eq]; first | omega | (simp; done) | (simp; omega))), rfl⟩
  by_cases a4 : 65535 < c
  · go_enter Try.func15, Try.ntmps15
    go_wp2
    go_ret
    exact ⟨ret_bool (Bool.eq_iff_iff.2 (by simp only [srcB, decide_eq_true_eq]; first | omega | (simp; done) | (simp; omega))), rfl⟩
  by_cases a5 : c < 55296
  · go_enter Try.func15, Try.ntmps15
    go_wp2
    go_ret
    exact ⟨ret_bool (Bool.eq_iff_iff.2 (by simp only [srcB, decide_eq_true_eq]; first | omega | (simp; done) | (simp; omega))), rfl⟩
  by_cases a6 : 57344 ≤ c
  · go_enter Try.func15, Try.ntmps15
    go_wp2
    go_ret
    exact ⟨ret_bool (Bool.eq_iff_iff.2 (by simp only [srcB, decide_eq_true_eq]; first | omega | (simp; done) | (simp; omega))), rfl⟩
  · go_enter Try.func15, Try.ntmps15
    go_wp2
    go_ret
    exact ⟨ret_bool (Bool.eq_iff_iff.2 (by simp only [srcB, decide_eq_true_eq]; first | omega | (simp; done) | (simp; omega))), rfl⟩

theorem Blank_any (c : Int) (w : World) :
    Calls Try.prog 17 #[.int .i32 c] w fun e w' => e = .returned (.bool (blankB c)) ∧ w = w' := by
  by_cases a0 : c = 9
  · subst a0
    go_enter Try.func17, Try.ntmps17
    go_wp2
    go_ret
    exact ⟨ret_bool (Bool.eq_iff_iff.2 (by simp only [blankB, decide_eq_true_eq]; first | omega | (simp; done) | (simp; omega))), rfl⟩
  by_cases a1 : c = 10
  · subst a1
    go_enter Try.func17, Try.ntmps17
    go_wp2
    go_ret
    exact ⟨ret_bool (Bool.eq_iff_iff.2 (by simp only [blankB, decide_eq_true_eq]; first | omega | (simp; done) | (simp; omega))), rfl⟩
  by_cases a2 : c = 13
  · subst a2
    go_enter Try.func17, Try.ntmps17
    go_wp2
    go_ret
    exact ⟨ret_bool (Bool.eq_iff_iff.2 (by simp only [blankB, decide_eq_true_eq]; first | omega | (simp; done) | (simp; omega))), rfl⟩
  by_cases a3 : c = 32
  · subst a3
    go_enter Try.func17, Try.ntmps17
    go_wp2
    go_ret
    exact ⟨ret_bool (Bool.eq_iff_iff.2 (by simp only [blankB, decide_eq_true_eq]; first | omega | (simp; done) | (simp; omega))), rfl⟩
  by_cases a4 : c = 44
  · subst a4
    go_enter Try.func17, Try.ntmps17
    go_wp2
    go_ret
    exact ⟨ret_bool (Bool.eq_iff_iff.2 (by simp only [blankB, decide_eq_true_eq]; first | omega | (simp; done) | (simp; omega))), rfl⟩
  by_cases a5 : c = 65279
  · subst a5
    go_enter Try.func17, Try.ntmps17
    go_wp2
    go_ret
    exact ⟨ret_bool (Bool.eq_iff_iff.2 (by simp only [blankB, decide_eq_true_eq]; first | omega | (simp; done) | (simp; omega))), rfl⟩
  · go_enter Try.func17, Try.ntmps17
    go_wp2
    go_ret
    exact ⟨ret_bool (Bool.eq_iff_iff.2 (by simp only [blankB, decide_eq_true_eq]; first | omega | (simp; done) | (simp; omega))), rfl⟩

theorem NameStart_any (c : Int) (w : World) :
    Calls Try.prog 19 #[.int .i32 c] w fun e w' => e = .returned (.bool (startB c)) ∧ w = w' := by
  by_cases a0 : c < 65
  · go_enter Try.func19, Try.ntmps19
    go_wp2
    go_ret
    exact ⟨ret_bool (Bool.eq_iff_iff.2 (by simp only [startB, decide_eq_true_eq]; first | omega | (simp; done) | (simp; omega))), rfl⟩
  by_cases a1 : c ≤ 90
  · go_enter Try.func19, Try.ntmps19
    go_wp2
    go_ret
    exact ⟨ret_bool (Bool.eq_iff_iff.2 (by simp only [startB, decide_eq_true_eq]; first | omega | (simp; done) | (simp; omega))), rfl⟩
  by_cases a2 : c = 95
  · subst a2
    go_enter Try.func19, Try.ntmps19
    go_wp2
    go_ret
    exact ⟨ret_bool (Bool.eq_iff_iff.2 (by simp only [startB, decide_eq_true_eq]; first | omega | (simp; done) | (simp; omega))), rfl⟩
  by_cases a3 : c < 97
  · go_enter Try.func19, Try.ntmps19
    go_wp2
    go_ret
    exact ⟨ret_bool (Bool.eq_iff_iff.2 (by simp only [startB, decide_eq_true_eq]; first | omega | (simp; done) | (simp; omega))), rfl⟩
  by_cases a4 : c ≤ 122
  · go_enter Try.func19, Try.ntmps19
    go_wp2
    go_ret
    exact ⟨ret_bool (Bool.eq_iff_iff.2 (by simp only [startB, decide_eq_true_eq]; first | omega | (simp; done) | (simp; omega))), rfl⟩
  · go_enter Try.func19, Try.ntmps19
    go_wp2
    go_ret
    exact ⟨ret_bool (Bool.eq_iff_iff.2 (by simp only [startB, decide_eq_true_eq]; first | omega | (simp; done) | (simp; omega))), rfl⟩

theorem Digit_any (c : Int) (w : World) :
    Calls Try.prog 23 #[.int .i32 c] w fun e w' => e = .returned (.bool (digitB c)) ∧ w = w' := by
  by_cases a0 : c < 48
  · go_enter Try.func23, Try.ntmps23
    go_wp2
    go_ret
    exact ⟨ret_bool (Bool.eq_iff_iff.2 (by simp only [digitB, decide_eq_true_eq]; first | omega | (simp; done) | (simp; omega))), rfl⟩
  by_cases a1 : c ≤ 57
  · go_enter Try.func23, Try.ntmps23
    go_wp2
    go_ret
    exact ⟨ret_bool (Bool.eq_iff_iff.2 (by simp only [digitB, decide_eq_true_eq]; first | omega | (simp; done) | (simp; omega))), rfl⟩
  · go_enter Try.func23, Try.ntmps23
    go_wp2
    go_ret
    exact ⟨ret_bool (Bool.eq_iff_iff.2 (by simp only [digitB, decide_eq_true_eq]; first | omega | (simp; done) | (simp; omega))), rfl⟩

theorem Scalar_any (c : Int) (w : World) :
    Calls Try.prog 31 #[.int .i32 c] w fun e w' => e = .returned (.bool (scalB c)) ∧ w = w' := by
  by_cases a0 : c < 0
  · go_enter Try.func31, Try.ntmps31
    go_wp2
    go_ret
    exact ⟨ret_bool (Bool.eq_iff_iff.2 (by simp only [scalB, decide_eq_true_eq]; first | omega | (simp; done) | (simp; omega))), rfl⟩
  by_cases a1 : c < 55296
  · go_enter Try.func31, Try.ntmps31
    go_wp2
    go_ret
    exact ⟨ret_bool (Bool.eq_iff_iff.2 (by simp only [scalB, decide_eq_true_eq]; first | omega | (simp; done) | (simp; omega))), rfl⟩
  by_cases a2 : c ≤ 57343
  · go_enter Try.func31, Try.ntmps31
    go_wp2
    go_ret
    exact ⟨ret_bool (Bool.eq_iff_iff.2 (by simp only [scalB, decide_eq_true_eq]; first | omega | (simp; done) | (simp; omega))), rfl⟩
  by_cases a3 : c ≤ 1114111
  · go_enter Try.func31, Try.ntmps31
    go_wp2
    go_ret
    exact ⟨ret_bool (Bool.eq_iff_iff.2 (by simp only [scalB, decide_eq_true_eq]; first | omega | (simp; done) | (simp; omega))), rfl⟩
  · go_enter Try.func31, Try.ntmps31
    go_wp2
    go_ret
    exact ⟨ret_bool (Bool.eq_iff_iff.2 (by simp only [scalB, decide_eq_true_eq]; first | omega | (simp; done) | (simp; omega))), rfl⟩

theorem size_ok (s : ByteArray) (h : s.size ≤ 64) : s.size ≤ maxLen := Nat.le_trans h (by unfold maxLen; omega)
theorem ref_bool {x y : Bool} (f : Bool) (h : x = f) (k : f = y) : Ending.returned (.bool x) = .returned (.bool y) := by rw [h, k]

theorem RefSource_any (c : Int) (w : World) :
    Calls Try.prog 16 #[.int .i32 c] w fun e w' => e = .returned (.bool (srcB c)) ∧ w = w' := by
  by_cases a0 : c < 32
  · go_enter Try.func16, Try.ntmps16
    go_wp2_with (first | (go_at_call 30; refine (in_any _ _ _ (size_ok _ (by decide))).mono ?_; rintro e w' ⟨rfl, rfl⟩) | (go_at_call 31; refine (Scalar_any _ _).mono ?_; rintro e w' ⟨rfl, rfl⟩))
    go_ret
    exact ⟨(by first | exact ref_bool _ (in_three c) (Bool.eq_iff_iff.2 (by simp only [srcB, decide_eq_true_eq]; omega)) | exact ret_bool (Bool.eq_iff_iff.2 (by unfold srcB scalB; simp only [decide_eq_true_eq]; omega)) | exact ret_bool (Bool.eq_iff_iff.2 (by unfold srcB; simp only [decide_eq_true_eq]; simp; omega))), rfl⟩
  by_cases a1 : c < 65536
  · go_enter Try.func16, Try.ntmps16
    go_wp2_with (first | (go_at_call 30; refine (in_any _ _ _ (size_ok _ (by decide))).mono ?_; rintro e w' ⟨rfl, rfl⟩) | (go_at_call 31; refine (Scalar_any _ _).mono ?_; rintro e w' ⟨rfl, rfl⟩))
    go_ret
    exact ⟨(by first | exact ref_bool _ (in_three c) (Bool.eq_iff_iff.2 (by simp only [srcB, decide_eq_true_eq]; omega)) | exact ret_bool (Bool.eq_iff_iff.2 (by unfold srcB scalB; simp only [decide_eq_true_eq]; omega)) | exact ret_bool (Bool.eq_iff_iff.2 (by unfold srcB; simp only [decide_eq_true_eq]; simp; omega))), rfl⟩
  · go_enter Try.func16, Try.ntmps16
    go_wp2_with (first | (go_at_call 30; refine (in_any _ _ _ (size_ok _ (by decide))).mono ?_; rintro e w' ⟨rfl, rfl⟩) | (go_at_call 31; refine (Scalar_any _ _).mono ?_; rintro e w' ⟨rfl, rfl⟩))
    go_ret
    exact ⟨(by first | exact ref_bool _ (in_three c) (Bool.eq_iff_iff.2 (by simp only [srcB, decide_eq_true_eq]; omega)) | exact ret_bool (Bool.eq_iff_iff.2 (by unfold srcB scalB; simp only [decide_eq_true_eq]; omega)) | exact ret_bool (Bool.eq_iff_iff.2 (by unfold srcB; simp only [decide_eq_true_eq]; simp; omega))), rfl⟩

theorem RefNameStart_any (c : Int) (w : World) :
    Calls Try.prog 20 #[.int .i32 c] w fun e w' => e = .returned (.bool (startB c)) ∧ w = w' := by
  · go_enter Try.func20, Try.ntmps20
    go_wp2_with ((go_at_call 30; refine (in_any _ _ _ (size_ok _ (by decide))).mono ?_; rintro e w' ⟨rfl, rfl⟩))
    go_ret
    exact ⟨ret_bool (in_letters c), rfl⟩

theorem RefDigit_any (c : Int) (w : World) :
    Calls Try.prog 24 #[.int .i32 c] w fun e w' => e = .returned (.bool (digitB c)) ∧ w = w' := by
  · go_enter Try.func24, Try.ntmps24
    go_wp2_with ((go_at_call 30; refine (in_any _ _ _ (size_ok _ (by decide))).mono ?_; rintro e w' ⟨rfl, rfl⟩))
    go_ret
    exact ⟨ret_bool (in_digits c), rfl⟩

def restB (c : Int) : Bool := startB c || digitB c

theorem RefBlank_any (c : Int) (w : World) :
    Calls Try.prog 18 #[.int .i32 c] w fun e w' => e = .returned (.bool (blankB c)) ∧ w = w' := by
  by_cases a : c = 65279
  · subst a
    go_enter Try.func18, Try.ntmps18
    go_wp2
    go_ret
    exact ⟨rfl, rfl⟩
  · have hb : ((c : Int) == 65279) = false := by simpa using a
    go_enter Try.func18, Try.ntmps18
    go_wp2_with ((go_at_call 30; refine (in_any _ _ _ (size_ok _ (by decide))).mono ?_; rintro e w' ⟨rfl, rfl⟩))
    go_ret
    exact ⟨ref_bool _ (in_five c) (Bool.eq_iff_iff.2 (by simp only [blankB, decide_eq_true_eq]; omega)), rfl⟩

theorem NameRest_any (c : Int) (w : World) :
    Calls Try.prog 21 #[.int .i32 c] w fun e w' => e = .returned (.bool (restB c)) ∧ w = w' := by
  cases h : startB c
  all_goals
    go_enter Try.func21, Try.ntmps21
    go_wp2_with (first | (go_at_call 19; refine (NameStart_any _ _).mono ?_; rintro e w' ⟨rfl, rfl⟩) | (go_at_call 23; refine (Digit_any _ _).mono ?_; rintro e w' ⟨rfl, rfl⟩))
    go_ret
    exact ⟨ret_bool (by simp [restB, h]), rfl⟩

theorem RefNameRest_any (c : Int) (w : World) :
    Calls Try.prog 22 #[.int .i32 c] w fun e w' => e = .returned (.bool (restB c)) ∧ w = w' := by
  cases h : startB c
  all_goals
    go_enter Try.func22, Try.ntmps22
    go_wp2_with fail
    refine (in_any _ _ _ (size_ok _ (by decide))).mono ?_
    rintro e w' ⟨rfl, rfl⟩
    have h1 : inB c letters = startB c := in_letters c
    unfold letters at h1
    have h2 : inB c digits = digitB c := in_digits c
    unfold digits at h2
    go_wp2_with (go_at_call 30; refine (in_any _ _ _ (size_ok _ (by decide))).mono ?_; rintro e w' ⟨rfl, rfl⟩)
    go_ret
    exact ⟨ret_bool (by simp [restB, h]), rfl⟩

theorem ret_i64 {a b : Int} (h : a = b) : Ending.returned (.int .i64 a) = .returned (.int .i64 b) := by rw [h]
theorem Hex_any (c : Int) (w : World) :
    Calls Try.prog 25 #[.int .i32 c] w fun e w' => e = .returned (.int .i64 (hexV c)) ∧ w = w' := by
  by_cases a : 48 ≤ c ∧ c ≤ 57
  · have h : digitB c = true := by simp [digitB, a]
    obtain ⟨a1, a2⟩ := a
    go_enter Try.func25, Try.ntmps25
    go_wp2_with (go_at_call 23; refine (Digit_any _ _).mono ?_; rintro e w' ⟨rfl, rfl⟩)
    go_ret
    exact ⟨ret_i64 (by unfold hexV; rw [if_pos ⟨a1, a2⟩]), rfl⟩
  have h : digitB c = false := by simp only [digitB, decide_eq_false_iff_not]; exact a
  by_cases b : 97 ≤ c ∧ c ≤ 102
  · obtain ⟨b1, b2⟩ := b
    clear a
    go_enter Try.func25, Try.ntmps25
    go_wp2_with (go_at_call 23; refine (Digit_any _ _).mono ?_; rintro e w' ⟨rfl, rfl⟩)
    go_ret
    exact ⟨ret_i64 (by unfold hexV; rw [if_neg (by omega), if_pos ⟨b1, b2⟩]; omega), rfl⟩
  by_cases d : 65 ≤ c ∧ c ≤ 70
  · obtain ⟨b1, b2⟩ := d
    clear a b
    go_enter Try.func25, Try.ntmps25
    go_wp2_with (go_at_call 23; refine (Digit_any _ _).mono ?_; rintro e w' ⟨rfl, rfl⟩)
    go_ret
    exact ⟨ret_i64 (by unfold hexV; rw [if_neg (by omega), if_neg (by omega), if_pos ⟨b1, b2⟩]; omega), rfl⟩
  · have hv : hexV c = -1 := by unfold hexV; rw [if_neg a, if_neg b, if_neg d]
    have Hv := Lib.hid hv
    clear hv
    by_cases e1 : 97 ≤ c
    · have e2 : 102 < c := by omega
      clear a b d
      go_enter Try.func25, Try.ntmps25
      go_wp2_with (go_at_call 23; refine (Digit_any _ _).mono ?_; rintro e w' ⟨rfl, rfl⟩)
      go_ret
      exact ⟨ret_i64 Hv.out.symm, rfl⟩
    by_cases e3 : 65 ≤ c
    · have e2 : 70 < c := by omega
      clear a b d
      go_enter Try.func25, Try.ntmps25
      go_wp2_with (go_at_call 23; refine (Digit_any _ _).mono ?_; rintro e w' ⟨rfl, rfl⟩)
      go_ret
      exact ⟨ret_i64 Hv.out.symm, rfl⟩
    · clear a b d
      go_enter Try.func25, Try.ntmps25
      go_wp2_with (go_at_call 23; refine (Digit_any _ _).mono ?_; rintro e w' ⟨rfl, rfl⟩)
      go_ret
      exact ⟨ret_i64 Hv.out.symm, rfl⟩

def small : List UInt8 := [48, 49, 50, 51, 52, 53, 54, 55, 56, 57, 97, 98, 99, 100, 101, 102]
def large : List UInt8 := [48, 49, 50, 51, 52, 53, 54, 55, 56, 57, 65, 66, 67, 68, 69, 70]

theorem small_at (s : ByteArray) (h : (⟨#[48, 49, 50, 51, 52, 53, 54, 55, 56, 57, 97, 98, 99, 100, 101, 102]⟩ : ByteArray) = s) :
    16 ≤ s.size ∧ s.size ≤ 16 ∧ ∀ (k : Nat) (hk : k < s.size), s[k] = small.getD k 0 := by
  subst h
  refine ⟨by decide, by decide, fun k hk => ?_⟩
  have hk' : k < small.length := hk
  show small.toArray[k] = _
  simp [List.getD_eq_getElem?_getD, hk']
theorem large_at (s : ByteArray) (h : (⟨#[48, 49, 50, 51, 52, 53, 54, 55, 56, 57, 65, 66, 67, 68, 69, 70]⟩ : ByteArray) = s) :
    16 ≤ s.size ∧ s.size ≤ 16 ∧ ∀ (k : Nat) (hk : k < s.size), s[k] = large.getD k 0 := by
  subst h
  refine ⟨by decide, by decide, fun k hk => ?_⟩
  have hk' : k < large.length := hk
  show large.toArray[k] = _
  simp [List.getD_eq_getElem?_getD, hk']

theorem hex_hit (k : Nat) (hk : k < 16) (c : Int) (h : ((small.getD k 0).toNat : Int) = c ∨ ((large.getD k 0).toNat : Int) = c) : hexV c = k := by
  have A : ∀ k : Fin 16, hexV ((small.getD k.val 0).toNat : Int) = (k.val : Int) ∧ hexV ((large.getD k.val 0).toNat : Int) = (k.val : Int) := by decide +kernel
  rcases h with rfl | rfl
  · exact (A ⟨k, hk⟩).1
  · exact (A ⟨k, hk⟩).2
theorem hex_miss (c : Int) (h : ∀ j, j < 16 → ((small.getD j 0).toNat : Int) ≠ c ∧ ((large.getD j 0).toNat : Int) ≠ c) : hexV c = -1 := by
  have A : ∀ n : Fin 128, hexV (n.val : Int) = -1 ∨ ∃ j : Fin 16, ((small.getD j.val 0).toNat : Int) = (n.val : Int) ∨ ((large.getD j.val 0).toNat : Int) = (n.val : Int) := by decide +kernel
  by_cases o : c < 0 ∨ 128 ≤ c
  · unfold hexV; rw [if_neg (by omega), if_neg (by omega), if_neg (by omega)]
  · obtain ⟨n, rfl⟩ := Int.eq_ofNat_of_zero_le (a := c) (by omega)
    rcases A ⟨n, by omega⟩ with a | ⟨j, a | a⟩
    · exact a
    · exact absurd a (h j.val j.isLt).1
    · exact absurd a (h j.val j.isLt).2

theorem RefHex_any (c : Int) (w : World) :
    Calls Try.prog 26 #[.int .i32 c] w fun e w' => e = .returned (.int .i64 (hexV c)) ∧ w = w' := by
  go_enter Try.func26, Try.ntmps26
  go_wp2
  generalize hs : (⟨#[48, 49, 50, 51, 52, 53, 54, 55, 56, 57, 97, 98, 99, 100, 101, 102]⟩ : ByteArray) = s
  generalize hl : (⟨#[48, 49, 50, 51, 52, 53, 54, 55, 56, 57, 65, 66, 67, 68, 69, 70]⟩ : ByteArray) = l
  obtain ⟨s1, s2, s3⟩ := small_at s hs
  obtain ⟨l1, l2, l3⟩ := large_at l hl
  have S3 := Lib.hid s3
  have L3 := Lib.hid l3
  clear hs hl s3 l3
  go_loop [5] (fun i => ∃ k : Nat, k ≤ 16 ∧ i = .int .i64 k ∧ Hid (∀ j, j < k → ((small.getD j 0).toNat : Int) ≠ c ∧ ((large.getD j 0).toNat : Int) ≠ c)) (fun i => 16 - (intOf i).toNat)
  case atStart => exact ⟨0, Nat.zero_le _, rfl, fun j hj => by omega⟩
  case round =>
    obtain ⟨k, hk, rfl, hn⟩ := hrel
    by_cases hlt : k < 16
    · have ks : k < s.size := by omega
      have kl : k < l.size := by omega
      have b1 : (s[k].toNat : Int) ≤ 255 := by have := s[k].toNat_lt; omega
      have b2 : (l[k].toNat : Int) ≤ 255 := by have := l[k].toNat_lt; omega
      by_cases e1 : (s[k].toNat : Int) = c
      · have f1 : ((s[k].toNat : Int) == c) = true := by simpa using e1
        have hh := Lib.hid (hex_hit k hlt c (.inl (by rw [← S3.out k ks]; exact e1)))
        clear e1
        go_wp2
        go_ret
        exact ⟨ret_i64 hh.out.symm, rfl⟩
      have f1 : ((s[k].toNat : Int) == c) = false := by simpa using e1
      by_cases e2 : (l[k].toNat : Int) = c
      · have f2 : ((l[k].toNat : Int) == c) = true := by simpa using e2
        have hh := Lib.hid (hex_hit k hlt c (.inr (by rw [← L3.out k kl]; exact e2)))
        clear e1 e2
        go_wp2
        go_ret
        exact ⟨ret_i64 hh.out.symm, rfl⟩
      · have f2 : ((l[k].toNat : Int) == c) = false := by simpa using e2
        have E : Hid (¬ (s[k].toNat : Int) = c ∧ ¬ (l[k].toNat : Int) = c) := ⟨e1, e2⟩
        clear e1 e2
        go_wp2
        go_round
        case rel =>
          refine ⟨k + 1, by omega, by go_num, fun j hj => ?_⟩
          by_cases hjk : j = k
          · subst hjk
            rw [← S3.out _ ks, ← L3.out _ kl]
            exact E.out
          · exact hn.out j (by omega)
        case measure => simp [intOf]; omega
    · go_wp2
      go_ret
      exact ⟨ret_i64 (hex_miss c (fun j hj => hn.out j (by omega))).symm, rfl⟩
end Go.Proofs.Ytomkkagopjpfkaa.classes
