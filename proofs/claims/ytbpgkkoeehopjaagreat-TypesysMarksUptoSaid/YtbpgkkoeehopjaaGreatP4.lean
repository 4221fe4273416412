/- Part 4 of 17 of a proof: see the last part. -/
import Derived.Test.YtbpgkkoeehopjaaGreatP1
import Derived.Deep.QuietTactic
import Derived.BigQuiet
import Derived.WalkSmall
import Derived.Deep.RegionWith
import Derived.Deep.LoopGhost
import Derived.Laws.OwnMore
set_option linter.unusedVariables false
set_option linter.unusedSimpArgs false
namespace Go.Proofs.YtbpgkkoeehopjaaGreat.gram
open Go.RowKit Go.Proofs.YtbpgkkoeehopjaaGreat.words Go.Proofs.YtbpgkkoeehopjaaGreat.enc Go.Proofs.YtbpgkkoeehopjaaGreat.tree
structure TokD where
 kind : Int
 line : Int
 col : Int
 start : Int
 stop : Int
 text : Txt
 value : Txt
def tokC (t : TokD) : List Value := [.int .i64 t.kind, .int .i64 t.line, .int .i64 t.col, .int .i64 t.start, .int .i64 t.stop, .string (str t.text), .string (str t.value)]
abbrev tokV (t : TokD) : Value := .agg #[.int .i64 t.kind, .int .i64 t.line, .int .i64 t.col, .int .i64 t.start, .int .i64 t.stop, .string (str t.text), .string (str t.value)]
def wordsNo : Txt := [116, 114, 117, 101, 32, 102, 97, 108, 115, 101, 32, 110, 117, 108, 108]
def wordsRoot : Txt := [113, 117, 101, 114, 121, 32, 109, 117, 116, 97, 116, 105, 111, 110, 32, 115, 117, 98, 115, 99, 114, 105, 112, 116, 105, 111, 110]
def wordsPlace : Txt := [81, 85, 69, 82, 89, 32, 77, 85, 84, 65, 84, 73, 79, 78, 32, 83, 85, 66, 83, 67, 82, 73, 80, 84, 73, 79, 78, 32, 70, 73, 69, 76, 68, 32, 70, 82, 65, 71, 77, 69, 78, 84, 95, 68, 69, 70, 73, 78, 73, 84, 73, 79, 78, 32, 70, 82, 65, 71, 77, 69, 78, 84, 95, 83, 80, 82, 69, 65, 68, 32, 73, 78, 76, 73, 78, 69, 95, 70, 82, 65, 71, 77, 69, 78, 84, 32, 86, 65, 82, 73, 65, 66, 76, 69, 95, 68, 69, 70, 73, 78, 73, 84, 73, 79, 78, 32, 83, 67, 72, 69, 77, 65, 32, 83, 67, 65, 76, 65, 82, 32, 79, 66, 74, 69, 67, 84, 32, 70, 73, 69, 76, 68, 95, 68, 69, 70, 73, 78, 73, 84, 73, 79, 78, 32, 65, 82, 71, 85, 77, 69, 78, 84, 95, 68, 69, 70, 73, 78, 73, 84, 73, 79, 78, 32, 73, 78, 84, 69, 82, 70, 65, 67, 69, 32, 85, 78, 73, 79, 78, 32, 69, 78, 85, 77, 32, 69, 78, 85, 77, 95, 86, 65, 76, 85, 69, 32, 73, 78, 80, 85, 84, 95, 79, 66, 74, 69, 67, 84, 32, 73, 78, 80, 85, 84, 95, 70, 73, 69, 76, 68, 95, 68, 69, 70, 73, 78, 73, 84, 73, 79, 78]
def fitsF (s : Txt) (t : TokD) : Bool :=
 if s = [46, 110, 97, 109, 101] then t.kind == 3
 else if s = [46, 99, 97, 115, 101] then (t.kind == 3) && !amongF t.text wordsNo
 else if s = [46, 114, 111, 111, 116] then (t.kind == 3) && amongF t.text wordsRoot
 else if s = [46, 112, 108, 97, 99, 101] then (t.kind == 3) && amongF t.text wordsPlace
 else if s = [46, 115, 116, 114] then (t.kind == 6) || (t.kind == 7)
 else if s = [46, 110, 117, 109] then (t.kind == 4) || (t.kind == 5)
 else if s = [46, 101, 110, 100] then t.kind == 0
 else match s with
  | [] => false
  | c :: r => if c = 39 then (t.kind == 3) && decide (t.text = r) else (t.kind == 2) && decide (t.text = c :: r)
set_option maxRecDepth 100000 in
set_option maxHeartbeats 2000000 in
theorem fits_n (s : Txt) (kind line col start stop : Int) (text value : Txt) (w : World) (e0 : ((str s).toList == [46, 110, 97, 109, 101]) = true) :
  Calls Tryz.prog 141 #[.string (str s), .agg #[.int .i64 kind, .int .i64 line, .int .i64 col, .int .i64 start, .int .i64 stop, .string (str text), .string (str value)]] w fun e w' => e = .returned (.bool (kind == 3)) ∧ Below w.heap.size w w' := by
 have hB := (Below.refl w.heap.size w).alloc (Nat.le_refl _) (.cells #[.int .i64 kind, .int .i64 line, .int .i64 col, .int .i64 start, .int .i64 stop, .string (str text), .string (str value)] 148)
 go_enter Tryz.func141, Tryz.ntmps141
 go_wp2_with fail
 go_ret
 exact ⟨rfl, hB⟩
set_option maxRecDepth 100000 in
set_option maxHeartbeats 2000000 in
theorem fits_c (s : Txt) (kind line col start stop : Int) (text value : Txt) (w : World) (e0 : ((str s).toList == [46, 110, 97, 109, 101]) = false) (e1 : ((str s).toList == [46, 99, 97, 115, 101]) = true)  :
  Calls Tryz.prog 141 #[.string (str s), .agg #[.int .i64 kind, .int .i64 line, .int .i64 col, .int .i64 start, .int .i64 stop, .string (str text), .string (str value)]] w fun e w' => e = .returned (.bool ((kind == 3) && !amongF text wordsNo)) ∧ Below w.heap.size w w' := by
 have hB := (Below.refl w.heap.size w).alloc (Nat.le_refl _) (.cells #[.int .i64 kind, .int .i64 line, .int .i64 col, .int .i64 start, .int .i64 stop, .string (str text), .string (str value)] 148)
 obtain ⟨b, hb⟩ : ∃ b, amongF text wordsNo = b := ⟨_, rfl⟩
 rw [hb]
 have HB := hide hb
 clear hb
 cases h1 : (kind == 3)
 · have h1' : ((kind : Int) == 3) = false := h1
   go_enter Tryz.func141, Tryz.ntmps141
   go_wp2_with fail
   go_ret
   exact ⟨rfl, hB⟩
 · have h1' : ((kind : Int) == 3) = true := h1
   go_enter Tryz.func141, Tryz.ntmps141
   go_wp2_with fail
   refine (among_any text wordsNo _ (by decide)).mono ?_
   rintro e w1 ⟨rfl, hb1⟩
   rw [HB.out]
   go_wp2_with fail
   go_ret
   exact ⟨by cases b <;> rfl, hB.trans (hb1.mono (by simp))⟩
set_option maxRecDepth 100000 in
set_option maxHeartbeats 2000000 in
theorem fits_r (s : Txt) (kind line col start stop : Int) (text value : Txt) (w : World) (e0 : ((str s).toList == [46, 110, 97, 109, 101]) = false) (e1 : ((str s).toList == [46, 99, 97, 115, 101]) = false) (e2 : ((str s).toList == [46, 114, 111, 111, 116]) = true)  :
  Calls Tryz.prog 141 #[.string (str s), .agg #[.int .i64 kind, .int .i64 line, .int .i64 col, .int .i64 start, .int .i64 stop, .string (str text), .string (str value)]] w fun e w' => e = .returned (.bool ((kind == 3) && amongF text wordsRoot)) ∧ Below w.heap.size w w' := by
 have hB := (Below.refl w.heap.size w).alloc (Nat.le_refl _) (.cells #[.int .i64 kind, .int .i64 line, .int .i64 col, .int .i64 start, .int .i64 stop, .string (str text), .string (str value)] 148)
 obtain ⟨b, hb⟩ : ∃ b, amongF text wordsRoot = b := ⟨_, rfl⟩
 rw [hb]
 have HB := hide hb
 clear hb
 cases h1 : (kind == 3)
 · have h1' : ((kind : Int) == 3) = false := h1
   go_enter Tryz.func141, Tryz.ntmps141
   go_wp2_with fail
   go_ret
   exact ⟨rfl, hB⟩
 · have h1' : ((kind : Int) == 3) = true := h1
   go_enter Tryz.func141, Tryz.ntmps141
   go_wp2_with fail
   refine (among_any text wordsRoot _ (by decide)).mono ?_
   rintro e w1 ⟨rfl, hb1⟩
   rw [HB.out]
   go_wp2_with fail
   go_ret
   exact ⟨by cases b <;> rfl, hB.trans (hb1.mono (by simp))⟩
set_option maxRecDepth 100000 in
set_option maxHeartbeats 2000000 in
theorem fits_p (s : Txt) (kind line col start stop : Int) (text value : Txt) (w : World) (e0 : ((str s).toList == [46, 110, 97, 109, 101]) = false) (e1 : ((str s).toList == [46, 99, 97, 115, 101]) = false) (e2 : ((str s).toList == [46, 114, 111, 111, 116]) = false) (e3 : ((str s).toList == [46, 112, 108, 97, 99, 101]) = true)  :
  Calls Tryz.prog 141 #[.string (str s), .agg #[.int .i64 kind, .int .i64 line, .int .i64 col, .int .i64 start, .int .i64 stop, .string (str text), .string (str value)]] w fun e w' => e = .returned (.bool ((kind == 3) && amongF text wordsPlace)) ∧ Below w.heap.size w w' := by
 have hB := (Below.refl w.heap.size w).alloc (Nat.le_refl _) (.cells #[.int .i64 kind, .int .i64 line, .int .i64 col, .int .i64 start, .int .i64 stop, .string (str text), .string (str value)] 148)
 obtain ⟨b, hb⟩ : ∃ b, amongF text wordsPlace = b := ⟨_, rfl⟩
 rw [hb]
 have HB := hide hb
 clear hb
 cases h1 : (kind == 3)
 · have h1' : ((kind : Int) == 3) = false := h1
   go_enter Tryz.func141, Tryz.ntmps141
   go_wp2_with fail
   go_ret
   exact ⟨rfl, hB⟩
 · have h1' : ((kind : Int) == 3) = true := h1
   go_enter Tryz.func141, Tryz.ntmps141
   go_wp2_with fail
   refine (among_any text wordsPlace _ (by decide)).mono ?_
   rintro e w1 ⟨rfl, hb1⟩
   rw [HB.out]
   go_wp2_with fail
   go_ret
   exact ⟨by cases b <;> rfl, hB.trans (hb1.mono (by simp))⟩
set_option maxRecDepth 100000 in
set_option maxHeartbeats 2000000 in
theorem fits_s (s : Txt) (kind line col start stop : Int) (text value : Txt) (w : World) (e0 : ((str s).toList == [46, 110, 97, 109, 101]) = false) (e1 : ((str s).toList == [46, 99, 97, 115, 101]) = false) (e2 : ((str s).toList == [46, 114, 111, 111, 116]) = false) (e3 : ((str s).toList == [46, 112, 108, 97, 99, 101]) = false) (e4 : ((str s).toList == [46, 115, 116, 114]) = true)  :
  Calls Tryz.prog 141 #[.string (str s), .agg #[.int .i64 kind, .int .i64 line, .int .i64 col, .int .i64 start, .int .i64 stop, .string (str text), .string (str value)]] w fun e w' => e = .returned (.bool ((kind == 6) || (kind == 7))) ∧ Below w.heap.size w w' := by
 have hB := (Below.refl w.heap.size w).alloc (Nat.le_refl _) (.cells #[.int .i64 kind, .int .i64 line, .int .i64 col, .int .i64 start, .int .i64 stop, .string (str text), .string (str value)] 148)
 cases h1 : (kind == 6)
 · have h1' : ((kind : Int) == 6) = false := h1
   go_enter Tryz.func141, Tryz.ntmps141
   go_wp2_with fail
   go_ret
   exact ⟨rfl, hB⟩
 · have h1' : ((kind : Int) == 6) = true := h1
   go_enter Tryz.func141, Tryz.ntmps141
   go_wp2_with fail
   go_ret
   exact ⟨rfl, hB⟩
set_option maxRecDepth 100000 in
set_option maxHeartbeats 2000000 in
theorem fits_m (s : Txt) (kind line col start stop : Int) (text value : Txt) (w : World) (e0 : ((str s).toList == [46, 110, 97, 109, 101]) = false) (e1 : ((str s).toList == [46, 99, 97, 115, 101]) = false) (e2 : ((str s).toList == [46, 114, 111, 111, 116]) = false) (e3 : ((str s).toList == [46, 112, 108, 97, 99, 101]) = false) (e4 : ((str s).toList == [46, 115, 116, 114]) = false) (e5 : ((str s).toList == [46, 110, 117, 109]) = true)  :
  Calls Tryz.prog 141 #[.string (str s), .agg #[.int .i64 kind, .int .i64 line, .int .i64 col, .int .i64 start, .int .i64 stop, .string (str text), .string (str value)]] w fun e w' => e = .returned (.bool ((kind == 4) || (kind == 5))) ∧ Below w.heap.size w w' := by
 have hB := (Below.refl w.heap.size w).alloc (Nat.le_refl _) (.cells #[.int .i64 kind, .int .i64 line, .int .i64 col, .int .i64 start, .int .i64 stop, .string (str text), .string (str value)] 148)
 cases h1 : (kind == 4)
 · have h1' : ((kind : Int) == 4) = false := h1
   go_enter Tryz.func141, Tryz.ntmps141
   go_wp2_with fail
   go_ret
   exact ⟨rfl, hB⟩
 · have h1' : ((kind : Int) == 4) = true := h1
   go_enter Tryz.func141, Tryz.ntmps141
   go_wp2_with fail
   go_ret
   exact ⟨rfl, hB⟩
set_option maxRecDepth 100000 in
set_option maxHeartbeats 2000000 in
theorem fits_e (s : Txt) (kind line col start stop : Int) (text value : Txt) (w : World) (e0 : ((str s).toList == [46, 110, 97, 109, 101]) = false) (e1 : ((str s).toList == [46, 99, 97, 115, 101]) = false) (e2 : ((str s).toList == [46, 114, 111, 111, 116]) = false) (e3 : ((str s).toList == [46, 112, 108, 97, 99, 101]) = false) (e4 : ((str s).toList == [46, 115, 116, 114]) = false) (e5 : ((str s).toList == [46, 110, 117, 109]) = false) (e6 : ((str s).toList == [46, 101, 110, 100]) = true) :
  Calls Tryz.prog 141 #[.string (str s), .agg #[.int .i64 kind, .int .i64 line, .int .i64 col, .int .i64 start, .int .i64 stop, .string (str text), .string (str value)]] w fun e w' => e = .returned (.bool (kind == 0)) ∧ Below w.heap.size w w' := by
 have hB := (Below.refl w.heap.size w).alloc (Nat.le_refl _) (.cells #[.int .i64 kind, .int .i64 line, .int .i64 col, .int .i64 start, .int .i64 stop, .string (str text), .string (str value)] 148)
 go_enter Tryz.func141, Tryz.ntmps141
 go_wp2_with fail
 go_ret
 exact ⟨rfl, hB⟩
set_option maxRecDepth 100000 in
set_option maxHeartbeats 2000000 in
theorem fits_q (s : Txt) (c : UInt8) (r : Txt) (kind line col start stop : Int) (text value : Txt) (w : World) (e0 : ((str s).toList == [46, 110, 97, 109, 101]) = false) (e1 : ((str s).toList == [46, 99, 97, 115, 101]) = false) (e2 : ((str s).toList == [46, 114, 111, 111, 116]) = false) (e3 : ((str s).toList == [46, 112, 108, 97, 99, 101]) = false) (e4 : ((str s).toList == [46, 115, 116, 114]) = false) (e5 : ((str s).toList == [46, 110, 117, 109]) = false) (e6 : ((str s).toList == [46, 101, 110, 100]) = false) (hp : 0 < (str s).size) (hg : (str s)[0]'hp = c) (hx : (str s).extract 1 (str s).size = str r) (h63 : (str s).size ≤ 9223372036854775807) (q2 : ((str text).toList == (str r).toList) = decide (text = r)) (h39 : ((c.toNat : Int) == 39) = true) :
  Calls Tryz.prog 141 #[.string (str s), .agg #[.int .i64 kind, .int .i64 line, .int .i64 col, .int .i64 start, .int .i64 stop, .string (str text), .string (str value)]] w fun e w' => e = .returned (.bool ((kind == 3) && decide (text = r))) ∧ Below w.heap.size w w' := by
 have hB := (Below.refl w.heap.size w).alloc (Nat.le_refl _) (.cells #[.int .i64 kind, .int .i64 line, .int .i64 col, .int .i64 start, .int .i64 stop, .string (str text), .string (str value)] 148)
 obtain ⟨b, hb⟩ : ∃ b, decide (text = r) = b := ⟨_, rfl⟩
 rw [hb] at q2 ⊢
 clear hb
 cases h1 : (kind == 3)
 · have h1' : ((kind : Int) == 3) = false := h1
   go_enter Tryz.func141, Tryz.ntmps141
   go_wp2_with fail
   go_quiet (fail)
   go_wp2_with fail
   go_ret
   exact ⟨rfl, below_drewN hB _⟩
 · have h1' : ((kind : Int) == 3) = true := h1
   go_enter Tryz.func141, Tryz.ntmps141
   go_wp2_with fail
   go_quiet (fail)
   go_wp2_with fail
   go_ret
   exact ⟨rfl, below_drewN hB _⟩
set_option maxRecDepth 100000 in
set_option maxHeartbeats 2000000 in
theorem fits_x (s : Txt) (c : UInt8) (r : Txt) (kind line col start stop : Int) (text value : Txt) (w : World) (e0 : ((str s).toList == [46, 110, 97, 109, 101]) = false) (e1 : ((str s).toList == [46, 99, 97, 115, 101]) = false) (e2 : ((str s).toList == [46, 114, 111, 111, 116]) = false) (e3 : ((str s).toList == [46, 112, 108, 97, 99, 101]) = false) (e4 : ((str s).toList == [46, 115, 116, 114]) = false) (e5 : ((str s).toList == [46, 110, 117, 109]) = false) (e6 : ((str s).toList == [46, 101, 110, 100]) = false) (hp : 0 < (str s).size) (hg : (str s)[0]'hp = c) (hx : (str s).extract 1 (str s).size = str r) (h63 : (str s).size ≤ 9223372036854775807) (q2 : ((str text).toList == (str s).toList) = decide (text = s)) (h39 : ((c.toNat : Int) == 39) = false) :
  Calls Tryz.prog 141 #[.string (str s), .agg #[.int .i64 kind, .int .i64 line, .int .i64 col, .int .i64 start, .int .i64 stop, .string (str text), .string (str value)]] w fun e w' => e = .returned (.bool ((kind == 2) && decide (text = s))) ∧ Below w.heap.size w w' := by
 have hB := (Below.refl w.heap.size w).alloc (Nat.le_refl _) (.cells #[.int .i64 kind, .int .i64 line, .int .i64 col, .int .i64 start, .int .i64 stop, .string (str text), .string (str value)] 148)
 obtain ⟨b, hb⟩ : ∃ b, decide (text = s) = b := ⟨_, rfl⟩
 rw [hb] at q2 ⊢
 clear hb
 cases h1 : (kind == 2)
 · have h1' : ((kind : Int) == 2) = false := h1
   go_enter Tryz.func141, Tryz.ntmps141
   go_wp2_with fail
   go_ret
   exact ⟨rfl, hB⟩
 · have h1' : ((kind : Int) == 2) = true := h1
   go_enter Tryz.func141, Tryz.ntmps141
   go_wp2_with fail
   go_ret
   exact ⟨rfl, hB⟩
theorem fits_any (s : Txt) (t : TokD) (w : World) (hs : 0 < s.length) (h63 : s.length ≤ 1099511627776) :
  Calls Tryz.prog 141 #[.string (str s), tokV t] w fun e w' => e = .returned (.bool (fitsF s t)) ∧ Below w.heap.size w w' := by
 obtain ⟨kind, line, col, start, stop, text, value⟩ := t
 by_cases c0 : s = [46, 110, 97, 109, 101]
 · have hr : fitsF s ⟨kind, line, col, start, stop, text, value⟩ = (kind == 3) := by unfold fitsF; rw [if_pos c0]
   rw [hr]
   exact fits_n s kind line col start stop text value w (by rw [str_is]; exact decide_eq_true c0)
 by_cases c1 : s = [46, 99, 97, 115, 101]
 · have hr : fitsF s ⟨kind, line, col, start, stop, text, value⟩ = ((kind == 3) && !amongF text wordsNo) := by unfold fitsF; rw [if_neg c0, if_pos c1]
   rw [hr]
   exact fits_c s kind line col start stop text value w (by rw [str_is]; exact decide_eq_false c0) (by rw [str_is]; exact decide_eq_true c1)
 by_cases c2 : s = [46, 114, 111, 111, 116]
 · have hr : fitsF s ⟨kind, line, col, start, stop, text, value⟩ = ((kind == 3) && amongF text wordsRoot) := by unfold fitsF; rw [if_neg c0, if_neg c1, if_pos c2]
   rw [hr]
   exact fits_r s kind line col start stop text value w (by rw [str_is]; exact decide_eq_false c0) (by rw [str_is]; exact decide_eq_false c1) (by rw [str_is]; exact decide_eq_true c2)
 by_cases c3 : s = [46, 112, 108, 97, 99, 101]
 · have hr : fitsF s ⟨kind, line, col, start, stop, text, value⟩ = ((kind == 3) && amongF text wordsPlace) := by unfold fitsF; rw [if_neg c0, if_neg c1, if_neg c2, if_pos c3]
   rw [hr]
   exact fits_p s kind line col start stop text value w (by rw [str_is]; exact decide_eq_false c0) (by rw [str_is]; exact decide_eq_false c1) (by rw [str_is]; exact decide_eq_false c2) (by rw [str_is]; exact decide_eq_true c3)
 by_cases c4 : s = [46, 115, 116, 114]
 · have hr : fitsF s ⟨kind, line, col, start, stop, text, value⟩ = ((kind == 6) || (kind == 7)) := by unfold fitsF; rw [if_neg c0, if_neg c1, if_neg c2, if_neg c3, if_pos c4]
   rw [hr]
   exact fits_s s kind line col start stop text value w (by rw [str_is]; exact decide_eq_false c0) (by rw [str_is]; exact decide_eq_false c1) (by rw [str_is]; exact decide_eq_false c2) (by rw [str_is]; exact decide_eq_false c3) (by rw [str_is]; exact decide_eq_true c4)
 by_cases c5 : s = [46, 110, 117, 109]
 · have hr : fitsF s ⟨kind, line, col, start, stop, text, value⟩ = ((kind == 4) || (kind == 5)) := by unfold fitsF; rw [if_neg c0, if_neg c1, if_neg c2, if_neg c3, if_neg c4, if_pos c5]
   rw [hr]
   exact fits_m s kind line col start stop text value w (by rw [str_is]; exact decide_eq_false c0) (by rw [str_is]; exact decide_eq_false c1) (by rw [str_is]; exact decide_eq_false c2) (by rw [str_is]; exact decide_eq_false c3) (by rw [str_is]; exact decide_eq_false c4) (by rw [str_is]; exact decide_eq_true c5)
 by_cases c6 : s = [46, 101, 110, 100]
 · have hr : fitsF s ⟨kind, line, col, start, stop, text, value⟩ = (kind == 0) := by unfold fitsF; rw [if_neg c0, if_neg c1, if_neg c2, if_neg c3, if_neg c4, if_neg c5, if_pos c6]
   rw [hr]
   exact fits_e s kind line col start stop text value w (by rw [str_is]; exact decide_eq_false c0) (by rw [str_is]; exact decide_eq_false c1) (by rw [str_is]; exact decide_eq_false c2) (by rw [str_is]; exact decide_eq_false c3) (by rw [str_is]; exact decide_eq_false c4) (by rw [str_is]; exact decide_eq_false c5) (by rw [str_is]; exact decide_eq_true c6)
 obtain ⟨c, r, rfl⟩ : ∃ c r, s = c :: r := by cases s with | nil => simp at hs | cons c r => exact ⟨c, r, rfl⟩
 have hr : fitsF (c :: r) ⟨kind, line, col, start, stop, text, value⟩ = if c = 39 then (kind == 3) && decide (text = r) else (kind == 2) && decide (text = c :: r) := by
  unfold fitsF
  rw [if_neg c0, if_neg c1, if_neg c2, if_neg c3, if_neg c4, if_neg c5, if_neg c6]
 rw [hr]
 have hsz := str_size (c :: r)
 have hp : 0 < (str (c :: r)).size := by rw [hsz]; simp
 have hg : (str (c :: r))[0]'hp = c := str_get (l := c :: r) (by simp) hp
 have hx : (str (c :: r)).extract 1 (str (c :: r)).size = str r := by rw [str_extract, str_size]; simp
 have h63' : (str (c :: r)).size ≤ 9223372036854775807 := by rw [hsz]; omega
 by_cases h39 : c = 39
 · rw [if_pos h39]
   exact fits_q (c :: r) c r kind line col start stop text value w (by rw [str_is]; exact decide_eq_false c0) (by rw [str_is]; exact decide_eq_false c1) (by rw [str_is]; exact decide_eq_false c2) (by rw [str_is]; exact decide_eq_false c3) (by rw [str_is]; exact decide_eq_false c4) (by rw [str_is]; exact decide_eq_false c5) (by rw [str_is]; exact decide_eq_false c6) hp hg hx h63' (str_eq _ _) (by rw [h39]; rfl)
 · rw [if_neg h39]
   exact fits_x (c :: r) c r kind line col start stop text value w (by rw [str_is]; exact decide_eq_false c0) (by rw [str_is]; exact decide_eq_false c1) (by rw [str_is]; exact decide_eq_false c2) (by rw [str_is]; exact decide_eq_false c3) (by rw [str_is]; exact decide_eq_false c4) (by rw [str_is]; exact decide_eq_false c5) (by rw [str_is]; exact decide_eq_false c6) hp hg hx h63' (str_eq _ _) (by rw [beq_eq_false_iff_ne]; intro e; exact h39 (UInt8.toNat_inj.1 (show _ = 39 by omega)))
def allO (g : Txt → Option Bool) : List Txt → Option Bool
 | [] => some true
 | s :: r => match g s with
  | none => none
  | some true => allO g r
  | some false => some false
def anyO (g : List Txt → Option Bool) : List (List Txt) → Option Bool
 | [] => some false
 | c :: r => match g c with
  | none => none
  | some true => some true
  | some false => anyO g r
def nullF (R : List RuleD) : Nat → Txt → Option Bool
 | 0, _ => none
 | f + 1, s => if s = [] then none else if ruleF s = true then anyO (allO (nullF R f)) (choicesF R s) else some false
theorem all_step {g : Txt → Option Bool} {l : List Txt} {k : Nat} {x : Txt} {b : Bool} (h : allO g (l.drop k) = some b) (hk : l[k]? = some x) : ∃ a, g x = some a ∧ (a = true → allO g (l.drop (k + 1)) = some b) ∧ (a = false → b = false) := by
 obtain ⟨hk', rfl⟩ := List.getElem?_eq_some_iff.1 hk
 rw [List.drop_eq_getElem_cons hk', allO] at h
 cases hg : g l[k] with
 | none => rw [hg] at h; cases h
 | some a =>
  rw [hg] at h
  cases a with
  | true => exact ⟨true, rfl, fun _ => h, fun e => by cases e⟩
  | false => injection h with h; exact ⟨false, rfl, fun e => (by cases e), fun _ => h.symm⟩
theorem any_step {g : List Txt → Option Bool} {l : List (List Txt)} {k : Nat} {x : List Txt} {b : Bool} (h : anyO g (l.drop k) = some b) (hk : l[k]? = some x) : ∃ a, g x = some a ∧ (a = false → anyO g (l.drop (k + 1)) = some b) ∧ (a = true → b = true) := by
 obtain ⟨hk', rfl⟩ := List.getElem?_eq_some_iff.1 hk
 rw [List.drop_eq_getElem_cons hk', anyO] at h
 cases hg : g l[k] with
 | none => rw [hg] at h; cases h
 | some a =>
  rw [hg] at h
  cases a with
  | false => exact ⟨false, rfl, fun _ => h, fun e => by cases e⟩
  | true => injection h with h; exact ⟨true, rfl, fun e => (by cases e), fun _ => h.symm⟩
theorem ch_at {w : World} {S : Nat → Prop} {L : List (List Txt)} {A : Option Addr} {vs : List Value} {k : Nat} {l : List Txt} (h : ReadsL w S (chL L) vs) (hA : RdS w S A vs) (hk : L[k]? = some l) :
  ∃ ad Al cl us, A = some ad ∧ w.cell? (ad.add k) = some (.slice Al l.length cl) ∧ l.length ≤ cl ∧ cl ≤ maxLen ∧ ReadsL w S (strL l) us ∧ RdS w S Al us := by
 obtain ⟨v, hv, hr⟩ := h.at (chL_at hk)
 obtain ⟨Al, cl, us, rfl, h1, h2, h3, h4⟩ := reads_list hr
 obtain ⟨ad, rfl, _, hc⟩ := hA.at hv
 exact ⟨ad, Al, cl, us, rfl, hc, h1, h2, h3, h4⟩
set_option maxRecDepth 100000 in
set_option maxHeartbeats 4000000 in
theorem nullable_any (S : Nat → Prop) (R : List RuleD) (A : Option Addr) (n c : Nat) (w : World) (hR : Reads w S (.list R.length (rulesL R)) (.slice A n c)) :
  ∀ (f : Nat) (s : Txt) (b : Bool), nullF R f s = some b →
  Calls Tryz.prog 174 #[.slice A n c, .string (str s)] w fun e w' => e = .returned (.bool b) ∧ w' = w
 | 0, s, b, h => by cases h
 | f + 1, s, b, h => by
  have ih := nullable_any S R A n c w hR f
  rw [nullF] at h
  by_cases hs : s = []
  · rw [if_pos hs] at h; cases h
  rw [if_neg hs] at h
  have hs0 : 0 < s.length := List.length_pos_iff.2 hs
  cases hru : ruleF s with
  | false =>
   rw [hru, if_neg (by decide)] at h
   injection h with h
   subst h
   have HRU := hide hru
   clear hru
   go_enter Tryz.func174, Tryz.ntmps174
   go_wp2_with fail
   refine (rule_any s _ hs0).mono ?_
   rintro e w' ⟨rfl, rfl⟩
   rw [HRU.out]
   go_wp2_with fail
   go_ret
   exact ⟨rfl, rfl⟩
  | true =>
   rw [hru, if_pos rfl] at h
   have HRU := hide hru
   have HH := hide h
   have IH := hide ih
   clear hru h ih hs
   go_enter Tryz.func174, Tryz.ntmps174
   go_wp2_with fail
   refine (rule_any s _ hs0).mono ?_
   rintro e w' ⟨rfl, rfl⟩
   rw [HRU.out]
   go_wp2_with fail
   refine (choices_any S R A n c s _ hR).mono ?_
   rintro e w' ⟨v, rfl, rfl, hv⟩
   obtain ⟨Ac, cc, vs, rfl, hmc, hcm, hcl, hcd⟩ := reads_list hv
   obtain ⟨L, hL⟩ : ∃ L, choicesF R s = L := ⟨_, rfl⟩
   have h' := HH.out
   rw [hL] at h' hcl hmc
   rw [hL]
   obtain ⟨m, hm⟩ : ∃ m, L.length = m := ⟨_, rfl⟩
   rw [hm] at hmc
   rw [hm]
   have hm63 : m ≤ 9223372036854775807 := by simp only [maxLen] at hcm; omega
   have HM := hide hm
   have HH := hide h'
   clear h' hm hL hv
   go_wp2_with fail
   go_loop [6] (fun i => ∃ k : Nat, k ≤ m ∧ i = .int .i64 k ∧ Hid (anyO (allO (nullF R f)) (L.drop k) = some b)) (fun i => m - (intOf i).toNat)
   case atStart => exact ⟨0, Nat.zero_le _, rfl, HH.out⟩
   case round =>
    obtain ⟨k, hk, rfl, hany⟩ := hrel
    by_cases hlt : k < m
    · have hkI : (k : Int) < (m : Int) := by omega
      obtain ⟨l, hl⟩ : ∃ l, L[k]? = some l := ⟨_, List.getElem?_eq_getElem (by rw [HM.out]; exact hlt)⟩
      obtain ⟨ad, Al, cl, us, rfl, hc0, hlc, hclm, hul, hud⟩ := ch_at hcl hcd hl
      obtain ⟨a, ha, hstep, hend⟩ := any_step hany.out hl
      obtain ⟨p, hp⟩ : ∃ p, l.length = p := ⟨_, rfl⟩
      rw [hp] at hc0 hlc
      have hp63 : p ≤ 9223372036854775807 := by simp only [maxLen] at hclm; omega
      have HP := hide hp
      have HA := hide ha
      have HST := hide hstep
      have HEN := hide hend
      clear hl hp ha hstep hend hany
      go_wp2_with fail
      go_loop [7, 8] (fun q j => ∃ (t : Nat) (x : Bool), t ≤ p ∧ j = .int .i64 t ∧ q = .bool x ∧ Hid (if x = true then allO (nullF R f) (l.drop t) = some a else a = false)) (fun _ j => p - (intOf j).toNat)
      case atStart => exact ⟨0, true, Nat.zero_le _, rfl, rfl, HA.out⟩
      case round =>
       obtain ⟨t, x, ht, rfl, rfl, hx⟩ := hrel
       by_cases hlt2 : t < p
       · have htI : (t : Int) < (p : Int) := by omega
         cases x with
         | false =>
          go_wp2_with fail
          go_round
          case rel => exact ⟨t + 1, false, by omega, by go_num, rfl, hx⟩
          case measure => simp [intOf]; omega
         | true =>
          obtain ⟨y, hy⟩ : ∃ y, l[t]? = some y := ⟨_, List.getElem?_eq_getElem (by rw [HP.out]; exact hlt2)⟩
          obtain ⟨adl, rfl, hcs⟩ := str_at hul hud hy
          have hx' : allO (nullF R f) (l.drop t) = some a := hx.out
          obtain ⟨z, hz, hz1, hz2⟩ := all_step hx' hy
          have hcall := IH.out y z hz
          have HZ := hide (show if z = true then allO (nullF R f) (l.drop (t + 1)) = some a else a = false by cases z with | true => exact hz1 rfl | false => exact hz2 rfl)
          clear hy hz hz1 hz2 hx'
          go_wp2_with fail
          refine hcall.mono ?_
          rintro e w' ⟨rfl, rfl⟩
          clear hcall
          go_wp2_with fail
          go_round
          case rel => exact ⟨t + 1, z, by omega, by go_num, rfl, HZ⟩
          case measure => simp [intOf]; omega
       · obtain rfl : t = p := by omega
         have hxa : x = a := by
          have h1 := hx.out
          cases x with
          | true => rw [if_pos rfl, List.drop_of_length_le (by rw [HP.out]; exact Nat.le_refl _), allO] at h1; injection h1
          | false => rw [if_neg (by decide)] at h1; exact h1.symm
         subst hxa
         cases x with
         | true =>
          have hbt := HEN.out rfl
          subst hbt
          go_wp2_with fail
          go_ret
          exact ⟨rfl, rfl⟩
         | false =>
          have hst := HST.out rfl
          have HS2 := hide hst
          clear hst
          go_wp2_with fail
          go_round
          case rel => exact ⟨k + 1, by omega, by go_num, HS2⟩
          case measure => simp [intOf]; omega
    · obtain rfl : k = m := by omega
      have hbf : b = false := by
       have h1 := hany.out
       rw [List.drop_of_length_le (by rw [HM.out]; exact Nat.le_refl _), anyO] at h1
       injection h1 with h1
       exact h1.symm
      subst hbf
      go_wp2_with fail
      go_ret
      exact ⟨rfl, rfl⟩
def begSyms (g : List Txt → Option Bool) (nu : Txt → Option Bool) (R : List RuleD) (t : TokD) : List Txt → Option Bool
 | [] => some false
 | s :: r =>
  if s = [] ∨ 1000 < s.length then none
  else if ruleF s = true then
   match anyO g (choicesF R s) with
   | none => none
   | some true => some true
   | some false => match nu s with
    | none => none
    | some true => begSyms g nu R t r
    | some false => some false
  else some (fitsF s t)
def begF (R : List RuleD) (nf : Nat) (t : TokD) : Nat → List Txt → Option Bool
 | 0, _ => none
 | f + 1, l => begSyms (begF R nf t f) (nullF R nf) R t l
theorem beg_step {g : List Txt → Option Bool} {nu : Txt → Option Bool} {R : List RuleD} {t : TokD} {l : List Txt} {k : Nat} {s : Txt} {b : Bool} (h : begSyms g nu R t (l.drop k) = some b) (hk : l[k]? = some s) :
  0 < s.length ∧ s.length ≤ 1000 ∧ (ruleF s = false → b = fitsF s t) ∧
   (ruleF s = true → ∃ a, anyO g (choicesF R s) = some a ∧ (a = true → b = true) ∧ (a = false → ∃ z, nu s = some z ∧ (z = true → begSyms g nu R t (l.drop (k + 1)) = some b) ∧ (z = false → b = false))) := by
 obtain ⟨hk', rfl⟩ := List.getElem?_eq_some_iff.1 hk
 rw [List.drop_eq_getElem_cons hk', begSyms] at h
 by_cases h0 : l[k] = [] ∨ 1000 < l[k].length
 · rw [if_pos h0] at h; cases h
 rw [if_neg h0] at h
 refine ⟨List.length_pos_iff.2 (fun e => h0 (.inl e)), by omega, fun hr => ?_, fun hr => ?_⟩
 · rw [hr, if_neg (by decide)] at h; injection h with h; exact h.symm
 · rw [hr, if_pos rfl] at h
   cases ha : anyO g (choicesF R l[k]) with
   | none => rw [ha] at h; cases h
   | some a =>
    rw [ha] at h
    cases a with
    | true => injection h with h; exact ⟨true, rfl, fun _ => h.symm, fun e => by cases e⟩
    | false =>
     refine ⟨false, rfl, fun e => (by cases e), fun _ => ?_⟩
     cases hz : nu l[k] with
     | none => rw [hz] at h; cases h
     | some z =>
      rw [hz] at h
      cases z with
      | true => exact ⟨true, rfl, fun _ => h, fun e => by cases e⟩
      | false => injection h with h; exact ⟨false, rfl, fun e => (by cases e), fun _ => h.symm⟩
def TokAt (w : World) (g : Nat) (t : TokD) : Prop := w.heap[g]? = some (.cells #[.int .i64 t.kind, .int .i64 t.line, .int .i64 t.col, .int .i64 t.start, .int .i64 t.stop, .string (str t.text), .string (str t.value)] 148 (0, 0))
theorem TokAt.lt {w : World} {g : Nat} {t : TokD} (h : TokAt w g t) : g < w.heap.size := (Array.getElem?_eq_some_iff.1 h).1
theorem TokAt.below {w w' : World} {g : Nat} {t : TokD} (h : TokAt w g t) (hb : Below w.heap.size w w') : TokAt w' g t := (hb.block g h.lt).trans h
theorem TokAt.cell {w : World} {g : Nat} {t : TokD} (h : TokAt w g t) (i : Nat) : w.cell? ⟨g, i, none⟩ = (#[.int .i64 t.kind, .int .i64 t.line, .int .i64 t.col, .int .i64 t.start, .int .i64 t.stop, .string (str t.text), .string (str t.value)] : Array Value)[i]? := cell_of_row w g i _ _ (0, 0) h
set_option maxRecDepth 100000 in
set_option maxHeartbeats 8000000 in
theorem begins_any (B : Nat) (R : List RuleD) (A : Option Addr) (n c : Nat) (t : TokD) (nf : Nat) :
  ∀ (f : Nat) (l : List Txt) (b : Bool) (As : Option Addr) (m cs : Nat) (w : World), Reads w (Lo B) (.list R.length (rulesL R)) (.slice A n c) → Reads w (Lo B) (.list l.length (strL l)) (.slice As m cs) → B ≤ w.heap.size → begF R nf t f l = some b →
  Calls Tryz.prog 173 #[.slice A n c, .slice As m cs, tokV t] w fun e w' => e = .returned (.bool b) ∧ Below w.heap.size w w'
 | 0, l, b, As, m, cs, w, _, _, _, h => by cases h
 | f + 1, l, b, As, m, cs, w, hR, hl, hB, h => by
  have IH := hide (begins_any B R A n c t nf f)
  rw [begF] at h
  have HH := hide h
  clear h
  obtain ⟨A', c', us, he, hnl, hcl, hul, hud⟩ := reads_list hl
  injection he with e1 e2 e3
  subst e1 e2 e3
  obtain ⟨m, hm⟩ : ∃ m, l.length = m := ⟨_, rfl⟩
  have HM := hide hm
  rw [hm] at hnl ⊢
  have hm63 : m ≤ 9223372036854775807 := by simp only [maxLen] at hcl; omega
  clear hm hl
  obtain ⟨kind, line, col, start, stop, text, value⟩ := t
  go_enter Tryz.func173, Tryz.ntmps173
  go_wp2_with fail
  have hblk : TokAt (w.alloc (.cells #[.int .i64 kind, .int .i64 line, .int .i64 col, .int .i64 start, .int .i64 stop, .string (str text), .string (str value)] 148)) w.heap.size ⟨kind, line, col, start, stop, text, value⟩ := heap_alloc_new w _
  have hb01 : Below w.heap.size w (w.alloc (.cells #[.int .i64 kind, .int .i64 line, .int .i64 col, .int .i64 start, .int .i64 stop, .string (str text), .string (str value)] 148)) := (Below.refl _ _).alloc (Nat.le_refl _) _
  obtain ⟨g, hg⟩ : ∃ g, w.heap.size = g := ⟨_, rfl⟩
  have keepR : ∀ w', Below w.heap.size w w' → Reads w' (Lo B) (.list R.length (rulesL R)) (.slice A n c) := fun w' hb => Reads.keep (fun _ h => h) (fun p hp => hb.cell (Nat.lt_of_lt_of_le hp hB)) _ _ hR
  have keepS : ∀ w', Below w.heap.size w w' → ReadsL w' (Lo B) (strL l) us ∧ RdS w' (Lo B) As us := fun w' hb => ⟨ReadsL.keep (fun _ h => h) (fun p hp => hb.cell (Nat.lt_of_lt_of_le hp hB)) _ _ hul, hud.keep (fun _ h => h) (fun p hp => hb.cell (Nat.lt_of_lt_of_le hp hB))⟩
  have KR := hide keepR
  have KS := hide keepS
  generalize w.alloc (.cells #[.int .i64 kind, .int .i64 line, .int .i64 col, .int .i64 start, .int .i64 stop, .string (str text), .string (str value)] 148) = w1 at hblk hb01 ⊢
  rw [hg] at hblk ⊢
  clear keepR keepS hul hud hR
  go_loopw [7] (fun i wr => ∃ k : Nat, k ≤ m ∧ i = .int .i64 k ∧ Hid (begSyms (begF R nf ⟨kind, line, col, start, stop, text, value⟩ f) (nullF R nf) R ⟨kind, line, col, start, stop, text, value⟩ (l.drop k) = some b) ∧ TokAt wr g ⟨kind, line, col, start, stop, text, value⟩ ∧ Below w.heap.size w wr) (fun i _ => m - (intOf i).toNat)
  case atStart => exact ⟨0, Nat.zero_le _, rfl, HH.out, hblk, hb01⟩
  case round =>
   clear hblk hb01
   obtain ⟨k, hk, rfl, hbeg, hblk, hb⟩ := hrel
   by_cases hlt : k < m
   · have hkI : (k : Int) < (m : Int) := by omega
     obtain ⟨s, hs⟩ : ∃ s, l[k]? = some s := ⟨_, List.getElem?_eq_getElem (by rw [HM.out]; exact hlt)⟩
     obtain ⟨hs0, hs1, hsf, hsr⟩ := beg_step hbeg.out hs
     obtain ⟨hul, hud⟩ := KS.out _ hb
     obtain ⟨ads, rfl, hcs⟩ := str_at hul hud hs
     have HS := hide hs
     clear hs hul hud
     cases hru : ruleF s with
     | false =>
      have hbf := hsf hru
      subst hbf
      have HRU := hide hru
      clear hru hsr hsf
      go_wp2_with fail
      refine (rule_any s _ hs0).mono ?_
      rintro e wr ⟨rfl, rfl⟩
      rw [HRU.out]
      go_wp2_with fail
      have t0 := hblk.cell 0
      have t1 := hblk.cell 1
      have t2 := hblk.cell 2
      have t3 := hblk.cell 3
      have t4 := hblk.cell 4
      have t5 := hblk.cell 5
      have t6 := hblk.cell 6
      have hbd : Below w.heap.size w wr.drew := below_drewN hb 1
      have hs63 : s.length ≤ 1099511627776 := by omega
      go_region_with (go_at_call 141
                      refine (fits_any s ⟨kind, line, col, start, stop, text, value⟩ wr.drew hs0 hs63).mono ?_
                      rintro e w9 ⟨rfl, hb9⟩)
      all_goals (go_wp2_with fail; go_ret; exact ⟨rfl, hbd.trans (hb9.mono hbd.size)⟩)
     | true =>
      obtain ⟨a, ha, haT, haF⟩ := hsr hru
      have HRU := hide hru
      have HAT := hide haT
      have HAF := hide haF
      clear hru hsr hsf haT haF
      go_wp2_with fail
      refine (rule_any s _ hs0).mono ?_
      rintro e wr ⟨rfl, rfl⟩
      rw [HRU.out]
      go_wp2_with fail
      refine (choices_any (Lo B) R A n c s _ (KR.out _ hb)).mono ?_
      rintro e wr ⟨v, rfl, rfl, hv⟩
      obtain ⟨Ac, cc, vs, rfl, hmc, hcm, hcl', hcd⟩ := reads_list hv
      obtain ⟨L, hL⟩ : ∃ L, choicesF R s = L := ⟨_, rfl⟩
      rw [hL] at ha hcl' hmc
      rw [hL]
      obtain ⟨q, hq⟩ : ∃ q, L.length = q := ⟨_, rfl⟩
      rw [hq] at hmc
      rw [hq]
      have hq63 : q ≤ 9223372036854775807 := by simp only [maxLen] at hcm; omega
      have HQ := hide hq
      have HA := hide ha
      have KC : Hid (∀ w', Below wr.heap.size wr w' → ReadsL w' (Lo B) (chL L) vs ∧ RdS w' (Lo B) Ac vs) := fun w' hb' =>
       ⟨ReadsL.keep (fun _ h => h) (fun p hp => hb'.cell (Nat.lt_of_lt_of_le hp (Nat.le_trans hB hb.size))) _ _ hcl', hcd.keep (fun _ h => h) (fun p hp => hb'.cell (Nat.lt_of_lt_of_le hp (Nat.le_trans hB hb.size)))⟩
      clear ha hq hL hv hcl' hcd
      go_wp2_with fail
      obtain ⟨wo, hwo⟩ : ∃ wo : World, wo = wr := ⟨_, rfl⟩
      rw [← hwo] at hblk hb hcs KC ⊢
      clear hwo wr
      go_loopw [9] (fun i wr => ∃ j : Nat, j ≤ q ∧ i = .int .i64 j ∧ Hid (anyO (begF R nf ⟨kind, line, col, start, stop, text, value⟩ f) (L.drop j) = some a) ∧ TokAt wr g ⟨kind, line, col, start, stop, text, value⟩ ∧ Below wo.heap.size wo wr) (fun i _ => q - (intOf i).toNat)
      case atStart => exact ⟨0, Nat.zero_le _, rfl, HA.out, hblk, Below.refl _ _⟩
      case round =>
       obtain ⟨j, hj, rfl, hany, hblk', hb'⟩ := hrel
       have hB' := hb.trans (hb'.mono hb.size)
       by_cases hlt2 : j < q
       · have hjI : (j : Int) < (q : Int) := by omega
         obtain ⟨x, hx⟩ : ∃ x, L[j]? = some x := ⟨_, List.getElem?_eq_getElem (by rw [HQ.out]; exact hlt2)⟩
         obtain ⟨y, hy, hyF, hyT⟩ := any_step hany.out hx
         obtain ⟨hcl2, hcd2⟩ := KC.out _ hb'
         obtain ⟨ad, Al, cl, us2, rfl, hc0, hlc, hclm, hul2, hud2⟩ := ch_at hcl2 hcd2 hx
         have hlr : Reads wr.drew (Lo B) (.list x.length (strL x)) (.slice Al x.length cl) := list_reads hlc hclm (ReadsL.keep (w := wr) (w' := wr.drew) (S := Lo B) (S' := Lo B) (fun _ h => h) (fun _ _ => rfl) _ _ hul2) (RdS.keep (w := wr) (w' := wr.drew) (S := Lo B) (S' := Lo B) hud2 (fun _ h => h) (fun _ _ => rfl))
         have hRr : Reads wr.drew (Lo B) (.list R.length (rulesL R)) (.slice A n c) := KR.out _ (below_drewN hB' 1)
         have hbd : Below wo.heap.size wo wr.drew := below_drewN hb' 1
         have hblkd : TokAt wr.drew g ⟨kind, line, col, start, stop, text, value⟩ := hblk'
         have hBd : B ≤ wr.drew.heap.size := Nat.le_trans hB hB'.size
         have HY := hide hy
         have HYF := hide hyF
         have HYT := hide hyT
         obtain ⟨p, hp⟩ : ∃ p, x.length = p := ⟨_, rfl⟩
         have hcall := IH.out x y Al x.length cl wr.drew hRr hlr hBd HY.out
         rw [hp] at hc0 hcall
         have t0 := hblk'.cell 0
         have t1 := hblk'.cell 1
         have t2 := hblk'.cell 2
         have t3 := hblk'.cell 3
         have t4 := hblk'.cell 4
         have t5 := hblk'.cell 5
         have t6 := hblk'.cell 6
         clear hx hy hyF hyT hcl2 hcd2 hul2 hud2 hlr hRr hp
         go_wp2_with fail
         go_region_with (go_at_call 173
                         refine hcall.mono ?_
                         rintro e w9 ⟨rfl, hb9⟩)
         all_goals
          clear hcall
          have hb39 := hbd.trans (hb9.mono hbd.size)
          have hblk9 := hblkd.below hb9
          cases y with
          | true =>
           have h1 := HAT.out (HYT.out rfl)
           subst h1
           go_wp2_with fail
           go_ret
           exact ⟨rfl, by first | exact hb.trans (hb39.mono hb.size) | (rw [← hg]; exact hb.trans (hb39.mono hb.size))⟩
          | false =>
           have h1 := HYF.out rfl
           have H1 := hide h1
           clear h1
           go_wp2_with fail
           go_roundw
           case rel => exact ⟨j + 1, by omega, by go_num, H1, hblk9, hb39⟩
           case measure => simp [intOf]; omega
       · obtain rfl : j = q := by omega
         have haf : a = false := by
          have h1 := hany.out
          rw [List.drop_of_length_le (by rw [HQ.out]; exact Nat.le_refl _), anyO] at h1
          injection h1 with h1
          exact h1.symm
         obtain ⟨z, hz, hzT, hzF⟩ := HAF.out haf
         have hcs' := (hb'.cell (p := ads.add k) (World.block_lt_of_cell? _ _ hcs)).trans hcs
         have hnull := nullable_any (Lo B) R A n c _ (KR.out _ hB') nf s z hz
         have HZT := hide hzT
         have HZF := hide hzF
         clear hz hzT hzF
         go_wp2_with fail
         refine hnull.mono ?_
         rintro e wr ⟨rfl, rfl⟩
         clear hnull
         cases z with
         | true =>
          have H1 := hide (HZT.out rfl)
          go_wp2_with fail
          go_roundw
          case rel => exact ⟨k + 1, by omega, by go_num, H1, hblk', hB'⟩
          case measure => simp [intOf]; omega
         | false =>
          have h1 := HZF.out rfl
          subst h1
          go_wp2_with fail
          go_ret
          exact ⟨rfl, hB'⟩
   · obtain rfl : k = m := by omega
     have hbf : b = false := by
      have h1 := hbeg.out
      rw [List.drop_of_length_le (by rw [HM.out]; exact Nat.le_refl _), begSyms] at h1
      injection h1 with h1
      exact h1.symm
     subst hbf
     go_wp2_with fail
     go_ret
     exact ⟨rfl, hb⟩
def choF (g : List Txt → Option Bool) : List (List Txt) → Option (Option (List Txt))
 | [] => some none
 | c :: r => match g c with
  | none => none
  | some true => some (some c)
  | some false => choF g r
theorem cho_step {g : List Txt → Option Bool} {l : List (List Txt)} {k : Nat} {x : List Txt} {o : Option (List Txt)} (h : choF g (l.drop k) = some o) (hk : l[k]? = some x) : ∃ a, g x = some a ∧ (a = false → choF g (l.drop (k + 1)) = some o) ∧ (a = true → o = some x) := by
 obtain ⟨hk', rfl⟩ := List.getElem?_eq_some_iff.1 hk
 rw [List.drop_eq_getElem_cons hk', choF] at h
 cases hg : g l[k] with
 | none => rw [hg] at h; cases h
 | some a =>
  rw [hg] at h
  cases a with
  | false => exact ⟨false, rfl, fun _ => h, fun e => by cases e⟩
  | true => injection h with h; exact ⟨true, rfl, fun e => (by cases e), fun _ => h.symm⟩
def chosenF (R : List RuleD) (nf bf : Nat) (t : TokD) (s : Txt) : Option (List Txt × Bool) :=
 match choF (begF R nf t bf) (choicesF R s) with
 | none => none
 | some (some c) => some (c, true)
 | some none => match nullF R nf s with
  | none => none
  | some z => some ([], z)
set_option maxRecDepth 100000 in
set_option maxHeartbeats 8000000 in
theorem chosen_any (B : Nat) (R : List RuleD) (A : Option Addr) (n c : Nat) (t : TokD) (nf bf : Nat) (s : Txt) (p : List Txt × Bool) (w : World) (hR : Reads w (Lo B) (.list R.length (rulesL R)) (.slice A n c)) (hB : B ≤ w.heap.size) (h : chosenF R nf bf t s = some p) :
  Calls Tryz.prog 140 #[.slice A n c, .string (str s), tokV t] w fun e w' => ∃ v, e = .returned (.tuple #[v, .bool p.2]) ∧ Reads w' (Lo B) (.list p.1.length (strL p.1)) v ∧ Below w.heap.size w w' := by
 unfold chosenF at h
 obtain ⟨o, ho⟩ : ∃ o, choF (begF R nf t bf) (choicesF R s) = some o := by
  cases ho : choF (begF R nf t bf) (choicesF R s) with
  | none => rw [ho] at h; cases h
  | some o => exact ⟨o, rfl⟩
 rw [ho] at h
 have HO := hide ho
 have HH := hide h
 clear ho h
 obtain ⟨kind, line, col, start, stop, text, value⟩ := t
 go_enter Tryz.func140, Tryz.ntmps140
 go_wp2_with fail
 have hblk : TokAt (w.alloc (.cells #[.int .i64 kind, .int .i64 line, .int .i64 col, .int .i64 start, .int .i64 stop, .string (str text), .string (str value)] 148)) w.heap.size ⟨kind, line, col, start, stop, text, value⟩ := heap_alloc_new w _
 have hb01 : Below w.heap.size w (w.alloc (.cells #[.int .i64 kind, .int .i64 line, .int .i64 col, .int .i64 start, .int .i64 stop, .string (str text), .string (str value)] 148)) := (Below.refl _ _).alloc (Nat.le_refl _) _
 obtain ⟨g, hg⟩ : ∃ g, w.heap.size = g := ⟨_, rfl⟩
 have keepR : ∀ w', Below w.heap.size w w' → Reads w' (Lo B) (.list R.length (rulesL R)) (.slice A n c) := fun w' hb => Reads.keep (fun _ h => h) (fun p hp => hb.cell (Nat.lt_of_lt_of_le hp hB)) _ _ hR
 have KR := hide keepR
 generalize w.alloc (.cells #[.int .i64 kind, .int .i64 line, .int .i64 col, .int .i64 start, .int .i64 stop, .string (str text), .string (str value)] 148) = w1 at hblk hb01 ⊢
 rw [hg] at hblk ⊢
 clear keepR hR
 refine (choices_any (Lo B) R A n c s _ (KR.out _ hb01)).mono ?_
 rintro e w1 ⟨v, rfl, rfl, hv⟩
 obtain ⟨Ac, cc, vs, rfl, hmc, hcm, hcl', hcd⟩ := reads_list hv
 obtain ⟨L, hL⟩ : ∃ L, choicesF R s = L := ⟨_, rfl⟩
 have ho := HO.out
 rw [hL] at hcl' hmc ho
 rw [hL]
 obtain ⟨q, hq⟩ : ∃ q, L.length = q := ⟨_, rfl⟩
 rw [hq] at hmc
 rw [hq]
 have hq63 : q ≤ 9223372036854775807 := by simp only [maxLen] at hcm; omega
 have HQ := hide hq
 have HA := hide ho
 have KC : Hid (∀ w', Below w.heap.size w1 w' → ReadsL w' (Lo B) (chL L) vs ∧ RdS w' (Lo B) Ac vs) := fun w' hb' =>
  ⟨ReadsL.keep (fun _ h => h) (fun p hp => hb'.cell (Nat.lt_of_lt_of_le hp hB)) _ _ hcl', hcd.keep (fun _ h => h) (fun p hp => hb'.cell (Nat.lt_of_lt_of_le hp hB))⟩
 clear ho hq hL hv hcl' hcd HO
 go_wp2_with fail
 go_loopw [9] (fun i wr => ∃ j : Nat, j ≤ q ∧ i = .int .i64 j ∧ Hid (choF (begF R nf ⟨kind, line, col, start, stop, text, value⟩ bf) (L.drop j) = some o) ∧ TokAt wr g ⟨kind, line, col, start, stop, text, value⟩ ∧ Below w1.heap.size w1 wr) (fun i _ => q - (intOf i).toNat)
 case atStart => exact ⟨0, Nat.zero_le _, rfl, HA.out, hblk, Below.refl _ _⟩
 case round =>
  clear hblk
  obtain ⟨j, hj, rfl, hany, hblk', hb'⟩ := hrel
  have hB' := hb01.trans (hb'.mono hb01.size)
  have hbw := hb'.mono hb01.size
  by_cases hlt2 : j < q
  · have hjI : (j : Int) < (q : Int) := by omega
    obtain ⟨x, hx⟩ : ∃ x, L[j]? = some x := ⟨_, List.getElem?_eq_getElem (by rw [HQ.out]; exact hlt2)⟩
    obtain ⟨y, hy, hyF, hyT⟩ := cho_step hany.out hx
    obtain ⟨hcl2, hcd2⟩ := KC.out _ hbw
    obtain ⟨ad, Al, cl, us2, rfl, hc0, hlc, hclm, hul2, hud2⟩ := ch_at hcl2 hcd2 hx
    have hlw : Reads wr (Lo B) (.list x.length (strL x)) (.slice Al x.length cl) := list_reads hlc hclm hul2 hud2
    have hlr : Reads wr.drew (Lo B) (.list x.length (strL x)) (.slice Al x.length cl) := Reads.keep (w := wr) (w' := wr.drew) (S := Lo B) (S' := Lo B) (fun _ h => h) (fun _ _ => rfl) _ _ hlw
    have hRr : Reads wr.drew (Lo B) (.list R.length (rulesL R)) (.slice A n c) := KR.out _ (below_drewN hB' 1)
    have hbd : Below w1.heap.size w1 wr.drew := below_drewN hb' 1
    have hblkd : TokAt wr.drew g ⟨kind, line, col, start, stop, text, value⟩ := hblk'
    have hBd : B ≤ wr.drew.heap.size := Nat.le_trans hB hB'.size
    have hadd : (ad.add j).block < wr.drew.heap.size := World.block_lt_of_cell? _ _ hc0
    have HY := hide hy
    have HYF := hide hyF
    have HYT := hide hyT
    obtain ⟨p', hp⟩ : ∃ p, x.length = p := ⟨_, rfl⟩
    have hcall := begins_any B R A n c ⟨kind, line, col, start, stop, text, value⟩ nf bf x y Al x.length cl wr.drew hRr hlr hBd HY.out
    have HLW := hide hlr
    have HP := hide hp
    rw [hp] at hc0 hcall
    have t0 := hblk'.cell 0
    have t1 := hblk'.cell 1
    have t2 := hblk'.cell 2
    have t3 := hblk'.cell 3
    have t4 := hblk'.cell 4
    have t5 := hblk'.cell 5
    have t6 := hblk'.cell 6
    clear hx hy hyF hyT hcl2 hcd2 hul2 hud2 hlr hRr hp hlw
    go_wp2_with fail
    go_region_with (go_at_call 173
                    refine hcall.mono ?_
                    rintro e w9 ⟨rfl, hb9⟩)
    all_goals
     clear hcall
     have hb39 := hbd.trans (hb9.mono hbd.size)
     have hblk9 := hblkd.below hb9
     have hc9 := (hb9.cell (p := ad.add j) hadd).trans hc0
     cases y with
     | true =>
      have h1 := HYT.out rfl
      have h2 := HH.out
      rw [h1] at h2
      injection h2 with h2
      have h3 : Reads w9 (Lo B) (.list x.length (strL x)) (.slice Al x.length cl) := Reads.keep (fun _ h => h) (fun p hp => hb9.cell (Nat.lt_of_lt_of_le hp hBd)) _ _ HLW.out
      have H3 := hide h3
      have H2 := hide h2
      clear h1 h2 h3 t0 t1 t2 t3 t4 t5 t6 hc0
      go_wp2_with fail
      go_ret2
      rw [← H2.out]
      have h4 := H3.out
      rw [HP.out] at h4
      exact ⟨_, rfl, by rw [HP.out]; exact h4, by first | exact hb01.trans (hb39.mono hb01.size) | (rw [← hg]; exact hb01.trans (hb39.mono hb01.size))⟩
     | false =>
      have h1 := HYF.out rfl
      have H1 := hide h1
      clear h1
      go_wp2_with fail
      go_roundw
      case rel => exact ⟨j + 1, by omega, by go_num, H1, hblk9, hb39⟩
      case measure => simp [intOf]; omega
  · obtain rfl : j = q := by omega
    have hon : o = none := by
     have h1 := hany.out
     rw [List.drop_of_length_le (by rw [HQ.out]; exact Nat.le_refl _), choF] at h1
     injection h1 with h1
     exact h1.symm
    have h2 := HH.out
    rw [hon] at h2
    dsimp only at h2
    cases hz : nullF R nf s with
    | none => rw [hz] at h2; cases h2
    | some z =>
     rw [hz] at h2
     injection h2 with h2
     have hnull := nullable_any (Lo B) R A n c _ (KR.out _ hB') nf s z hz
     have H2 := hide h2
     clear h2 hz
     go_wp2_with fail
     refine hnull.mono ?_
     rintro e wr ⟨rfl, rfl⟩
     clear hnull
     go_wp2_with fail
     go_ret2
     rw [← H2.out]
     exact ⟨_, rfl, nil_reads, by first | exact hB' | (rw [← hg]; exact hB')⟩
def tokL (t : TokD) : List Leaf := [.lit (.int .i64 t.kind), .lit (.int .i64 t.line), .lit (.int .i64 t.col), .lit (.int .i64 t.start), .lit (.int .i64 t.stop), .lit (.string (str t.text)), .lit (.string (str t.value))]
def toksL (l : List TokD) : List Leaf := l.flatMap tokL
def runF (R : List RuleD) (nf bf : Nat) (toks : List TokD) (depth : Int) : Nat → List Txt → Nat → Int → Option (Int × Int × Int)
 | 0, _, _, _ => none
 | _ + 1, [], _, _ => some (0, 0, 0)
 | f + 1, top :: rest, at_, op =>
  match toks[at_]? with
  | none => none
  | some t =>
   if top = [] ∨ 1000 < top.length then none
   else if ruleF top = true then
    match chosenF R nf bf t top with
    | none => none
    | some (c, true) => if 1000000000 < c.length + rest.length then none else runF R nf bf toks depth f (c ++ rest) at_ op
    | some (_, false) => some (70, t.line, t.col)
   else if fitsF top t = false then some (70, t.line, t.col)
   else if bracketF top = 1 ∧ depth ≤ op then some (71, t.line, t.col)
   else runF R nf bf toks depth f rest (if at_ + 1 < toks.length then at_ + 1 else at_) (op + bracketF top)
theorem res_two {w : World} {g : Nat} {a b : Value} {t : TypeId} (h : w.heap[g]? = some (.cells #[a, b] t (0, 0))) (x y : Value) :
  ((w.setCell ⟨g, 0, none⟩ x).setCell ⟨g, 1, none⟩ y).cell? ⟨g, 0, none⟩ = some x ∧ ((w.setCell ⟨g, 0, none⟩ x).setCell ⟨g, 1, none⟩ y).cell? ⟨g, 1, none⟩ = some y := by
 constructor <;> simp [World.setCell, World.cell?, Array.getElem?_modify, h]
theorem own_form {w : World} {B s n m c : Nat} {e : TypeId} {A : Option Addr} {xs : List Value} (h : w.ownsRow B e s (.slice A n c) m xs) (hm : 0 < m) : ∃ g, A = some ⟨g, 0, none⟩ ∧ B ≤ g ∧ g < w.heap.size ∧ n = m := by
 rcases h.2 with ⟨_, h0⟩ | ⟨g, cap, cur, he, h1, h2, _⟩
 · omega
 · injection he with e1 e2 e3
   exact ⟨g, e1, h1, (Array.getElem?_eq_some_iff.1 h2).1, e2⟩
theorem own_cut {w : World} {B n m c s : Nat} {e : TypeId} {A : Option Addr} {xs : List Value} (h : w.ownsRow B e s (.slice A n c) n xs) (hm : m ≤ n) : w.ownsRow B e s (.slice A m c) m (xs.take (m * s)) := by
 refine ⟨by rw [List.length_take, h.1]; exact Nat.min_eq_left (Nat.mul_le_mul_right _ hm), ?_⟩
 rcases h.2 with ⟨he, h0⟩ | ⟨g, cap, cur, he, h1, h2, h3, h4, h5, h6⟩
 · injection he with e1 e2 e3
   exact .inl ⟨by rw [e1, e3, show m = 0 by omega], by omega⟩
 · injection he with e1 e2 e3
   subst e1 e3
   refine .inr ⟨g, c, cur, rfl, h1, h2, by omega, h4, h5, ?_⟩
   rw [← h6, List.take_take, Nat.min_eq_left (Nat.mul_le_mul_right _ hm)]
theorem tok_at {w : World} {S : Nat → Prop} {l : List TokD} {A : Option Addr} {vs : List Value} {k : Nat} {t : TokD} (h : ReadsL w S (toksL l) vs) (hA : RdS w S A vs) (hk : l[k]? = some t) :
  ∃ ad, A = some ad ∧ S ad.block ∧ w.cell? (ad.add (k * 7)) = some (.int .i64 t.kind) ∧ w.cell? ⟨(ad.add (k * 7)).block, (ad.add (k * 7)).off + 1, none⟩ = some (.int .i64 t.line) ∧ w.cell? ⟨(ad.add (k * 7)).block, (ad.add (k * 7)).off + 2, none⟩ = some (.int .i64 t.col) ∧
   w.cell? ⟨(ad.add (k * 7)).block, (ad.add (k * 7)).off + 3, none⟩ = some (.int .i64 t.start) ∧ w.cell? ⟨(ad.add (k * 7)).block, (ad.add (k * 7)).off + 4, none⟩ = some (.int .i64 t.stop) ∧
   w.cell? ⟨(ad.add (k * 7)).block, (ad.add (k * 7)).off + 5, none⟩ = some (.string (str t.text)) ∧ w.cell? ⟨(ad.add (k * 7)).block, (ad.add (k * 7)).off + 6, none⟩ = some (.string (str t.value)) := by
 have key : ∀ (j : Nat) (u : Value), j < 7 → (tokL t)[j]? = some (.lit u) → ∃ ad, A = some ad ∧ S ad.block ∧ w.cell? (ad.add (k * 7 + j)) = some u := fun j u hj hu => by
  obtain ⟨v, hv, hr⟩ := h.at ((flat_at (k := 7) tokL (fun _ => rfl) l k j t hk hj).trans hu)
  have e := reads_lit hr
  subst e
  exact hA.at hv
 obtain ⟨ad, rfl, hS, c0⟩ := key 0 _ (by omega) rfl
 have k2 : ∀ (j : Nat) (u : Value), j + 1 < 7 → (tokL t)[j + 1]? = some (.lit u) → w.cell? ⟨(ad.add (k * 7)).block, (ad.add (k * 7)).off + (j + 1), none⟩ = some u := fun j u hj hu => by
  obtain ⟨ad', e, _, hc⟩ := key (j + 1) u hj hu
  injection e with e
  subst e
  exact cell_fld hc
 exact ⟨ad, rfl, hS, c0, k2 0 _ (by omega) rfl, k2 1 _ (by omega) rfl, k2 2 _ (by omega) rfl, k2 3 _ (by omega) rfl, k2 4 _ (by omega) rfl, k2 5 _ (by omega) rfl⟩
set_option maxRecDepth 100000 in
set_option maxHeartbeats 8000000 in
theorem Run_any (B : Nat) (R : List RuleD) (A At : Option Addr) (n c nt ct : Nat) (first : Txt) (toks : List TokD) (depth : Int) (nf bf f : Nat) (r : Int × Int × Int) (w : World) (hR : Reads w (Lo B) (.list R.length (rulesL R)) (.slice A n c))
  (hTk : Reads w (Lo B) (.list toks.length (toksL toks)) (.slice At nt ct)) (hB : B ≤ w.heap.size) (hd : depth ≤ 1000) (hd0 : 0 ≤ depth) (hf : f ≤ 1000000000) (h : runF R nf bf toks depth f [first] 0 0 = some r) :
  Calls Tryz.prog 96 #[.slice A n c, .string (str first), .slice At nt ct, .int .i64 depth] w fun e w' => e = .returned (.tuple #[.int .i64 r.1, .agg #[.int .i64 r.2.1, .int .i64 r.2.2]]) ∧ Below w.heap.size w w' := by
 obtain ⟨i0, hi0, hz0, hz1, hz2⟩ := info_parts str_info
 obtain ⟨A', c', us, he, hnl, hcl, hul, hud⟩ := reads_list hTk
 injection he with e1 e2 e3
 subst e1 e2 e3
 have hct63 : ct ≤ 9223372036854775807 := by simpa [maxLen] using hcl
 have HH := hide h
 have KR : Hid (∀ w', Below w.heap.size w w' → Reads w' (Lo B) (.list R.length (rulesL R)) (.slice A n c)) := fun w' hb => Reads.keep (fun _ h => h) (fun p hp => hb.cell (Nat.lt_of_lt_of_le hp hB)) _ _ hR
 have KT : Hid (∀ w', Below w.heap.size w w' → ReadsL w' (Lo B) (toksL toks) us ∧ RdS w' (Lo B) At us) := fun w' hb => ⟨ReadsL.keep (fun _ h => h) (fun p hp => hb.cell (Nat.lt_of_lt_of_le hp hB)) _ _ hul, hud.keep (fun _ h => h) (fun p hp => hb.cell (Nat.lt_of_lt_of_le hp hB))⟩
 obtain ⟨nt, hnt⟩ : ∃ m, toks.length = m := ⟨_, rfl⟩
 have HNT := hide hnt
 rw [hnt] at hnl ⊢
 clear h hul hud hR hTk hnt
 go_enter Tryz.func96, Tryz.ntmps96
 go_wp2_with fail
 have hbase : Below w.heap.size w ((w.alloc (.cells #[.int .i64 0, .int .i64 0] 41)).alloc (.cells #[.string (str first)] 9)) := ((Below.refl _ _).alloc (Nat.le_refl _) _).alloc (by simp) _
 have hres : ((w.alloc (.cells #[.int .i64 0, .int .i64 0] 41)).alloc (.cells #[.string (str first)] 9)).heap[w.heap.size]? = some (.cells #[.int .i64 0, .int .i64 0] 41 (0, 0)) := by
  rw [Below.heap_alloc _ _ _ (by simp)]
  exact heap_alloc_new w _
 have hst : ((w.alloc (.cells #[.int .i64 0, .int .i64 0] 41)).alloc (.cells #[.string (str first)] 9)).ownsRow w.heap.size 9 1 (.slice (some ⟨w.heap.size + 1, 0, none⟩) 1 1) 1 [.string (str first)] := by
  have := World.ownsRow_lit (base := w.heap.size) (e := 9) (size := 1) (w.alloc (.cells #[.int .i64 0, .int .i64 0] 41)) #[.string (str first)] 1 (by simp) (by simp only [maxLen]; omega) rfl
  simpa using this
 go_loopg [10, 11, 12] f (fun fu st op at_ wr => ∃ (k : Nat) (stk : List Txt) (o : Int), fu ≤ f ∧ at_ = .int .i64 k ∧ op = .int .i64 o ∧ Hid (runF R nf bf toks depth fu stk k o = some r) ∧ Hid (-((f : Int) - fu) ≤ o ∧ o ≤ (f : Int) - fu) ∧ Hid (stk.length ≤ 1000000001) ∧
  wr.ownsRow w.heap.size 9 1 st stk.length (stk.reverse.map fun x => Value.string (str x)) ∧ Hid (st.ownBlock ≠ some w.heap.size) ∧ Hid (wr.heap[w.heap.size]? = some (.cells #[.int .i64 0, .int .i64 0] 41 (0, 0))) ∧ Below w.heap.size w wr)
 case atStart => exact ⟨0, [first], 0, Nat.le_refl _, rfl, rfl, HH.out, ⟨by omega, by omega⟩, (by show 1 ≤ 1000000001; omega), hst, (by intro e; injection e with e; have e : w.heap.size + 1 = w.heap.size := e; omega), hres, hbase⟩
 case round =>
  clear hst hres hbase
  obtain ⟨k, stk, o, hfu, rfl, rfl, hrun, hor, hsl, hst, hne, hres, hb⟩ := hrel
  obtain ⟨As, cs, rfl, hlc, hcs⟩ := own_slice hst
  have hcs63 : cs ≤ 9223372036854775807 := by simpa [maxLen] using hcs
  cases gk with
  | zero => have h0 := hrun.out; rw [runF] at h0; cases h0
  | succ fu =>
   cases stk with
   | nil =>
    have hr0 := hrun.out
    rw [runF] at hr0
    injection hr0 with hr1
    have q0 : wr.cell? ⟨w.heap.size, 0, none⟩ = some (.int .i64 0) := cell_of_row wr w.heap.size 0 _ _ (0, 0) hres.out
    have q1 : wr.cell? ⟨w.heap.size, 1, none⟩ = some (.int .i64 0) := cell_of_row wr w.heap.size 1 _ _ (0, 0) hres.out
    have f0 := frozen_of_row wr w.heap.size 0 _ _ hres.out
    have f1 := frozen_of_row wr w.heap.size 1 _ _ hres.out
    go_wp2_with fail
    obtain ⟨z0, z1⟩ := res_two hres.out (.int .i64 0) (.int .i64 0)
    rw [← hr1]
    exact bodyPost_ret (v := .tuple #[.int .i64 0, .agg #[.int .i64 0, .int .i64 0]]) (by simp [results, Tryz.results96, go_sem, z0, z1]) rfl ⟨rfl, (hb.setCell (Nat.le_refl _) _).setCell (Nat.le_refl _) _⟩
   | cons top rest =>
    have hr0 := hrun.out
    rw [runF] at hr0
    obtain ⟨t, ht⟩ : ∃ t, toks[k]? = some t := by
     cases ht : toks[k]? with
     | none => rw [ht] at hr0; cases hr0
     | some t => exact ⟨t, rfl⟩
    rw [ht] at hr0
    dsimp only at hr0
    have hkn : k < nt := by rw [← HNT.out]; exact (List.getElem?_eq_some_iff.1 ht).1
    have hkI : (k : Int) < (nt : Int) := by omega
    obtain ⟨hul, hud⟩ := KT.out _ hb
    obtain ⟨ad, rfl, hadB, d0, d1, d2, d3, d4, d5, d6⟩ := tok_at hul hud ht
    obtain ⟨kind, line, col, start, stop, text, value⟩ := t
    dsimp only at d0 d1 d2 d3 d4 d5 d6
    by_cases hbad : top = [] ∨ 1000 < top.length
    · rw [if_pos hbad] at hr0; cases hr0
    rw [if_neg hbad] at hr0
    have ht0 : 0 < top.length := List.length_pos_iff.2 (fun e => hbad (.inl e))
    have ht1 : top.length ≤ 1000 := by omega
    obtain ⟨gs, rfl, hgs1, hgs2, _⟩ := own_form hst (by simp)
    have hc := hst.cellAt rest.length (by simp)
    rw [show ((top :: rest).reverse.map fun x => Value.string (str x))[rest.length]? = some (.string (str top)) by simp] at hc
    obtain ⟨q, hq⟩ : ∃ q, rest.length = q := ⟨_, rfl⟩
    have hst' := own_cut (m := rest.length) hst (by simp)
    rw [show ((top :: rest).reverse.map fun x => Value.string (str x)).take (rest.length * 1) = rest.reverse.map fun x => Value.string (str x) by simp] at hst'
    have hlen : (top :: rest).length = q + 1 := by simp [hq]
    rw [hlen]
    have HQ := hide hq
    rw [hq] at hc hst'
    have hqc : q ≤ cs := by rw [hlen] at hlc; omega
    clear hlc
    have HST := hide hst'
    have HR0 := hide hr0
    have HT := hide ht
    have HS := hide hst
    clear hst' hr0 ht hst hul hud hrun hlen hq
    go_wp2_with fail
    have hblk : TokAt (wr.alloc (.cells #[.int .i64 kind, .int .i64 line, .int .i64 col, .int .i64 start, .int .i64 stop, .string (str text), .string (str value)] 148)) wr.heap.size ⟨kind, line, col, start, stop, text, value⟩ := heap_alloc_new wr _
    have hb1 : Below wr.heap.size wr (wr.alloc (.cells #[.int .i64 kind, .int .i64 line, .int .i64 col, .int .i64 start, .int .i64 stop, .string (str text), .string (str value)] 148)) := (Below.refl _ _).alloc (Nat.le_refl _) _
    obtain ⟨g, hg⟩ : ∃ g, wr.heap.size = g := ⟨_, rfl⟩
    have hgw : w.heap.size ≤ g := by rw [← hg]; exact hb.size
    generalize wr.alloc (.cells #[.int .i64 kind, .int .i64 line, .int .i64 col, .int .i64 start, .int .i64 stop, .string (str text), .string (str value)] 148) = w1 at hblk hb1 ⊢
    have hB1 := hb.trans (hb1.mono hb.size)
    have hst1 := HST.out.kept (row := none) ⟨hb1.os, hb1.tape, hb1.output, hb1.size, fun i hi _ => hb1.block i hi⟩ (by simp [Value.ownBlock])
    have hres1 := (hb1.block w.heap.size (by rw [hg]; have := (Array.getElem?_eq_some_iff.1 hres.out).1; omega)).trans hres.out
    rw [hg] at hblk ⊢
    clear hc HST hgs2 hb hb1 hres HS d0 d1 d2 d3 d4 d5 d6 hadB hg
    refine (rule_any top _ ht0).mono ?_
    rintro e w1 ⟨rfl, rfl⟩
    have t0 := hblk.cell 0
    have t1 := hblk.cell 1
    have t2 := hblk.cell 2
    have t3 := hblk.cell 3
    have t4 := hblk.cell 4
    have t5 := hblk.cell 5
    have t6 := hblk.cell 6
    have hr0 := HR0.out
    cases hru : ruleF top with
    | true =>
     rw [hru, if_pos rfl] at hr0
     cases hch : chosenF R nf bf ⟨kind, line, col, start, stop, text, value⟩ top with
     | none => rw [hch] at hr0; cases hr0
     | some p =>
      obtain ⟨cc, b⟩ := p
      rw [hch] at hr0
      have hcall := chosen_any B R A n c ⟨kind, line, col, start, stop, text, value⟩ nf bf top (cc, b) w1 (KR.out _ hB1) (Nat.le_trans hB hB1.size) hch
      have HR1 := hide hr0
      clear hru hch hr0 HR0
      go_wp2_with fail
      refine hcall.mono ?_
      rintro e w2 ⟨v, rfl, hv, hb2⟩
      have hblk2 := hblk.below hb2
      have hst2 := hst1.kept (row := none) ⟨hb2.os, hb2.tape, hb2.output, hb2.size, fun i hi _ => hb2.block i hi⟩ (by simp [Value.ownBlock])
      have hres2 := (hb2.block w.heap.size ((Array.getElem?_eq_some_iff.1 hres1).1)).trans hres1
      have hB2 := hB1.trans (hb2.mono hB1.size)
      clear hcall t0 t1 t2 t3 t4 t5 t6 hblk hst1 hres1 hb2 hB1
      have t1 := hblk2.cell 1
      have t2 := hblk2.cell 2
      cases b with
      | false =>
       have hr1 := HR1.out
       dsimp only at hr1
       injection hr1 with hr1
       have q0 : w2.cell? ⟨w.heap.size, 0, none⟩ = some (.int .i64 0) := cell_of_row w2 w.heap.size 0 _ _ (0, 0) hres2
       have q1 : w2.cell? ⟨w.heap.size, 1, none⟩ = some (.int .i64 0) := cell_of_row w2 w.heap.size 1 _ _ (0, 0) hres2
       have f0 := frozen_of_row w2 w.heap.size 0 _ _ hres2
       have f1 := frozen_of_row w2 w.heap.size 1 _ _ hres2
       go_wp2_with fail
       go_region
       go_wp2_with fail
       obtain ⟨z0, z1⟩ := res_two hres2 (.int .i64 line) (.int .i64 col)
       rw [← hr1]
       exact bodyPost_ret (v := .tuple #[.int .i64 70, .agg #[.int .i64 line, .int .i64 col]]) (by simp [results, Tryz.results96, go_sem, z0, z1]) rfl ⟨rfl, below_drewN ((hB2.setCell (Nat.le_refl _) _).setCell (Nat.le_refl _) _) 1⟩
      | true =>
       have hr1 := HR1.out
       dsimp only at hr1
       by_cases hbig : 1000000000 < cc.length + rest.length
       · rw [if_pos hbig] at hr1; cases hr1
       rw [if_neg hbig] at hr1
       obtain ⟨Av, cv, vs, rfl, hvn, hvc, hvl, hvd⟩ := reads_list hv
       obtain ⟨p, hp⟩ : ∃ p, cc.length = p := ⟨_, rfl⟩
       have hpq : p + q ≤ 1000000000 := by rw [← hp, ← HQ.out]; omega
       have KV : Hid (∀ w', Below w.heap.size w w' → ReadsL w' (Lo B) (strL cc) vs ∧ RdS w' (Lo B) Av vs) := fun w' hb =>
        ⟨ReadsL.keep (w := w2) (w' := w') (S := Lo B) (S' := Lo B) (fun _ h => h) (fun p hp => (hb.cell (Nat.lt_of_lt_of_le hp hB)).trans (hB2.cell (Nat.lt_of_lt_of_le hp hB)).symm) _ _ hvl, RdS.keep (w := w2) (w' := w') (S := Lo B) (S' := Lo B) hvd (fun _ h => h) (fun p hp => (hb.cell (Nat.lt_of_lt_of_le hp hB)).trans (hB2.cell (Nat.lt_of_lt_of_le hp hB)).symm)⟩
       have hp63 : p ≤ 9223372036854775807 := by omega
       rw [hp] at hvn
       rw [hp]
       have HP := hide hp
       have HR2 := hide hr1
       clear hr1 HR1 hbig hvl hvd hv hp
       go_wp2_with fail
       obtain ⟨wq, hwq⟩ : ∃ wq : World, wq = wr := ⟨_, rfl⟩
       clear hwq
       go_loopw [10, 17] (fun st i wr => ∃ j : Nat, j ≤ p ∧ i = .int .i64 ((j : Int) - 1) ∧ wr.ownsRow w.heap.size 9 1 st (p - j + q) ((cc.drop j ++ rest).reverse.map fun x => Value.string (str x)) ∧ Hid (st.ownBlock ≠ some w.heap.size) ∧ Hid (wr.heap[w.heap.size]? = some (.cells #[.int .i64 0, .int .i64 0] 41 (0, 0))) ∧ Below w.heap.size w wr) (fun _ i _ => (intOf i + 1).toNat)
       case atStart =>
        refine ⟨p, Nat.le_refl _, rfl, ?_, hne, hres2, hB2⟩
        rw [List.drop_of_length_le (by rw [HP.out]; exact Nat.le_refl _), List.nil_append, Nat.sub_self, Nat.zero_add]
        exact hst2
       case round =>
        clear hst2 hres2 hB2 hblk2 t1 t2
        obtain ⟨j, hj, rfl, hst3, hne3, hres3, hb3⟩ := hrel
        obtain ⟨A3, c3, rfl, _, hc3⟩ := own_slice hst3
        cases j with
        | zero =>
         have hlen : (cc ++ rest).length ≤ 1000000001 := by rw [List.length_append, HP.out, HQ.out]; omega
         have hst4 : wr.ownsRow w.heap.size 9 1 (.slice A3 (p - 0 + q) c3) (cc ++ rest).length ((cc ++ rest).reverse.map fun x => Value.string (str x)) := by
          rw [List.length_append, HP.out, HQ.out]
          exact hst3
         go_wp2_with fail
         go_roundg fu
         case rel => exact ⟨k, cc ++ rest, o, by omega, rfl, rfl, HR2.out, ⟨by have := hor.out.1; omega, by have := hor.out.2; omega⟩, hlen, hst4, hne3, hres3, hb3⟩
         case measure => omega
        | succ j =>
         obtain ⟨x, hx⟩ : ∃ x, cc[j]? = some x := ⟨_, List.getElem?_eq_getElem (by rw [HP.out]; omega)⟩
         obtain ⟨hvl, hvd⟩ := KV.out _ hb3
         obtain ⟨adv, rfl, hcx⟩ := str_at hvl hvd hx
         have hdrop : cc.drop j = x :: cc.drop (j + 1) := by
          obtain ⟨hj', rfl⟩ := List.getElem?_eq_some_iff.1 hx
          exact List.drop_eq_getElem_cons hj'
         have HDR := hide hdrop
         have hjI : ((j + 1 : Nat) : Int) - 1 = (j : Int) := by omega
         have hj0 : (0 : Int) ≤ (j : Int) := by omega
         have hjp : j < p := by omega
         have hjpI : (j : Int) < (p : Int) := by omega
         rw [hjI]
         clear hvl hvd hx hdrop hjI
         go_wp2_with (at_builtin; refine wpList_append_rd _ rfl _ _ 27 rfl w.heap.size 9 i0 (.string ⟨#[]⟩) 1 16 Tryz.underlying27 hi0 hz0 hz1 hz2 rfl (by decide) _ _ _ rfl (hst3.alloc _) _ _ 1 1 [_] rfl (by rfl) (rd_new _ [_] _ (Nat.lt_succ_self _)) one_str (by simp only [maxLen]; omega) (by omega) (Nat.le_trans hb3.size (by simp)) ?_)
         intro v4 w4 hown4 hg4 hat4
         have hb4 := below_append (hb3.alloc hb3.size _) (hst3.alloc _) (Nat.le_refl _) hg4 (Nat.le_trans hb3.size (by simp))
         have hlt0 : w.heap.size < wr.heap.size := (Array.getElem?_eq_some_iff.1 hres3.out).1
         have hres4 : Hid (w4.heap[w.heap.size]? = some (.cells #[.int .i64 0, .int .i64 0] 41 (0, 0))) := by
          show _ = _
          rw [hg4.block w.heap.size (by simp; omega) (fun e => hne3.out e.symm), Below.heap_alloc _ _ _ hlt0]
          exact hres3.out
         have hne4 : Hid (v4.ownBlock ≠ some w.heap.size) := by
          rcases hat4 with e | e
          · rw [e]; exact hne3
          · rw [e]; intro e; injection e with e; omega
         have hown4' : w4.ownsRow w.heap.size 9 1 v4 (p - j + q) ((cc.drop j ++ rest).reverse.map fun x => Value.string (str x)) := by
          rw [HDR.out, show p - j + q = p - (j + 1) + q + 1 by omega]
          simpa using hown4
         go_wp2_with fail
         go_roundw
         case rel => exact ⟨j, by omega, by go_num, hown4', hne4, hres4, hb4⟩
         case measure => simp [intOf]
    | false =>
     rw [hru, if_neg (by decide)] at hr0
     have hfc := fits_any top ⟨kind, line, col, start, stop, text, value⟩ w1 ht0 (by omega)
     have HR1 := hide hr0
     clear hru hr0 HR0
     go_wp2_with fail
     refine hfc.mono ?_
     rintro e w2 ⟨rfl, hb2⟩
     have hblk2 := hblk.below hb2
     have hst2 := hst1.kept (row := none) ⟨hb2.os, hb2.tape, hb2.output, hb2.size, fun i hi _ => hb2.block i hi⟩ (by simp [Value.ownBlock])
     have hres2 := (hb2.block w.heap.size ((Array.getElem?_eq_some_iff.1 hres1).1)).trans hres1
     have hB2 := hB1.trans (hb2.mono hB1.size)
     clear hfc t0 t1 t2 t3 t4 t5 t6 hblk hst1 hres1 hb2 hB1
     have t1 := hblk2.cell 1
     have t2 := hblk2.cell 2
     have hr1 := HR1.out
     cases hfit : fitsF top ⟨kind, line, col, start, stop, text, value⟩ with
     | false =>
      rw [hfit, if_pos rfl] at hr1
      injection hr1 with hr1
      have q0 : w2.cell? ⟨w.heap.size, 0, none⟩ = some (.int .i64 0) := cell_of_row w2 w.heap.size 0 _ _ (0, 0) hres2
      have q1 : w2.cell? ⟨w.heap.size, 1, none⟩ = some (.int .i64 0) := cell_of_row w2 w.heap.size 1 _ _ (0, 0) hres2
      have f0 := frozen_of_row w2 w.heap.size 0 _ _ hres2
      have f1 := frozen_of_row w2 w.heap.size 1 _ _ hres2
      go_wp2_with fail
      go_region
      go_wp2_with fail
      obtain ⟨z0, z1⟩ := res_two hres2 (.int .i64 line) (.int .i64 col)
      rw [← hr1]
      exact bodyPost_ret (v := .tuple #[.int .i64 70, .agg #[.int .i64 line, .int .i64 col]]) (by simp [results, Tryz.results96, go_sem, z0, z1]) rfl ⟨rfl, below_drewN ((hB2.setCell (Nat.le_refl _) _).setCell (Nat.le_refl _) _) 1⟩
     | true =>
      rw [hfit, if_neg (by decide)] at hr1
      clear hfit
      go_wp2_with fail
      refine (bracket_any top _).mono ?_
      rintro e w2 ⟨rfl, rfl⟩
      have hob := hor.out
      obtain ⟨br, hbr⟩ : ∃ br, bracketF top = br := ⟨_, rfl⟩
      have hbr1 : -1 ≤ br ∧ br ≤ 1 := by rw [← hbr]; unfold bracketF; split <;> (try split) <;> omega
      rw [hbr] at hr1 ⊢
      have HBR := hide hbr
      by_cases hdeep : br = 1 ∧ depth ≤ o
      · rw [if_pos hdeep] at hr1
        injection hr1 with hr1
        obtain ⟨hd1, hd2⟩ := hdeep
        subst hd1
        have q0 : w2.cell? ⟨w.heap.size, 0, none⟩ = some (.int .i64 0) := cell_of_row w2 w.heap.size 0 _ _ (0, 0) hres2
        have q1 : w2.cell? ⟨w.heap.size, 1, none⟩ = some (.int .i64 0) := cell_of_row w2 w.heap.size 1 _ _ (0, 0) hres2
        have f0 := frozen_of_row w2 w.heap.size 0 _ _ hres2
        have f1 := frozen_of_row w2 w.heap.size 1 _ _ hres2
        go_wp2_with fail
        go_region
        go_wp2_with fail
        obtain ⟨z0, z1⟩ := res_two hres2 (.int .i64 line) (.int .i64 col)
        rw [← hr1]
        exact bodyPost_ret (v := .tuple #[.int .i64 71, .agg #[.int .i64 line, .int .i64 col]]) (by simp [results, Tryz.results96, go_sem, z0, z1]) rfl ⟨rfl, below_drewN ((hB2.setCell (Nat.le_refl _) _).setCell (Nat.le_refl _) _) 1⟩
      · rw [if_neg hdeep] at hr1
        have HR2 := hide hr1
        have hnext : ∀ k', (k + 1 < nt → k' = k + 1) → (¬ k + 1 < nt → k' = k) → runF R nf bf toks depth fu rest k' (o + br) = some r := fun k' h1 h2 => by
         have h3 := HR2.out
         rw [HNT.out] at h3
         by_cases h : k + 1 < nt
         · rw [if_pos h] at h3; rw [h1 h]; exact h3
         · rw [if_neg h] at h3; rw [h2 h]; exact h3
        have HNX := hide hnext
        have hst4 : w2.ownsRow w.heap.size 9 1 (.slice (some ⟨gs, 0, none⟩) q cs) rest.length (rest.reverse.map fun x => Value.string (str x)) := by rw [HQ.out]; exact hst2
        have hrl : Hid (rest.length ≤ 1000000001) := by have h : (top :: rest).length ≤ 1000000001 := hsl.out; show _ ≤ _; simp at h; omega
        clear hr1 HR1 hnext
        have hb1 : br = 1 ∨ br = 0 ∨ br = -1 := by omega
        rcases hb1 with rfl | rfl | rfl
        · have hnd : ¬ (depth ≤ o) := fun h => hdeep ⟨rfl, h⟩
          by_cases hk1 : k + 1 < nt
          · have hk1I : (k : Int) + 1 < (nt : Int) := by omega
            have H4 := hide (HNX.out (k + 1) (fun _ => rfl) (fun h => absurd hk1 h))
            go_wp2_with fail
            refine (bracket_any top _).mono ?_
            rintro e w2 ⟨rfl, rfl⟩
            rw [HBR.out]
            go_wp2_with fail
            go_roundg fu
            case rel => exact ⟨k + 1, rest, _, by omega, by go_num, rfl, (by first | exact H4.out | (have h := H4.out; rw [Int.add_zero] at h; exact h)), ⟨by omega, by omega⟩, hrl, hst4, hne, hres2, hB2⟩
            case measure => omega
          · have hk1I : ¬ ((k : Int) + 1 < (nt : Int)) := by omega
            have H4 := hide (HNX.out k (fun h => absurd h hk1) (fun _ => rfl))
            go_wp2_with fail
            refine (bracket_any top _).mono ?_
            rintro e w2 ⟨rfl, rfl⟩
            rw [HBR.out]
            go_wp2_with fail
            go_roundg fu
            case rel => exact ⟨k, rest, _, by omega, rfl, rfl, (by first | exact H4.out | (have h := H4.out; rw [Int.add_zero] at h; exact h)), ⟨by omega, by omega⟩, hrl, hst4, hne, hres2, hB2⟩
            case measure => omega
        · by_cases hk1 : k + 1 < nt
          · have hk1I : (k : Int) + 1 < (nt : Int) := by omega
            have H4 := hide (HNX.out (k + 1) (fun _ => rfl) (fun h => absurd hk1 h))
            go_wp2_with fail
            refine (bracket_any top _).mono ?_
            rintro e w2 ⟨rfl, rfl⟩
            rw [HBR.out]
            go_wp2_with fail
            go_roundg fu
            case rel => exact ⟨k + 1, rest, _, by omega, by go_num, rfl, (by first | exact H4.out | (have h := H4.out; rw [Int.add_zero] at h; exact h)), ⟨by omega, by omega⟩, hrl, hst4, hne, hres2, hB2⟩
            case measure => omega
          · have hk1I : ¬ ((k : Int) + 1 < (nt : Int)) := by omega
            have H4 := hide (HNX.out k (fun h => absurd h hk1) (fun _ => rfl))
            go_wp2_with fail
            refine (bracket_any top _).mono ?_
            rintro e w2 ⟨rfl, rfl⟩
            rw [HBR.out]
            go_wp2_with fail
            go_roundg fu
            case rel => exact ⟨k, rest, _, by omega, rfl, rfl, (by first | exact H4.out | (have h := H4.out; rw [Int.add_zero] at h; exact h)), ⟨by omega, by omega⟩, hrl, hst4, hne, hres2, hB2⟩
            case measure => omega
        · by_cases hk1 : k + 1 < nt
          · have hk1I : (k : Int) + 1 < (nt : Int) := by omega
            have H4 := hide (HNX.out (k + 1) (fun _ => rfl) (fun h => absurd hk1 h))
            go_wp2_with fail
            refine (bracket_any top _).mono ?_
            rintro e w2 ⟨rfl, rfl⟩
            rw [HBR.out]
            go_wp2_with fail
            go_roundg fu
            case rel => exact ⟨k + 1, rest, _, by omega, by go_num, rfl, (by first | exact H4.out | (have h := H4.out; rw [Int.add_zero] at h; exact h)), ⟨by omega, by omega⟩, hrl, hst4, hne, hres2, hB2⟩
            case measure => omega
          · have hk1I : ¬ ((k : Int) + 1 < (nt : Int)) := by omega
            have H4 := hide (HNX.out k (fun h => absurd h hk1) (fun _ => rfl))
            go_wp2_with fail
            refine (bracket_any top _).mono ?_
            rintro e w2 ⟨rfl, rfl⟩
            rw [HBR.out]
            go_wp2_with fail
            go_roundg fu
            case rel => exact ⟨k, rest, _, by omega, rfl, rfl, (by first | exact H4.out | (have h := H4.out; rw [Int.add_zero] at h; exact h)), ⟨by omega, by omega⟩, hrl, hst4, hne, hres2, hB2⟩
            case measure => omega
end Go.Proofs.YtbpgkkoeehopjaaGreat.gram
namespace Go.Proofs.YtbpgkkoeehopjaaGreat.tree
open Go.RowKit Go.Proofs.YtbpgkkoeehopjaaGreat.words
structure RowT (w : World) (S : Nat → Prop) (base : Nat) (e : TypeId) (k : Nat) (v : Value) (n : Nat) (cs : List Leaf) (vs : List Value) : Prop where
 own : w.ownsRow base e k v n vs
 reads : ReadsL w (fun b => S b ∧ v.ownBlock ≠ some b) cs vs
 le : ∀ b, S b → b < w.heap.size
section
variable {w w' : World} {S S' : Nat → Prop} {base n k : Nat} {e : TypeId} {v : Value} {cs : List Leaf} {vs : List Value}
theorem RowT.nil (h : ∀ b, S b → b < w.heap.size) : RowT w S base e k (.slice none 0 0) 0 [] [] := ⟨World.ownsRow_nil _ _ _ _, ReadsL.nil, h⟩
theorem RowT.lift (h : RowT w S base e k v n cs vs) (h1 : ∀ b, S b → S' b) (h2 : ∀ b, S' b → b < w.heap.size) : RowT w S' base e k v n cs vs :=
 ⟨h.own, ReadsL.keep (fun b hb => ⟨h1 b hb.1, hb.2⟩) (fun _ _ => rfl) _ _ h.reads, h2⟩
theorem RowT.other {row : Option Nat} (h : RowT w S base e k v n cs vs) (hg : w.grownBy w' row) (hrow : ∀ b, row = some b → ¬ S b) (hne : v.ownBlock = none ∨ v.ownBlock ≠ row) : RowT w' S base e k v n cs vs :=
 ⟨h.own.kept hg hne, ReadsL.keep (fun _ hb => hb) (fun p hp => World.cell?_of_block (hg.block p.block (h.le _ hp.1) (fun e => hrow _ e.symm hp.1))) _ _ h.reads, fun b hb => Nat.lt_of_lt_of_le (h.le b hb) hg.size⟩
theorem grown_below {B : Nat} (hb : Below B w w') (hB : w.heap.size ≤ B) : w.grownBy w' none := ⟨hb.os, hb.tape, hb.output, hb.size, fun i hi _ => hb.block i (by omega)⟩
theorem RowT.below (h : RowT w S base e k v n cs vs) (hb : Below w.heap.size w w') : RowT w' S base e k v n cs vs :=
 h.other (grown_below hb (Nat.le_refl _)) (fun b e => by cases e) (by cases v.ownBlock <;> simp)
theorem RowT.alloc (h : RowT w S base e k v n cs vs) (o : Obj) : RowT (w.alloc o) S base e k v n cs vs := h.below ((Below.refl _ _).alloc (Nat.le_refl _) o)
theorem RowT.push {m : Nat} {v' : Value} {cs' : List Leaf} {vs' : List Value} (h : RowT w S base e k v n cs vs) (ho : w'.ownsRow base e k v' (n + m) (vs ++ vs')) (hg : w.grownBy w' v.ownBlock)
  (hat : v'.ownBlock = v.ownBlock ∨ v'.ownBlock = some w.heap.size) (hr : ReadsL w (fun b => S b ∧ v.ownBlock ≠ some b) cs' vs') : RowT w' S base e k v' (n + m) (cs ++ cs') (vs ++ vs') := by
 refine ⟨ho, ReadsL.keep (w := w) (S := fun b => S b ∧ v.ownBlock ≠ some b) (fun b hb => ⟨hb.1, ?_⟩) (fun p hp => World.cell?_of_block (hg.block p.block (h.le _ hp.1) (fun e => hp.2 e.symm))) _ _ (h.reads.app hr), fun b hb => Nat.lt_of_lt_of_le (h.le b hb) hg.size⟩
 rcases hat with hat | hat
 · rw [hat]; exact hb.2
 · rw [hat]; intro e; injection e with e; have := h.le _ hb.1; omega
theorem RowT.list (h : RowT w S base e k v n cs vs) : Reads w (Lo w.heap.size) (.list n cs) v := by
 obtain ⟨A, c, rfl, h1, h2⟩ := own_slice h.own
 refine list_reads h1 h2 (ReadsL.keep (fun b hb => h.le b hb.1) (fun p _ => rfl) _ _ h.reads) ?_
 intro hn
 obtain ⟨ad, e, hb, hc⟩ := Rd.of_own h.own hn
 exact ⟨ad, e, hb, hc⟩
theorem grown_setCell (w : World) (p : Addr) (u : Value) : w.grownBy (w.setCell p u) (some p.block) :=
 ⟨rfl, rfl, rfl, by simp [World.setCell], fun k hk hne => Below.heap_setCell w p u k (fun e => hne (by rw [e]))⟩
end
theorem own_reads {w : World} {base k n : Nat} {e : TypeId} {v : Value} {vs : List Value} {cs : List Leaf} {S : Nat → Prop} (h : w.ownsRow base e k v n vs) (hr : ReadsL w S cs vs) (hS : ∀ g, v.ownBlock = some g → S g) :
  Reads w S (.list n cs) v := by
 obtain ⟨A, c, rfl, h1, h2⟩ := own_slice h
 refine list_reads h1 h2 hr ?_
 intro hn
 obtain ⟨ad, e, hb, hc⟩ := Rd.of_own h hn
 exact ⟨ad, e, hS _ (by rw [e]; rfl), hc⟩
theorem own_types {w : World} {B B' e e' s s' n n' : Nat} {v v' : Value} {xs xs' : List Value} (h : w.ownsRow B e s v n xs) (h' : w.ownsRow B' e' s' v' n' xs') (hne : e ≠ e') : v.ownBlock = none ∨ v.ownBlock ≠ v'.ownBlock := by
 rcases h.2 with ⟨rfl, _⟩ | ⟨g, cap, cur, rfl, _, hg, _⟩
 · exact .inl rfl
 · rcases h'.2 with ⟨rfl, _⟩ | ⟨g', cap', cur', rfl, _, hg', _⟩
   · exact .inr (by simp [Value.ownBlock])
   · refine .inr fun ee => ?_
     have : g = g' := by simpa [Value.ownBlock] using ee
     subst this
     rw [hg] at hg'
     injection hg' with hg'
     injection hg' with _ ht
     exact hne ht
theorem own_block {w : World} {B e s n g : Nat} {t : TypeId} {fr : Nat × Nat} {v : Value} {xs : List Value} {cs : Array Value} (h : w.ownsRow B e s v n xs) (hg : w.heap[g]? = some (.cells cs t fr)) (hne : e ≠ t) : v.ownBlock ≠ some g := by
 rcases h.2 with ⟨rfl, _⟩ | ⟨g', cap, cur, rfl, _, hg', _⟩
 · simp [Value.ownBlock]
 · intro e
   have : g' = g := by simpa [Value.ownBlock] using e
   subst this
   rw [hg] at hg'
   injection hg' with hg'
   injection hg' with _ ht
   exact hne ht.symm
end Go.Proofs.YtbpgkkoeehopjaaGreat.tree
