/-
  UtfPairs: for every character the law returns true, and the character reads behind the call as before. There is no condition.
-/
import Derived.Test.YtomkkagopjpfkaaRows
import Derived.Test.YtomkkagopjpfkaaJoin
import Derived.WalkKit
import Derived.ProofKit
import Derived.OpenShut
namespace Go.Proofs.Ytomkkagopjpfkaa.utfPairs
open Go.ChangeShapes Go.WideShapes Go.ChangeAt Go.RowKit
set_option linter.unusedVariables false

theorem own : ownKnob Try.prog.godebug = none := by kernel_rfl

open Go.Proofs.Ytomkkagopjpfkaa.join

theorem Split_in (c : Int) (w : World) (a : 65536 ≤ c) (b : c ≤ 1114111) :
    Calls Try.prog 9 #[.int .i32 c] w fun e w' => ∃ h l : Int, e = .returned (.tuple #[.int .i32 h, .int .i32 l, .bool true]) ∧ w = w' ∧
      55296 ≤ h ∧ h ≤ 56319 ∧ 56320 ≤ l ∧ l ≤ 57343 ∧ Hid (65536 + (h - 55296) * 1024 + (l - 56320) = c) := by
  refine (Split_any c w).mono ?_
  rintro e w' ⟨rfl, rfl⟩
  have k := okS_true a b
  refine ⟨_, _, by rw [hiS, loS, k], rfl, ?_⟩
  have x1 : (0 : Int) ≤ c - 65536 := by omega
  refine ⟨by show (55296 : Int) ≤ 55296 + (c - 65536) / 1024; omega, by show 55296 + (c - 65536) / 1024 ≤ (56319 : Int); omega, by show (56320 : Int) ≤ 56320 + (c - 65536) % 1024; omega,
    by show 56320 + (c - 65536) % 1024 ≤ (57343 : Int); omega, ?_⟩
  show 65536 + (55296 + (c - 65536) / 1024 - 55296) * 1024 + (56320 + (c - 65536) % 1024 - 56320) = c
  omega

theorem Split_out (c : Int) (w : World) (a : c < 65536 ∨ 1114111 < c) :
    Calls Try.prog 9 #[.int .i32 c] w fun e w' => e = .returned (.tuple #[.int .i32 0, .int .i32 0, .bool false]) ∧ w = w' := by
  refine (Split_any c w).mono ?_
  rintro e w' ⟨rfl, rfl⟩
  have k := okS_false (c := c) (by omega)
  exact ⟨by rw [hiS, loS, k]; rfl, rfl⟩

/-- the two calls of Join in 'pairs': the halves in order, and turned about -/
theorem Join_both (h l : Int) (w : World) (a : (55296 ≤ h ∧ h ≤ 56319 ∧ 56320 ≤ l ∧ l ≤ 57343) ∨ (55296 ≤ l ∧ l ≤ 56319 ∧ 56320 ≤ h ∧ h ≤ 57343)) :
    Calls Try.prog 12 #[.int .i32 h, .int .i32 l] w fun e w' => ∃ (v : Int) (o : Bool), e = .returned (.tuple #[.int .i32 v, .bool o]) ∧ w = w' ∧
      Hid ((h ≤ 56319 → v = 65536 + (h - 55296) * 1024 + (l - 56320) ∧ o = true) ∧ (56320 ≤ h → o = false)) := by
  refine (Join_any h l w).mono ?_
  rintro e w' ⟨rfl, rfl⟩
  rcases a with a | a
  · have k := okJ_true a.1 a.2.1 a.2.2.1 a.2.2.2
    exact ⟨_, _, by rw [valJ, k]; rfl, rfl, ⟨fun _ => ⟨rfl, rfl⟩, fun hh => by omega⟩⟩
  · have k := okJ_false (h := h) (l := l) (by omega)
    exact ⟨_, _, by rw [k], rfl, ⟨fun hh => by omega, fun _ => rfl⟩⟩

/-- of one character above U+FFFF -/
theorem pairs_any (c : Int) (w : World) (a : 65536 ≤ c) (b : c ≤ 1114111) :
    Calls Try.prog 8 #[.int .i32 c] w fun e w' => e = .returned (.bool true) ∧ w = w' := by
  go_enter Try.func8, Try.ntmps8
  go_wp2_with fail
  refine (Split_in c _ a b).mono ?_
  rintro e w' ⟨h, l, rfl, rfl, h1, h2, h3, h4, h5⟩
  go_wp2_with fail
  refine (Join_both h l _ (.inl ⟨h1, h2, h3, h4⟩)).mono ?_
  rintro e w' ⟨v, o, rfl, rfl, hh⟩
  obtain ⟨h6, h7⟩ := hh.out.1 h2
  clear hh
  obtain rfl : v = c := by rw [h6]; exact h5.out
  subst h7
  clear h6 h5
  go_wp2_with fail
  refine (Join_both l h _ (.inr ⟨h1, h2, h3, h4⟩)).mono ?_
  rintro e w' ⟨v', o, rfl, rfl, hh⟩
  obtain rfl := hh.out.2 h3
  clear hh
  go_wp2_with fail
  go_ret
  exact ⟨rfl, rfl⟩

theorem walk (a0 : Int) (w0 : (Lit.int .i32 a0).wf = true) (w : World) :
    Calls Try.prog 4 #[.int .i32 a0] w fun e w' => e = .returned (.bool true) ∧ Grown w w' := by
  by_cases h : a0 < 65536 ∨ 1114111 < a0
  · rcases h with h | h
    all_goals
      go_enter Try.func4, Try.ntmps4
      go_wp2_with (first
        | (go_at_call 8; refine (pairs_any _ _ (by omega) (by omega)).mono ?_; rintro e w' ⟨rfl, rfl⟩)
        | (go_at_call 9; refine (Split_out _ _ (by omega)).mono ?_; rintro e w' ⟨rfl, rfl⟩))
      go_ret
      exact ⟨rfl, Grown.refl _⟩
  · have h1 : 65536 ≤ a0 := by omega
    have h2 : a0 ≤ 1114111 := by omega
    clear h
    go_enter Try.func4, Try.ntmps4
    go_wp2_with (first
      | (go_at_call 8; refine (pairs_any _ _ (by omega) (by omega)).mono ?_; rintro e w' ⟨rfl, rfl⟩))
    go_ret
    exact ⟨rfl, Grown.refl _⟩

set_option maxRecDepth 100000 in
theorem lifted (os : Os) (started : os.Started) (H : Type) (enc : TypeId × Value → H) :
    ReturnsInHanded {} Try.checked os 4 .any (Rows.utfPairsSpec.pre6 enc Try.prog Try.f4 Rows.utfPairsRow.domain false) (Rows.utfPairsSpec.post enc Try.prog Try.f4 false true false false) := by
  refine returnsInHanded_of_change (C := Try.checked) own started (by kernel_rfl) Try.func4
    (ChangeSpec.witness6 (enc := enc) (C := Try.checked) false ⟨#[], #[.int .i32 0], []⟩ 8 (by kernel_rfl) (by kernel_rfl) (by kernel_rfl) (by kernel_rfl)) ?_
  intro W base args ds gs before hval0 hW hcnd _
  have hval : ∀ (j : Nat) t v, Try.f4.params[j]? = some t → args[j]? = some v → Value.okWide Try.prog W .any base t v := hval0
  have hW' := hW
  obtain ⟨p, q, hA0, hV, rfl, hfz, hnd⟩ := hW
  have hA : DataW.TrodAll enc Try.prog W 0 (fun _ => true) true Try.f4.params.toList args.toList ds p := hA0
  rw [Try.params4] at hA hval
  obtain ⟨v0, vs0, d0, ds0, p0, q0, hargs, rfl, rfl, h0, r0⟩ := trodAll_cons hA
  obtain ⟨rfl, rfl, rfl⟩ := trodAll_nil r0
  obtain rfl : args = #[v0] := by cases args; simp_all
  obtain ⟨rfl, rfl⟩ := trodVars_none hV
  obtain ⟨a0, rfl, rfl, rfl, w0⟩ := open_int Try.underlying21 (hval 0 21 v0 rfl rfl) h0
  clear hA0 hval0
  simp only [List.append_nil] at hW'
  refine (walk a0 w0 W).mono fun e W' ⟨he, hg⟩ => ?_
  subst he
  exact ⟨_, rfl, post_of_same (pa := []) (pv := []) hW' (fun _ _ _ => (trodAll_cons_mk (shut_bool Try.underlying4 _) trodAll_mk0)) (fun sp _ => (trodAll_cons_mk (shut_int Try.underlying21 w0) trodAll_mk0)) (fun _ _ => rfl) rfl
    (hg.frame _) hg.2.1 (ok_one (by kernel_rfl) rfl (okWide_bool_mk Try.underlying4 _))⟩

theorem over : Rows.utfPairsRow.holds Try.pinned (OpenSpec.ofChange Rows.utfPairsSpec) :=
  OpenClaim.holds_of_wide 4 Try.f4 rfl rfl rfl rfl rfl rfl rfl ⟨rfl, rfl, rfl, rfl, rfl⟩ rfl rfl rfl rfl rfl (by kernel_rfl) Try.func4 (by kernel_rfl)
    (of_decide_eq_true (by kernel_rfl)) (by unfold Func.isWrapper; first | (rw [if_pos (by decide +kernel)]; kernel_rfl) | (rw [if_neg (by decide +kernel)]; exact ⟨rfl, rfl⟩))
    (fun os started H enc _ => lifted os started H enc)

/-- the statement -/
theorem proved : Rows.UtfPairsSaid :=
  over
#print axioms proved
end Go.Proofs.Ytomkkagopjpfkaa.utfPairs
