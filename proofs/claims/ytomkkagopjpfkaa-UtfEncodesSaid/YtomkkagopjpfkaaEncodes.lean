/-
  UtfEncodes: for every list of lists of characters the law returns true, and the argument reads behind the call as before. There is no condition.
-/
import Derived.Test.YtomkkagopjpfkaaRows
import Derived.Test.YtomkkagopjpfkaaEnc
import Derived.Test.YtomkkagopjpfkaaFrame
namespace Go.Proofs.Ytomkkagopjpfkaa.utfEncodes
open Go.ChangeShapes Go.WideShapes Go.ChangeAt Go.RowKit
open Go.Proofs.Ytomkkagopjpfkaa.words Go.Proofs.Ytomkkagopjpfkaa.enc Go.Proofs.Ytomkkagopjpfkaa.frame
set_option linter.unusedVariables false

/-- the law of one list -/
theorem encodes_any (A : Option Addr) (n c B : Nat) (zs : List Int) (w : World) (hr : Rd w B A (zs.map (Value.int .i32))) (hB : B ≤ w.heap.size) (hl : zs.length = n) (hf : Fits zs) (hn : n * 4 ≤ 140737488351232) :
    Calls Try.prog 11 #[.slice A n c] w fun e w' => e = .returned (.bool true) ∧ Below w.heap.size w w' := by
  have HL := hide hl
  clear hl
  go_enter Try.func11, Try.ntmps11
  go_wp2_with fail
  refine (copiedRunes_any A n c B zs _ hr hB HL.out (by omega)).mono ?_
  rintro e w1 ⟨v1, rfl, hown1, hb1⟩
  obtain ⟨A1, c1, rfl, _, _⟩ := own_slice hown1
  go_wp2_with fail
  refine (RefEncode_any A1 n c1 w1.heap.size zs _ (Rd.of_own hown1) (Nat.le_refl _) HL.out hn).mono ?_
  rintro e w2 ⟨rfl, hb2⟩
  have hb12 := hb1.trans (hb2.mono hb1.size)
  go_wp2_with fail
  refine (copiedRunes_any A n c B zs _ (hr.below' hb12 hB) (Nat.le_trans hB hb12.size) HL.out (by omega)).mono ?_
  rintro e w3 ⟨v3, rfl, hown3, hb3⟩
  obtain ⟨A3, c3, rfl, _, _⟩ := own_slice hown3
  have hb13 := hb12.trans (hb3.mono hb12.size)
  go_wp2_with fail
  refine (Encode_any A3 n c3 w3.heap.size zs _ (Rd.of_own hown3) (Nat.le_refl _) HL.out hf hn).mono ?_
  rintro e w4 ⟨rfl, hb4⟩
  have hb14 := hb13.trans (hb4.mono hb13.size)
  go_wp2
  go_ret
  exact ⟨rfl, hb14⟩

theorem fits_wf {zs : List Int} (h : ∀ z ∈ zs, (Lit.int .i32 z).wf = true) : Fits zs := fun z hz => by
  simpa [Lit.wf, IntKind.min, IntKind.max, IntKind.signed, IntKind.bits] using h z hz

/-- a list of lists, each within the reach -/
def Lists {H : Type} (w : World) (B : Nat) (AO : Option Addr) (n : Nat) (D : Nat → DataW H) : Prop :=
  ∀ r, r < n → ∃ ad A m c zs, AO = some ad ∧ ad.block < B ∧ w.cell? (ad.add r) = some (.slice A m c) ∧ zs.length = m ∧ Rd w B A (zs.map (Value.int .i32)) ∧ Fits zs ∧ m * 4 ≤ 140737488351232

theorem rune2 (w : World) (zs : List Int) (B : Nat) (hB : w.heap.size < B) : Rd (w.alloc (.cells (zs.map (Value.int .i32)).toArray 21)) B (some ⟨w.heap.size, 0, none⟩) (zs.map (Value.int .i32)) :=
  rd_new w _ _ hB

theorem walk {H : Type} (AO : Option Addr) (n c : Nat) (D : Nat → DataW H) (w : World) (hn : n ≤ maxLen) (hL : Lists w w.heap.size AO n D) :
    Calls Try.prog 6 #[.slice AO n c] w fun e w' => e = .returned (.bool true) ∧ Below w.heap.size w w' := by
  unfold maxLen at hn
  have HL := hide hL
  clear hL
  go_enter Try.func6, Try.ntmps6
  go_wp2_with fail
  refine (encodes_any _ 2 _ (w.heap.size + 1) [97, 128512] _ (rune2 w [97, 128512] _ (by omega)) (by simp) rfl (by unfold Fits; decide) (by omega)).mono ?_
  rintro e w1 ⟨rfl, hb1⟩
  have hb01 : Below w.heap.size w w1 := ((Below.refl _ _).alloc (Nat.le_refl _) _).trans (hb1.mono (by simp))
  go_wp2_with fail
  refine (encodes_any _ 1 _ (w1.heap.size + 1) [55296] _ (rune2 w1 [55296] _ (by omega)) (by simp) rfl (by unfold Fits; decide) (by omega)).mono ?_
  rintro e w2 ⟨rfl, hb2⟩
  have hb02 : Below w.heap.size w w2 := (hb01.alloc hb01.size _).trans (hb2.mono (by have := hb01.size; simp; omega))
  clear hb1 hb01 hb2
  go_wp2_with fail
  go_loopw [3] (fun i wr => ∃ k : Nat, k ≤ n ∧ i = .int .i64 k ∧ Below w.heap.size w wr) (fun i _ => n - (intOf i).toNat)
  case atStart => exact ⟨0, Nat.zero_le _, rfl, hb02⟩
  case round =>
    obtain ⟨k, hk, rfl, hb⟩ := hrel
    by_cases hlt : k < n
    · obtain ⟨ad, A, m, c', zs, rfl, had, hc, hz, hr, hf, hm⟩ := HL.out k hlt
      have hc' := (hb.cell (p := ad.add k) (by rw [add_block]; exact had)).trans hc
      have HZ := hide hz
      clear hz hc
      go_wp2_with fail
      refine (encodes_any A m c' w.heap.size zs _ (hr.below hb) hb.size HZ.out hf hm).mono ?_
      rintro e w3 ⟨rfl, hb3⟩
      have hb13 := hb.trans (hb3.mono hb.size)
      go_wp2_with fail
      go_roundw
      case rel => exact ⟨k + 1, by omega, by go_num, hb13⟩
      case measure => simp [intOf]; omega
    · go_wp2
      go_ret
      exact ⟨rfl, hb⟩

theorem own : ownKnob Try.prog.godebug = none := by kernel_rfl
theorem laidOut : laidOutB Try.prog = true := by kernel_rfl
theorem cells_rune : Try.prog.cellsOf 21 = 1 := by kernel_rfl
theorem cells_runes : Try.prog.cellsOf 28 = 1 := by kernel_rfl
theorem bytes_rune : Try.prog.bytesOf 21 = 4 := by kernel_rfl

set_option maxRecDepth 100000 in
theorem lifted (os : Os) (started : os.Started) (H : Type) (enc : TypeId × Value → H) :
    ReturnsInHanded {} Try.checked os 6 .any (Rows.utfEncodesSpec.pre6 enc Try.prog Try.f6 Rows.utfEncodesRow.domain false) (Rows.utfEncodesSpec.post enc Try.prog Try.f6 false true false false) := by
  refine returnsInHanded_of_change_sized (C := Try.checked) own started (by kernel_rfl) Try.func6
    (ChangeSpec.witness6 (enc := enc) (C := Try.checked) false ⟨#[], #[.slice none 0 0], []⟩ 8 (by kernel_rfl) (by kernel_rfl) (by kernel_rfl) (by kernel_rfl)) ?_
  intro W base args ds gs before hval0 hW hcnd hsz _
  have hval : ∀ (j : Nat) t v, Try.f6.params[j]? = some t → args[j]? = some v → Value.okWide Try.prog W .any base t v := hval0
  have hW' := hW
  obtain ⟨p, q, hA0, hV, rfl, hfz, hnd⟩ := hW
  have hA : DataW.TrodAll enc Try.prog W 0 (fun _ => true) true Try.f6.params.toList args.toList ds p := hA0
  rw [Try.params6] at hA hval hsz
  obtain ⟨v0, vs0, d0, ds0, p0, q0, hargs, rfl, rfl, h0, r0⟩ := trodAll_cons hA
  obtain ⟨rfl, rfl, rfl⟩ := trodAll_nil r0
  obtain rfl : args = #[v0] := by cases args; simp_all
  obtain ⟨rfl, rfl⟩ := trodVars_none hV
  obtain ⟨A, n, c, D, rfl, h1, h2, hrow, hd⟩ := rd_rows Try.underlying26 Try.underlying28 Try.underlying21 cells_runes cells_rune (hval 0 26 v0 rfl rfl) h0
  have hL : Lists W W.heap.size A n D := by
    intro r hr
    obtain ⟨ad, A', m, c', zs, e1, e2, e3, e4, e5, e6, e7, e8, e9⟩ := hrow r hr
    refine ⟨ad, A', m, c', zs, e1, e2, e3, e4, e7, fits_wf e8, ?_⟩
    rcases hd with ⟨_, h0⟩ | ⟨sp, hd, _⟩
    · omega
    · subst hd
      have : zs.length * Try.prog.bytesOf 21 ≤ reachBytes := weights_row hsz (j := 0) (t := 26) rfl rfl Try.underlying26 Try.underlying28 hr e9
      rw [bytes_rune, e4] at this
      exact this
  refine (walk A n c D W (Nat.le_trans h1 h2) hL).mono fun e W' ⟨he, hb⟩ => ?_
  subst he
  exact ⟨_, rfl, law_post rfl rfl rfl rfl laidOut (by rw [Try.params6]; intro t ht; simp at ht; subst ht; exact ⟨by kernel_rfl, of_decide_eq_true (by kernel_rfl)⟩) (by kernel_rfl) Try.underlying4 hW' hb⟩

theorem over : Rows.utfEncodesRow.holds Try.pinned (OpenSpec.ofChange Rows.utfEncodesSpec) :=
  OpenClaim.holds_of_wide 6 Try.f6 rfl rfl rfl rfl rfl rfl rfl ⟨rfl, rfl, rfl, rfl, rfl⟩ rfl rfl rfl rfl rfl (by kernel_rfl) Try.func6 (by kernel_rfl)
    (of_decide_eq_true (by kernel_rfl)) (by unfold Func.isWrapper; first | (rw [if_pos (by decide +kernel)]; kernel_rfl) | (rw [if_neg (by decide +kernel)]; exact ⟨rfl, rfl⟩))
    (fun os started H enc _ => lifted os started H enc)

/-- the statement -/
theorem proved : Rows.UtfEncodesSaid :=
  over
#print axioms proved
end Go.Proofs.Ytomkkagopjpfkaa.utfEncodes
