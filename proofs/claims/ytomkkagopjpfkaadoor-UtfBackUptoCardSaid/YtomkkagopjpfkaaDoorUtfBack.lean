/-
  UtfBack: for every list of characters the law returns true, and the argument reads behind the call as before; where the argument's values and letters are at most 1048576 in all.
-/
import Derived.Test.YtomkkagopjpfkaaDoorTabs
import Derived.Test.YtomkkagopjpfkaaDoorJoin0
import Derived.Test.YtomkkagopjpfkaaDoorAwake
namespace Go.Proofs.YtomkkagopjpfkaaDoor.utfBack
open Go.ChangeShapes Go.WideShapes Go.ChangeAt Go.RowKit
open Go.Proofs.YtomkkagopjpfkaaDoor.frame
open Go.Proofs.YtomkkagopjpfkaaDoor.words Go.Proofs.YtomkkagopjpfkaaDoor.enc Go.Proofs.YtomkkagopjpfkaaDoor.utf Go.Proofs.YtomkkagopjpfkaaDoor.dec Go.Proofs.YtomkkagopjpfkaaDoor.ref Go.Proofs.YtomkkagopjpfkaaDoor.ln Go.Proofs.YtomkkagopjpfkaaDoor.lines Go.Proofs.YtomkkagopjpfkaaDoor.back
set_option linter.unusedVariables false

theorem walk (A : Option Addr) (n c : Nat) (zs : List Int) (w : World) (hr : Rd w w.heap.size A (zs.map (Value.int .i32))) (hl : zs.length = n) (hf : Fits zs) (hn : n ≤ 1048576) (hT : Lib.Utf8Tabs 0 1 w) :
    Calls Tryd.prog 5 #[.slice A n c] w fun e w' => e = .returned (.bool true) ∧ Below w.heap.size w w' := by
  have HL := hide hl
  have HT := hide hT
  clear hl hT
  go_enter Tryd.func5, Tryd.ntmps5
  go_wp2_with fail
  refine (awake_any _ HT.out).mono ?_
  rintro e w1 ⟨rfl, hb1⟩
  go_wp2_with fail
  refine (copiedRunes_any A n c w.heap.size zs _ (hr.below hb1) hb1.size HL.out (by omega)).mono ?_
  rintro e w2 ⟨v2, rfl, hown2, hb2⟩
  obtain ⟨A2, c2, rfl, hn2, hm2⟩ := own_slice hown2
  have hB2 := hb1.trans (hb2.mono hb1.size)
  go_wp2_with fail
  refine (Encode_any A2 n c2 w2.heap.size zs _ (Rd.of_own hown2) (Nat.le_refl _) HL.out hf (by omega)).mono ?_
  rintro e w3 ⟨he, hb3⟩
  have hB3 := hB2.trans (hb3.mono hB2.size)
  cases hok : okL zs with
  | false =>
    rw [hok, encS_bad hok] at he
    subst he
    have HO := hide hok
    clear hok
    go_wp2_with fail
    refine (scalars_any A n c w.heap.size zs _ (hr.below hB3) HL.out (by simp only [maxLen]; omega)).mono ?_
    rintro e w4 ⟨he, rfl⟩
    rw [HO.out] at he
    subst he
    go_wp2_with fail
    go_ret
    exact ⟨rfl, hB3⟩
  | true =>
    rw [hok] at he
    have hz := encS_size zs
    have HD := hide (dec_encS hok)
    have HV := hide (valid_encS hok)
    have HO := hide hok
    generalize encS zs = s at he hz HD HV
    subst he
    clear hok
    rw [HL.out] at hz
    go_wp2_with fail
    refine (scalars_any A n c w.heap.size zs _ (hr.below hB3) HL.out (by simp only [maxLen]; omega)).mono ?_
    rintro e w4 ⟨he, rfl⟩
    rw [HO.out] at he
    subst he
    go_wp2_with fail
    refine (Decode_string' s zs s.size _ HD.out (by omega) (Utf8Tabs_below HT.out hB3)).mono ?_
    rintro e w5 ⟨v5, rfl, hown5, hb5⟩
    rw [HL.out] at hown5
    obtain ⟨A5, c5, rfl, hn5, hm5⟩ := own_slice hown5
    have hB5 := hB3.trans (hb5.mono hB3.size)
    go_wp2_with fail
    refine (alike_b A5 A n c5 c w5.heap.size w.heap.size zs _ (Rd.of_own hown5) (hr.below hB5) HL.out (by simp only [maxLen]; omega)).mono ?_
    rintro e w6 ⟨rfl, hb6⟩
    have hB6 := hB5.trans (hb6.mono hB5.size)
    go_wp2_with fail
    refine (Clean_string s _ (by omega) (Utf8Tabs_below HT.out hB6)).mono ?_
    rintro e w7 ⟨he, hb7⟩
    rw [HV.out] at he
    subst he
    go_wp2_with fail
    go_ret
    exact ⟨rfl, hB6.trans (hb7.mono hB6.size)⟩

/-! the frame -/
theorem cells_rune : Tryd.prog.cellsOf 21 = 1 := by kernel_rfl
theorem cells_byte : Tryd.prog.cellsOf 5 = 1 := by kernel_rfl
theorem cells_int : Tryd.prog.cellsOf 3 = 1 := by kernel_rfl
theorem cells_runes : Tryd.prog.cellsOf 26 = 1 := by kernel_rfl
theorem cells_bytes : Tryd.prog.cellsOf 24 = 1 := by kernel_rfl

/-- what the walk gives, for every argument within the bound and every world that holds the tables -/
theorem contract (H : Type) (enc : TypeId × Value → H) (W : World) (base : Nat) (args : Array Value) (ds gs : List (DataW H)) (before : List MemPlace)
    (hval : ∀ (j : Nat) t v, Tryd.f5.params[j]? = some t → args[j]? = some v → Value.okWide Tryd.prog W .any base t v)
    (hW : DataW.Whole enc Tryd.prog Tryd.f5.params.toList Rows.utfBackSpec.vars false W args.toList ds gs before) (hk : Rows.uptoSmall H (ds ++ gs) = true) (hL : laidMetH Tryd.prog tabs.laid2 W) :
    Calls Tryd.prog 5 args W fun e W' => ∃ v, e = .returned v ∧ Rows.utfBackSpec.post enc Tryd.prog Tryd.f5 false true false false W args v W' := by
  have hT : Lib.Utf8Tabs 0 1 W := tabs.tabs_of hL
  have hW' := hW
  obtain ⟨p, q, hA0, hV, rfl, hfz, hnd⟩ := hW
  have hA : DataW.TrodAll enc Tryd.prog W 0 (fun _ => true) true Tryd.f5.params.toList args.toList ds p := hA0
  rw [Tryd.params5] at hA hval
  obtain ⟨v0, vs0, d0, ds0, p0, q0, hargs, rfl, rfl, h0, r0⟩ := trodAll_cons hA
  obtain ⟨rfl, rfl, rfl⟩ := trodAll_nil r0
  obtain rfl : args = #[v0] := by cases args; simp_all
  obtain ⟨rfl, rfl⟩ := trodVars_none hV
  have hbulk := tabs.bound hk
  simp only [List.append_nil, Rows.uptoBulkAll] at hbulk
  clear hk
  have fin : ∀ (e : Ending) (W' : World), (e = .returned (.bool true) ∧ Below W.heap.size W W') → ∃ v, e = .returned v ∧ Rows.utfBackSpec.post enc Tryd.prog Tryd.f5 false true false false W #[v0] v W' := fun e W' ⟨he, hb⟩ => by
    subst he
    refine ⟨_, rfl, law_post rfl rfl rfl rfl tabs.laidOut ?_ (by kernel_rfl) Tryd.underlying4 hW' hb⟩
    rw [Tryd.params5]
    intro t ht
    simp only [List.mem_cons, List.mem_nil_iff, or_false] at ht
    subst ht
    exact ⟨by kernel_rfl, of_decide_eq_true (by kernel_rfl)⟩
  obtain ⟨A, n, c, zs, rfl, hl0, hn0, hm0, hr0, hw0, hd0⟩ := rd_ints Tryd.underlying26 Tryd.underlying21 cells_rune (hval 0 26 v0 rfl rfl) h0
  have hs0 : n ≤ 1048576 := by
    rcases hd0 with ⟨_, h⟩ | ⟨r, hd, _⟩
    · omega
    · have i1 := tabs.slice_le (lits (H := H) .i32 zs) (lits .i32 r)
      rw [hd] at hbulk
      have e1 : (lits (H := H) .i32 zs).length = zs.length := by simp [lits]
      have e2 : (lits (H := H) .i32 r).length = r.length := by simp [lits]
      omega
  exact (walk A n c zs W hr0 hl0 (fun z hz => by simpa [Lit.wf, IntKind.min, IntKind.max, IntKind.signed, IntKind.bits] using hw0 z hz) hs0 hT).mono fin

theorem reads (os : Os) {H : Type} (enc : TypeId × Value → H) : ∃ places, DataW.whole enc Tryd.prog ((tabs.laidWorld os).forCall (fun _ _ => 0) ⟨#[], #[.slice none 0 0], []⟩).memory Tryd.f5.params.toList Rows.utfBackSpec.vars false (#[.slice none 0 0] : Array Value).toList 8 = some ([.nil], [], places) :=
  ⟨[], by kernel_rfl⟩

set_option maxRecDepth 100000 in
theorem lifted (os : Os) (started : os.Started) (H : Type) (enc : TypeId × Value → H) (F : Stop.Interp) :
    ReturnsInHanded {} Tryd.checked os 5 .any ((Rows.OpenSpec.upto Rows.utfBackSpec).preRow enc Tryd.prog Tryd.f5 Rows.utfBackUptoRow.domain false Rows.utfBackUptoRow.laid) (((Rows.OpenSpec.upto Rows.utfBackSpec).at F).post enc Tryd.prog Tryd.f5 false true false false) := by
  obtain ⟨places, hx⟩ := reads os enc
  refine returnsInHanded_of_row (C := Tryd.checked) (s := Rows.OpenSpec.upto Rows.utfBackSpec) tabs.own started (by kernel_rfl) Tryd.func5
    (witness_row_at (enc := enc) (C := Tryd.checked) false (tabs.laidWorld os) #[.slice none 0 0] rfl (by kernel_rfl) (by kernel_rfl) (by kernel_rfl)
      (OpenSpec.preRow_of_cond 8 hx (by kernel_rfl) (fun k hk => by cases hk; kernel_rfl) (by kernel_rfl) (tabs.laid_met os _))) ?_
  intro W base args ds gs before hval hW _ hcond _ hL _ _
  exact contract H enc W base args ds gs before hval hW (hcond _ rfl) hL

theorem saidUpto : Rows.UtfBackUptoSaid :=
  OpenClaim.holds_of_cond 5 Tryd.f5 rfl rfl rfl rfl rfl rfl rfl ⟨rfl, rfl, rfl, rfl, rfl⟩ rfl rfl rfl rfl rfl (by kernel_rfl) Tryd.func5 (by kernel_rfl)
    (of_decide_eq_true (by kernel_rfl)) (by unfold Func.isWrapper; first | (rw [if_pos (by decide +kernel)]; kernel_rfl) | (rw [if_neg (by decide +kernel)]; exact ⟨rfl, rfl⟩))
    (fun os started H enc _ F => by rw [OpenClaim.pre_eq_preRow]; exact lifted os started H enc F)

theorem plain (f : FuncId) (fn : Func) (hf : Tryd.pinned.checked.prog.funcNamed Rows.utfBackUptoRow.func = some f) (hfn : Tryd.pinned.checked.prog.funcs[f]? = some fn) :
    false = Tryd.pinned.checked.prog.looks [] ∧ ∀ (j : Nat) t, fn.params[j]? = some t → Tryd.pinned.checked.prog.wantsStandIn t = false := by
  obtain rfl : f = 5 := Option.some.inj ((show Tryd.prog.funcNamed Rows.utfBackUptoRow.func = some 5 by kernel_rfl).symm.trans hf) |>.symm
  obtain rfl : fn = Tryd.f5 := (Option.some.inj (Tryd.func5.symm.trans hfn)).symm
  refine ⟨by kernel_rfl, fun j t ht => ?_⟩
  rw [Tryd.params5] at ht
  have hm := Array.mem_of_getElem? ht
  simp only [List.mem_toArray, List.mem_cons, List.mem_nil_iff, or_false] at hm
  subst hm
  exact (show Tryd.prog.wantsStandIn _ = false by kernel_rfl)

/-- the statement: the second form's card -/
theorem card : Rows.UtfBackUptoCardSaid :=
  Claim7.holds_tied_plain_at .later [] _ _ _ _ saidUpto (fun _ h => by cases h) (by kernel_rfl) (fun _ h => by cases h) utfBackUpto_row_tie rfl ⟨rfl, rfl⟩ (by kernel_rfl) rfl plain (by kernel_rfl)
#print axioms card
end Go.Proofs.YtomkkagopjpfkaaDoor.utfBack
