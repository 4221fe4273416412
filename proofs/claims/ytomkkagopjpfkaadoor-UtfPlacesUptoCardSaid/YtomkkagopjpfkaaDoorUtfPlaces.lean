/-
  UtfPlaces: for every list of characters and every number the law returns true, and the argument reads behind the call as before; where the arguments' values and letters are at most 1048576 in all.
-/
import Derived.Test.YtomkkagopjpfkaaDoorTabs
import Derived.Test.YtomkkagopjpfkaaDoorRefPlaces
import Derived.Test.YtomkkagopjpfkaaDoorAwake
namespace Go.Proofs.YtomkkagopjpfkaaDoor.utfPlaces
open Go.ChangeShapes Go.WideShapes Go.ChangeAt Go.RowKit
open Go.Proofs.YtomkkagopjpfkaaDoor.frame
open Go.Proofs.YtomkkagopjpfkaaDoor.words Go.Proofs.YtomkkagopjpfkaaDoor.enc Go.Proofs.YtomkkagopjpfkaaDoor.utf Go.Proofs.YtomkkagopjpfkaaDoor.dec Go.Proofs.YtomkkagopjpfkaaDoor.ref Go.Proofs.YtomkkagopjpfkaaDoor.ln Go.Proofs.YtomkkagopjpfkaaDoor.lines
set_option linter.unusedVariables false

set_option maxHeartbeats 2000000 in
theorem walk (A : Option Addr) (n c : Nat) (i : Int) (zs : List Int) (w : World) (hr : Rd w w.heap.size A (zs.map (Value.int .i32))) (hl : zs.length = n) (hn : n ≤ 1048576) (hT : Lib.Utf8Tabs 0 1 w) :
    Calls Tryd.prog 11 #[.slice A n c, .int .i64 i] w fun e w' => e = .returned (.bool true) ∧ Below w.heap.size w w' := by
  have HL := hide hl
  have HT := hide hT
  clear hl hT
  go_enter Tryd.func11, Tryd.ntmps11
  go_wp2_with fail
  refine (awake_any _ HT.out).mono ?_
  rintro e w1 ⟨rfl, hb1⟩
  go_wp2_with fail
  refine (copiedRunes_any A n c w.heap.size zs _ (hr.below hb1) hb1.size HL.out (by omega)).mono ?_
  rintro e w2 ⟨v2, rfl, hown2, hb2⟩
  obtain ⟨A2, c2, rfl, hn2, hm2⟩ := own_slice hown2
  have hB2 := hb1.trans (hb2.mono hb1.size)
  go_wp2_with fail
  refine (RefPlaces_any A2 n c2 w2.heap.size zs _ (Rd.of_own hown2) (Nat.le_refl _) HL.out (by omega)).mono ?_
  rintro e w3 ⟨v3, rfl, hown3, hb3⟩
  obtain ⟨A3, c3, rfl, hn3, hm3⟩ := own_slice hown3
  have hB3 := hB2.trans (hb3.mono hB2.size)
  go_wp2_with fail
  refine (copiedRunes_any A n c w.heap.size zs _ (hr.below hB3) hB3.size HL.out (by omega)).mono ?_
  rintro e w4 ⟨v4, rfl, hown4, hb4⟩
  obtain ⟨A4, c4, rfl, hn4, hm4⟩ := own_slice hown4
  have hB4 := hB3.trans (hb4.mono hB3.size)
  go_wp2_with fail
  refine (Places_any A4 n c4 w4.heap.size zs _ (Rd.of_own hown4) (Nat.le_refl _) HL.out (by omega)).mono ?_
  rintro e w5 ⟨v5, rfl, hown5, hb5⟩
  obtain ⟨A5, c5, rfl, hn5, hm5⟩ := own_slice hown5
  have hB5 := hB4.trans (hb5.mono hB4.size)
  have rd3 := (Rd.of_own hown3).below' (hb4.trans (hb5.mono hb4.size)) (Nat.le_refl _)
  have rd5 := Rd.of_own hown5
  have z35 := (hb4.trans (hb5.mono hb4.size)).size
  clear hown2 hown3 hown4 hown5 hb1 hb2 hb3 hb4 hb5 hB2 hB3 hB4
  go_wp2_with fail
  go_loopw [7] (fun i wr => ∃ k : Nat, k ≤ n + 1 ∧ i = .int .i64 k ∧ Below w5.heap.size w5 wr) (fun i _ => n + 1 - (intOf i).toNat)
  case atStart => exact ⟨0, Nat.zero_le _, rfl, Below.refl _ _⟩
  case round =>
    obtain ⟨k, hk, rfl, hb⟩ := hrel
    by_cases hlt : k < n + 1
    · have hkI : (k : Int) < (n : Int) + 1 := by omega
      obtain ⟨ad3, rfl, h31, h32, h33⟩ := rd_place (rd3.below' hb z35) hlt
      obtain ⟨ad5, rfl, h51, h52, h53⟩ := rd_place (rd5.below' hb (Nat.le_refl _)) hlt
      go_wp2_with fail
      go_quiet (fail)
      go_wp2_with fail
      go_roundw
      case rel => exact ⟨k + 1, by omega, by go_num, below_drewN' hb _⟩
      case measure => simp [intOf]; omega
    · have hBr := hB5.trans (hb.mono hB5.size)
      go_wp2_with fail
      refine (copiedRunes_any A n c w.heap.size zs _ (hr.below hBr) hBr.size HL.out (by omega)).mono ?_
      rintro e w6 ⟨v6, rfl, hown6, hb6⟩
      obtain ⟨A6, c6, rfl, hn6, hm6⟩ := own_slice hown6
      have hB6 := hBr.trans (hb6.mono hBr.size)
      go_wp2_with fail
      refine (Place_any A6 n c6 w6.heap.size i zs _ (Rd.of_own hown6) (Nat.le_refl _) HL.out (by omega)).mono ?_
      rintro e w7 ⟨rfl, hb7⟩
      have hB7 := hB6.trans (hb7.mono hB6.size)
      go_wp2_with fail
      refine (copiedRunes_any A n c w.heap.size zs _ (hr.below hB7) hB7.size HL.out (by omega)).mono ?_
      rintro e w8 ⟨v8, rfl, hown8, hb8⟩
      obtain ⟨A8, c8, rfl, hn8, hm8⟩ := own_slice hown8
      have hB8 := hB7.trans (hb8.mono hB7.size)
      go_wp2_with fail
      refine (RefPlace_any A8 n c8 w8.heap.size i zs _ (Rd.of_own hown8) (Nat.le_refl _) HL.out (by omega)).mono ?_
      rintro e w9 ⟨rfl, hb9⟩
      have hB9 := hB8.trans (hb9.mono hB8.size)
      go_wp2_with fail
      go_ret
      exact ⟨rfl, hB9⟩

/-! the frame -/
theorem cells_rune : Tryd.prog.cellsOf 21 = 1 := by kernel_rfl
theorem cells_byte : Tryd.prog.cellsOf 5 = 1 := by kernel_rfl
theorem cells_int : Tryd.prog.cellsOf 3 = 1 := by kernel_rfl
theorem cells_runes : Tryd.prog.cellsOf 26 = 1 := by kernel_rfl
theorem cells_bytes : Tryd.prog.cellsOf 24 = 1 := by kernel_rfl

/-- what the walk gives, for every argument within the bound and every world that holds the tables -/
theorem contract (H : Type) (enc : TypeId × Value → H) (W : World) (base : Nat) (args : Array Value) (ds gs : List (DataW H)) (before : List MemPlace)
    (hval : ∀ (j : Nat) t v, Tryd.f11.params[j]? = some t → args[j]? = some v → Value.okWide Tryd.prog W .any base t v)
    (hW : DataW.Whole enc Tryd.prog Tryd.f11.params.toList Rows.utfPlacesSpec.vars false W args.toList ds gs before) (hk : Rows.uptoSmall H (ds ++ gs) = true) (hL : laidMetH Tryd.prog tabs.laid2 W) :
    Calls Tryd.prog 11 args W fun e W' => ∃ v, e = .returned v ∧ Rows.utfPlacesSpec.post enc Tryd.prog Tryd.f11 false true false false W args v W' := by
  have hT : Lib.Utf8Tabs 0 1 W := tabs.tabs_of hL
  have hW' := hW
  obtain ⟨p, q, hA0, hV, rfl, hfz, hnd⟩ := hW
  have hA : DataW.TrodAll enc Tryd.prog W 0 (fun _ => true) true Tryd.f11.params.toList args.toList ds p := hA0
  rw [Tryd.params11] at hA hval
  obtain ⟨v0, vs0, d0, ds0, p0, q0, hargs, rfl, rfl, h0, r0⟩ := trodAll_cons hA
  obtain ⟨v1, vs1, d1, ds1, p1, q1, rfl, rfl, rfl, h1, r1⟩ := trodAll_cons r0
  obtain ⟨rfl, rfl, rfl⟩ := trodAll_nil r1
  obtain rfl : args = #[v0, v1] := by cases args; simp_all
  obtain ⟨rfl, rfl⟩ := trodVars_none hV
  have hbulk := tabs.bound hk
  simp only [List.append_nil, Rows.uptoBulkAll] at hbulk
  clear hk
  have fin : ∀ (e : Ending) (W' : World), (e = .returned (.bool true) ∧ Below W.heap.size W W') → ∃ v, e = .returned v ∧ Rows.utfPlacesSpec.post enc Tryd.prog Tryd.f11 false true false false W #[v0, v1] v W' := fun e W' ⟨he, hb⟩ => by
    subst he
    refine ⟨_, rfl, law_post rfl rfl rfl rfl tabs.laidOut ?_ (by kernel_rfl) Tryd.underlying4 hW' hb⟩
    rw [Tryd.params11]
    intro t ht
    simp only [List.mem_cons, List.mem_nil_iff, or_false] at ht
    rcases ht with rfl | rfl
    all_goals exact ⟨by kernel_rfl, of_decide_eq_true (by kernel_rfl)⟩
  obtain ⟨A, n, c, zs, rfl, hl0, hn0, hm0, hr0, hw0, hd0⟩ := rd_ints Tryd.underlying26 Tryd.underlying21 cells_rune (hval 0 26 v0 rfl rfl) h0
  have hs0 : n ≤ 1048576 := by
    rcases hd0 with ⟨_, h⟩ | ⟨r, hd, _⟩
    · omega
    · have i1 := tabs.slice_le (lits (H := H) .i32 zs) (lits .i32 r)
      rw [hd] at hbulk
      have e1 : (lits (H := H) .i32 zs).length = zs.length := by simp [lits]
      have e2 : (lits (H := H) .i32 r).length = r.length := by simp [lits]
      omega
  obtain ⟨i, rfl⟩ := okWide_int Tryd.underlying3 (hval 1 3 v1 rfl rfl)
  exact (walk A n c i zs W hr0 hl0 hs0 hT).mono fin

theorem reads (os : Os) {H : Type} (enc : TypeId × Value → H) : ∃ places, DataW.whole enc Tryd.prog ((tabs.laidWorld os).forCall (fun _ _ => 0) ⟨#[], #[.slice none 0 0, .int .i64 0], []⟩).memory Tryd.f11.params.toList Rows.utfPlacesSpec.vars false (#[.slice none 0 0, .int .i64 0] : Array Value).toList 8 = some ([.nil, .lit (.int .i64 0)], [], places) :=
  ⟨[], by kernel_rfl⟩

set_option maxRecDepth 100000 in
theorem lifted (os : Os) (started : os.Started) (H : Type) (enc : TypeId × Value → H) (F : Stop.Interp) :
    ReturnsInHanded {} Tryd.checked os 11 .any ((Rows.OpenSpec.upto Rows.utfPlacesSpec).preRow enc Tryd.prog Tryd.f11 Rows.utfPlacesUptoRow.domain false Rows.utfPlacesUptoRow.laid) (((Rows.OpenSpec.upto Rows.utfPlacesSpec).at F).post enc Tryd.prog Tryd.f11 false true false false) := by
  obtain ⟨places, hx⟩ := reads os enc
  refine returnsInHanded_of_row (C := Tryd.checked) (s := Rows.OpenSpec.upto Rows.utfPlacesSpec) tabs.own started (by kernel_rfl) Tryd.func11
    (witness_row_at (enc := enc) (C := Tryd.checked) false (tabs.laidWorld os) #[.slice none 0 0, .int .i64 0] rfl (by kernel_rfl) (by kernel_rfl) (by kernel_rfl)
      (OpenSpec.preRow_of_cond 8 hx (by kernel_rfl) (fun k hk => by cases hk; kernel_rfl) (by kernel_rfl) (tabs.laid_met os _))) ?_
  intro W base args ds gs before hval hW _ hcond _ hL _ _
  exact contract H enc W base args ds gs before hval hW (hcond _ rfl) hL

theorem saidUpto : Rows.UtfPlacesUptoSaid :=
  OpenClaim.holds_of_cond 11 Tryd.f11 rfl rfl rfl rfl rfl rfl rfl ⟨rfl, rfl, rfl, rfl, rfl⟩ rfl rfl rfl rfl rfl (by kernel_rfl) Tryd.func11 (by kernel_rfl)
    (of_decide_eq_true (by kernel_rfl)) (by unfold Func.isWrapper; first | (rw [if_pos (by decide +kernel)]; kernel_rfl) | (rw [if_neg (by decide +kernel)]; exact ⟨rfl, rfl⟩))
    (fun os started H enc _ F => by rw [OpenClaim.pre_eq_preRow]; exact lifted os started H enc F)

theorem plain (f : FuncId) (fn : Func) (hf : Tryd.pinned.checked.prog.funcNamed Rows.utfPlacesUptoRow.func = some f) (hfn : Tryd.pinned.checked.prog.funcs[f]? = some fn) :
    false = Tryd.pinned.checked.prog.looks [] ∧ ∀ (j : Nat) t, fn.params[j]? = some t → Tryd.pinned.checked.prog.wantsStandIn t = false := by
  obtain rfl : f = 11 := Option.some.inj ((show Tryd.prog.funcNamed Rows.utfPlacesUptoRow.func = some 11 by kernel_rfl).symm.trans hf) |>.symm
  obtain rfl : fn = Tryd.f11 := (Option.some.inj (Tryd.func11.symm.trans hfn)).symm
  refine ⟨by kernel_rfl, fun j t ht => ?_⟩
  rw [Tryd.params11] at ht
  have hm := Array.mem_of_getElem? ht
  simp only [List.mem_toArray, List.mem_cons, List.mem_nil_iff, or_false] at hm
  rcases hm with rfl | rfl
  all_goals exact (show Tryd.prog.wantsStandIn _ = false by kernel_rfl)

/-- the statement: the second form's card -/
theorem card : Rows.UtfPlacesUptoCardSaid :=
  Claim7.holds_tied_plain_at .later [] _ _ _ _ saidUpto (fun _ h => by cases h) (by kernel_rfl) (fun _ h => by cases h) utfPlacesUpto_row_tie rfl ⟨rfl, rfl⟩ (by kernel_rfl) rfl plain (by kernel_rfl)
#print axioms card
end Go.Proofs.YtomkkagopjpfkaaDoor.utfPlaces
