/-
  UtfLines: for every list of characters the law returns true, and the argument reads behind the call as before; where the argument's values and letters are at most 1048576 in all.
-/
import Derived.Test.YtomkkagopjpfkaaDoorTabs
import Derived.Test.YtomkkagopjpfkaaDoorRefLines
import Derived.Test.YtomkkagopjpfkaaDoorAwake
namespace Go.Proofs.YtomkkagopjpfkaaDoor.utfLines
open Go.ChangeShapes Go.WideShapes Go.ChangeAt Go.RowKit
open Go.Proofs.YtomkkagopjpfkaaDoor.frame
open Go.Proofs.YtomkkagopjpfkaaDoor.words Go.Proofs.YtomkkagopjpfkaaDoor.enc Go.Proofs.YtomkkagopjpfkaaDoor.utf Go.Proofs.YtomkkagopjpfkaaDoor.dec Go.Proofs.YtomkkagopjpfkaaDoor.ref Go.Proofs.YtomkkagopjpfkaaDoor.ln Go.Proofs.YtomkkagopjpfkaaDoor.lines
set_option linter.unusedVariables false

/-- a list of lists that can be read -/
def RowsRd (w : World) (B : Nat) (A : Option Addr) (L : List (List Int)) : Prop :=
  ∀ (j : Nat) (l : List Int), L[j]? = some l → ∃ ad Aj cj, A = some ad ∧ ad.block < B ∧ w.cell? (ad.add j) = some (.slice Aj l.length cj) ∧ Rd w B Aj (l.map (Value.int .i32))
theorem rows_rd {w : World} {B n c : Nat} {A : Option Addr} {cs : List Value} {L : List (List Int)} (h : w.ownsRow B 26 1 (.slice A n c) n cs) (hr : RowsOwn w B cs L) : RowsRd w w.heap.size A L := by
  intro j l hl
  obtain ⟨v, hv, ho⟩ := hr.rows j l hl
  obtain ⟨Aj, cj, rfl, _, _⟩ := own_slice ho
  obtain ⟨hj, hvj⟩ := List.getElem?_eq_some_iff.1 hv
  obtain ⟨ad, e, hb, hc⟩ := (Rd.of_own h).at (k := j) hj
  exact ⟨ad, Aj, cj, e, hb, by rw [hc, hvj], Rd.of_own ho⟩
theorem rowsrd_below {w w' : World} {B C : Nat} {A : Option Addr} {L : List (List Int)} (h : RowsRd w B A L) (hb : Below C w w') (hC : B ≤ C) : RowsRd w' B A L := by
  intro j l hl
  obtain ⟨ad, Aj, cj, e, h1, h2, h3⟩ := h j l hl
  exact ⟨ad, Aj, cj, e, h1, (hb.cell (by rw [add_block]; omega)).trans h2, h3.below' hb hC⟩

theorem walk (A : Option Addr) (n c : Nat) (zs : List Int) (w : World) (hr : Rd w w.heap.size A (zs.map (Value.int .i32))) (hl : zs.length = n) (hn : n ≤ 1048576) (hT : Lib.Utf8Tabs 0 1 w) :
    Calls Tryd.prog 4 #[.slice A n c] w fun e w' => e = .returned (.bool true) ∧ Below w.heap.size w w' := by
  have HL := hide hl
  have HT := hide hT
  clear hl hT
  go_enter Tryd.func4, Tryd.ntmps4
  go_wp2_with fail
  refine (awake_any _ HT.out).mono ?_
  rintro e w1 ⟨rfl, hb1⟩
  go_wp2_with fail
  refine (copiedRunes_any A n c w.heap.size zs _ (hr.below hb1) hb1.size HL.out (by omega)).mono ?_
  rintro e w2 ⟨v2, rfl, hown2, hb2⟩
  obtain ⟨A2, c2, rfl, hn2, hm2⟩ := own_slice hown2
  have hB2 := hb1.trans (hb2.mono hb1.size)
  go_wp2_with fail
  refine (RefLines_any A2 n c2 w2.heap.size zs _ (Rd.of_own hown2) (Nat.le_refl _) HL.out hn2 hm2 (by omega)).mono ?_
  rintro e w3 ⟨v3, cs3, rfl, hown3, hrows3, hb3⟩
  have hB3 := hB2.trans (hb3.mono hB2.size)
  go_wp2_with fail
  refine (copiedRunes_any A n c w.heap.size zs _ (hr.below hB3) hB3.size HL.out (by omega)).mono ?_
  rintro e w4 ⟨v4, rfl, hown4, hb4⟩
  obtain ⟨A4, c4, rfl, hn4, hm4⟩ := own_slice hown4
  have hB4 := hB3.trans (hb4.mono hB3.size)
  go_wp2_with fail
  refine (Lines_any A4 n c4 w4.heap.size zs _ (Rd.of_own hown4) (Nat.le_refl _) HL.out (by omega)).mono ?_
  rintro e w5 ⟨v5, cs5, rfl, hown5, hrows5, hb5⟩
  have hB5 := hB4.trans (hb5.mono hB4.size)
  have hb35 := hb4.trans (hb5.mono hb4.size)
  obtain ⟨m, hm⟩ : ∃ m, (linesOf zs).length = m := ⟨_, rfl⟩
  have hmn : m ≤ n + 1 := by rw [← hm, lines_len, HL.out]; exact starts_len zs n
  have hm3 := hrows3.len
  have hm5 := hrows5.len
  rw [hm] at hm3 hm5
  rw [hm3] at hown3
  rw [hm5] at hown5
  obtain ⟨A3, c3, rfl, _, _⟩ := own_slice hown3
  obtain ⟨A5, c5, rfl, _, _⟩ := own_slice hown5
  have rd3 := rowsrd_below (rows_rd hown3 hrows3) hb35 (Nat.le_refl _)
  have rd5 := rows_rd hown5 hrows5
  have z35 := hb35.size
  have HM := hide hm
  have hle : ∀ (j : Nat) (l : List Int), (linesOf zs)[j]? = some l → l.length ≤ n := fun j l hl => by
    obtain ⟨v, _, ho⟩ := hrows5.rows j l hl
    rw [← HL.out]
    exact line_le hl
  have HLE := hide hle
  clear hle hm hm3 hm5 hown3 hown5 hrows3 hrows5 hb35 hb1 hb2 hb3 hb4 hb5 hown2 hown4 hr
  go_wp2_with fail
  go_loopw [5] (fun i wr => ∃ k : Nat, k ≤ m ∧ i = .int .i64 k ∧ Below w5.heap.size w5 wr) (fun i _ => m - (intOf i).toNat)
  case atStart => exact ⟨0, Nat.zero_le _, rfl, Below.refl _ _⟩
  case round =>
    obtain ⟨k, hk, rfl, hb⟩ := hrel
    by_cases hlt : k < m
    · obtain ⟨l, hl⟩ : ∃ l, (linesOf zs)[k]? = some l := ⟨(linesOf zs)[k]'(by rw [HM.out]; exact hlt), List.getElem?_eq_getElem _⟩
      obtain ⟨ad3, B3, d3, rfl, h31, h32, h33⟩ := (rowsrd_below rd3 hb z35) k l hl
      obtain ⟨ad5, B5, d5, rfl, h51, h52, h53⟩ := (rowsrd_below rd5 hb (Nat.le_refl _)) k l hl
      have hln := HLE.out k l hl
      clear hl
      have hkI : (k : Int) < (m : Int) := by omega
      go_wp2_with fail
      go_quiet ((go_at_call 19; exact Calls.quiet_of (alike_yes B5 B3 l.length d5 d3 w5.heap.size w3.heap.size l _ h53 h33 rfl (by simp only [maxLen]; omega))))
      go_wp2_with fail
      go_roundw
      case rel => exact ⟨k + 1, by omega, by go_num, below_drewN' hb _⟩
      case measure => simp [intOf]; omega
    · go_wp2_with fail
      go_ret
      exact ⟨rfl, hB5.trans (hb.mono hB5.size)⟩

/-! the frame -/
theorem cells_rune : Tryd.prog.cellsOf 21 = 1 := by kernel_rfl
theorem cells_byte : Tryd.prog.cellsOf 5 = 1 := by kernel_rfl
theorem cells_int : Tryd.prog.cellsOf 3 = 1 := by kernel_rfl
theorem cells_runes : Tryd.prog.cellsOf 26 = 1 := by kernel_rfl
theorem cells_bytes : Tryd.prog.cellsOf 24 = 1 := by kernel_rfl

/-- what the walk gives, for every argument within the bound and every world that holds the tables -/
theorem contract (H : Type) (enc : TypeId × Value → H) (W : World) (base : Nat) (args : Array Value) (ds gs : List (DataW H)) (before : List MemPlace)
    (hval : ∀ (j : Nat) t v, Tryd.f4.params[j]? = some t → args[j]? = some v → Value.okWide Tryd.prog W .any base t v)
    (hW : DataW.Whole enc Tryd.prog Tryd.f4.params.toList Rows.utfLinesSpec.vars false W args.toList ds gs before) (hk : Rows.uptoSmall H (ds ++ gs) = true) (hL : laidMetH Tryd.prog tabs.laid2 W) :
    Calls Tryd.prog 4 args W fun e W' => ∃ v, e = .returned v ∧ Rows.utfLinesSpec.post enc Tryd.prog Tryd.f4 false true false false W args v W' := by
  have hT : Lib.Utf8Tabs 0 1 W := tabs.tabs_of hL
  have hW' := hW
  obtain ⟨p, q, hA0, hV, rfl, hfz, hnd⟩ := hW
  have hA : DataW.TrodAll enc Tryd.prog W 0 (fun _ => true) true Tryd.f4.params.toList args.toList ds p := hA0
  rw [Tryd.params4] at hA hval
  obtain ⟨v0, vs0, d0, ds0, p0, q0, hargs, rfl, rfl, h0, r0⟩ := trodAll_cons hA
  obtain ⟨rfl, rfl, rfl⟩ := trodAll_nil r0
  obtain rfl : args = #[v0] := by cases args; simp_all
  obtain ⟨rfl, rfl⟩ := trodVars_none hV
  have hbulk := tabs.bound hk
  simp only [List.append_nil, Rows.uptoBulkAll] at hbulk
  clear hk
  have fin : ∀ (e : Ending) (W' : World), (e = .returned (.bool true) ∧ Below W.heap.size W W') → ∃ v, e = .returned v ∧ Rows.utfLinesSpec.post enc Tryd.prog Tryd.f4 false true false false W #[v0] v W' := fun e W' ⟨he, hb⟩ => by
    subst he
    refine ⟨_, rfl, law_post rfl rfl rfl rfl tabs.laidOut ?_ (by kernel_rfl) Tryd.underlying4 hW' hb⟩
    rw [Tryd.params4]
    intro t ht
    simp only [List.mem_cons, List.mem_nil_iff, or_false] at ht
    subst ht
    exact ⟨by kernel_rfl, of_decide_eq_true (by kernel_rfl)⟩
  obtain ⟨A, n, c, zs, rfl, hl, h1, h2, hr, hw, hd⟩ := rd_ints Tryd.underlying26 Tryd.underlying21 cells_rune (hval 0 26 v0 rfl rfl) h0
  have hn : n ≤ 1048576 := by
    rcases hd with ⟨_, h⟩ | ⟨r, hd, _⟩
    · omega
    · have i1 := tabs.slice_le (lits (H := H) .i32 zs) (lits .i32 r)
      rw [hd] at hbulk
      have e1 : (lits (H := H) .i32 zs).length = zs.length := by simp [lits]
      have e2 : (lits (H := H) .i32 r).length = r.length := by simp [lits]
      omega
  exact (walk A n c zs W hr hl hn hT).mono fin

theorem reads (os : Os) {H : Type} (enc : TypeId × Value → H) : ∃ places, DataW.whole enc Tryd.prog ((tabs.laidWorld os).forCall (fun _ _ => 0) ⟨#[], #[.slice none 0 0], []⟩).memory Tryd.f4.params.toList Rows.utfLinesSpec.vars false (#[.slice none 0 0] : Array Value).toList 8 = some ([.nil], [], places) :=
  ⟨[], by kernel_rfl⟩

set_option maxRecDepth 100000 in
theorem lifted (os : Os) (started : os.Started) (H : Type) (enc : TypeId × Value → H) (F : Stop.Interp) :
    ReturnsInHanded {} Tryd.checked os 4 .any ((Rows.OpenSpec.upto Rows.utfLinesSpec).preRow enc Tryd.prog Tryd.f4 Rows.utfLinesUptoRow.domain false Rows.utfLinesUptoRow.laid) (((Rows.OpenSpec.upto Rows.utfLinesSpec).at F).post enc Tryd.prog Tryd.f4 false true false false) := by
  obtain ⟨places, hx⟩ := reads os enc
  refine returnsInHanded_of_row (C := Tryd.checked) (s := Rows.OpenSpec.upto Rows.utfLinesSpec) tabs.own started (by kernel_rfl) Tryd.func4
    (witness_row_at (enc := enc) (C := Tryd.checked) false (tabs.laidWorld os) #[.slice none 0 0] rfl (by kernel_rfl) (by kernel_rfl) (by kernel_rfl)
      (OpenSpec.preRow_of_cond 8 hx (by kernel_rfl) (fun k hk => by cases hk; kernel_rfl) (by kernel_rfl) (tabs.laid_met os _))) ?_
  intro W base args ds gs before hval hW _ hcond _ hL _ _
  exact contract H enc W base args ds gs before hval hW (hcond _ rfl) hL

theorem saidUpto : Rows.UtfLinesUptoSaid :=
  OpenClaim.holds_of_cond 4 Tryd.f4 rfl rfl rfl rfl rfl rfl rfl ⟨rfl, rfl, rfl, rfl, rfl⟩ rfl rfl rfl rfl rfl (by kernel_rfl) Tryd.func4 (by kernel_rfl)
    (of_decide_eq_true (by kernel_rfl)) (by unfold Func.isWrapper; first | (rw [if_pos (by decide +kernel)]; kernel_rfl) | (rw [if_neg (by decide +kernel)]; exact ⟨rfl, rfl⟩))
    (fun os started H enc _ F => by rw [OpenClaim.pre_eq_preRow]; exact lifted os started H enc F)

theorem plain (f : FuncId) (fn : Func) (hf : Tryd.pinned.checked.prog.funcNamed Rows.utfLinesUptoRow.func = some f) (hfn : Tryd.pinned.checked.prog.funcs[f]? = some fn) :
    false = Tryd.pinned.checked.prog.looks [] ∧ ∀ (j : Nat) t, fn.params[j]? = some t → Tryd.pinned.checked.prog.wantsStandIn t = false := by
  obtain rfl : f = 4 := Option.some.inj ((show Tryd.prog.funcNamed Rows.utfLinesUptoRow.func = some 4 by kernel_rfl).symm.trans hf) |>.symm
  obtain rfl : fn = Tryd.f4 := (Option.some.inj (Tryd.func4.symm.trans hfn)).symm
  refine ⟨by kernel_rfl, fun j t ht => ?_⟩
  rw [Tryd.params4] at ht
  have hm := Array.mem_of_getElem? ht
  simp only [List.mem_toArray, List.mem_cons, List.mem_nil_iff, or_false] at hm
  subst hm
  exact (show Tryd.prog.wantsStandIn _ = false by kernel_rfl)

/-- the statement: the second form's card -/
theorem card : Rows.UtfLinesUptoCardSaid :=
  Claim7.holds_tied_plain_at .later [] _ _ _ _ saidUpto (fun _ h => by cases h) (by kernel_rfl) (fun _ h => by cases h) utfLinesUpto_row_tie rfl ⟨rfl, rfl⟩ (by kernel_rfl) rfl plain (by kernel_rfl)
#print axioms card
end Go.Proofs.YtomkkagopjpfkaaDoor.utfLines
