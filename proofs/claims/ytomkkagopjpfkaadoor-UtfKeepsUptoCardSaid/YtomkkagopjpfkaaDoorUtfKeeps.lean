/-
  UtfKeeps: for every list of characters and every character the law returns true, and the arguments read behind the call as before; where the arguments' values and letters are at most 1048576 in all.
-/
import Derived.Test.YtomkkagopjpfkaaDoorTabs
import Derived.Test.YtomkkagopjpfkaaDoorLined
import Derived.Test.YtomkkagopjpfkaaDoorAwake
namespace Go.Proofs.YtomkkagopjpfkaaDoor.utfKeeps
open Go.ChangeShapes Go.WideShapes Go.ChangeAt Go.RowKit
open Go.Proofs.YtomkkagopjpfkaaDoor.frame
open Go.Proofs.YtomkkagopjpfkaaDoor.words Go.Proofs.YtomkkagopjpfkaaDoor.enc Go.Proofs.YtomkkagopjpfkaaDoor.utf Go.Proofs.YtomkkagopjpfkaaDoor.dec Go.Proofs.YtomkkagopjpfkaaDoor.ref Go.Proofs.YtomkkagopjpfkaaDoor.ln Go.Proofs.YtomkkagopjpfkaaDoor.lines
set_option linter.unusedVariables false

theorem take_front {w : World} {B n : Nat} {A : Option Addr} {zs : List Int} (hr : Rd w B A ((zs ++ marks).map (Value.int .i32))) (hl : zs.length = n) : Rd w B A (zs.map (Value.int .i32)) := by
  have hrt := hr.take n
  rw [← List.map_take, List.take_append_of_le_length (by omega), List.take_of_length_le (by omega)] at hrt
  exact hrt

set_option maxRecDepth 100000 in
set_option maxHeartbeats 8000000 in
theorem walk (A : Option Addr) (n c : Nat) (oth : Int) (zs : List Int) (w : World) (hr : Rd w w.heap.size A (zs.map (Value.int .i32))) (hl : zs.length = n) (hf : Fits zs) (ho : -2147483648 ≤ oth ∧ oth ≤ 2147483647) (hn : n ≤ 1048576) (hT : Lib.Utf8Tabs 0 1 w) :
    Calls Tryd.prog 9 #[.slice A n c, .int .i32 oth] w fun e w' => e = .returned (.bool true) ∧ Below w.heap.size w w' := by
  obtain ⟨i1, hi1, hz3, hz4, hz5⟩ := info_parts slice_info
  have HL := hide hl
  have HT := hide hT
  have HF := hide hf
  have HO := hide ho
  clear hl hT hf ho
  go_enter Tryd.func9, Tryd.ntmps9
  go_wp2_with fail
  refine (awake_any _ HT.out).mono ?_
  rintro e w1 ⟨rfl, hb1⟩
  go_wp2_with fail
  refine (copiedRunes_any A n c w.heap.size zs _ (hr.below hb1) hb1.size HL.out (by omega)).mono ?_
  rintro e w2 ⟨v2, rfl, hown2, hb2⟩
  obtain ⟨A2, c2, rfl, hn2, hm2⟩ := own_slice hown2
  have hB2 := hb1.trans (hb2.mono hb1.size)
  go_wp2_with fail
  refine (roomy_any A2 n c2 w2.heap.size zs _ (Rd.of_own hown2) (Nat.le_refl _) HL.out (by omega)).mono ?_
  rintro e w3 ⟨v3, rfl, hown3, hb3⟩
  obtain ⟨A3, c3, rfl, hn3, hm3⟩ := own_slice hown3
  obtain ⟨g3, rfl, hg31, hg32, _⟩ := own_form hown3 (by omega)
  have hB3 := hB2.trans (hb3.mono hB2.size)
  have h2lt : Hid (∀ g, (Value.slice A2 n c2).ownBlock = some g → w1.heap.size ≤ g ∧ g < w2.heap.size) := fun g h => hown2.lt g h
  have hown2 := own_below hown2 hb3
  have hc3 : n ≤ c3 := by omega
  have za := hb1.size
  have zb := hb2.size
  have zc := hb3.size
  go_wp2_with fail
  refine (Lines_any _ n c3 w3.heap.size zs _ (take_front (Rd.of_own hown3) HL.out) (Nat.le_refl _) HL.out (by omega)).mono ?_
  rintro e w4 ⟨v4, cs4, rfl, hown4, hrows4, hb4⟩
  obtain ⟨m, hm⟩ : ∃ m, (linesOf zs).length = m := ⟨_, rfl⟩
  have hmn : m ≤ n + 1 := by rw [← hm, lines_len, HL.out]; exact starts_len zs n
  have hm4 := hrows4.len
  rw [hm] at hm4
  rw [hm4] at hown4
  have HM := hide hm
  clear hm
  obtain ⟨A4, c4, rfl, _, _⟩ := own_slice hown4
  have hB4 := hB3.trans (hb4.mono hB3.size)
  have hown2 := own_below hown2 hb4
  have hown3 := own_below hown3 hb4
  go_wp2_with fail
  refine (Lines_any _ n c3 w4.heap.size zs _ (take_front (Rd.of_own hown3) HL.out) (Nat.le_refl _) HL.out (by omega)).mono ?_
  rintro e w5 ⟨v5, cs5, rfl, hown5, hrows5, hb5⟩
  have hm5 := hrows5.len
  rw [HM.out] at hm5
  rw [hm5] at hown5
  obtain ⟨A5, c5, rfl, _, _⟩ := own_slice hown5
  have hB5 := hB4.trans (hb5.mono hB4.size)
  have H4lt := hide (rows_lt hrows4)
  have hown2 := own_below hown2 hb5
  have hown3 := own_below hown3 hb5
  have hown4 := own_below hown4 hb5
  have hrows4 := rows_below hrows4 hb5
  go_wp2_with fail
  refine (Encode_any _ n c3 w5.heap.size zs _ (take_front (Rd.of_own hown3) HL.out) (Nat.le_refl _) HL.out HF.out (by omega)).mono ?_
  rintro e w6 ⟨rfl, hb6⟩
  have hB6 := hB5.trans (hb6.mono hB5.size)
  have hown2 := own_below hown2 hb6
  have hown3 := own_below hown3 hb6
  have hown4 := own_below hown4 hb6
  have hown5 := own_below hown5 hb6
  have hrows4 := rows_below hrows4 hb6
  have hrows5 := rows_below hrows5 hb6
  go_wp2_with fail
  refine (RefEncode_any A2 n c2 w6.heap.size zs _ (Rd.of_own hown2) (Nat.le_refl _) HL.out (by omega)).mono ?_
  rintro e w7 ⟨rfl, hb7⟩
  have hB7 := hB6.trans (hb7.mono hB6.size)
  have hown2 := own_below hown2 hb7
  have hown3 := own_below hown3 hb7
  have hown4 := own_below hown4 hb7
  have hown5 := own_below hown5 hb7
  have hrows4 := rows_below hrows4 hb7
  have hrows5 := rows_below hrows5 hb7
  go_wp2_with fail
  refine (untouched_any _ A2 n c3 c2 w7.heap.size w7.heap.size zs _ (Rd.of_own hown3) (Rd.of_own hown2) HL.out (by omega) (by omega)).mono ?_
  rintro e wx ⟨rfl, q, rfl⟩
  have hb8 : Below w7.heap.size w7 (w7.drewN q) := below_drewN' (Below.refl _ _) q
  generalize w7.drewN q = w8 at hb8 ⊢
  have hB8 := hB7.trans (hb8.mono hB7.size)
  have hown2 := own_below hown2 hb8
  have hown3 := own_below hown3 hb8
  have hown4 := own_below hown4 hb8
  have hown5 := own_below hown5 hb8
  have hrows4 := rows_below hrows4 hb8
  have hrows5 := rows_below hrows5 hb8
  go_wp2_with fail
  refine (lined_any A4 A2 m n c4 c2 w8.heap.size w8.heap.size zs _ (rows_rd hown4 hrows4) HM.out (Rd.of_own hown2) (Nat.le_refl _) (Nat.le_refl _) HL.out hn2 hm2 (by omega)).mono ?_
  rintro e w9 ⟨rfl, hb9⟩
  have hB9 := hB8.trans (hb9.mono hB8.size)
  have hown2 := own_below hown2 hb9
  have hown3 := own_below hown3 hb9
  have hown4 := own_below hown4 hb9
  have hown5 := own_below hown5 hb9
  have hrows4 := rows_below hrows4 hb9
  have hrows5 := rows_below hrows5 hb9
  go_wp2_with fail
  refine (lined_any A5 A2 m n c5 c2 w9.heap.size w9.heap.size zs _ (rows_rd hown5 hrows5) HM.out (Rd.of_own hown2) (Nat.le_refl _) (Nat.le_refl _) HL.out hn2 hm2 (by omega)).mono ?_
  rintro e w10 ⟨rfl, hb10⟩
  have hB10 := hB9.trans (hb10.mono hB9.size)
  have hown2 := own_below hown2 hb10
  have hown3 := own_below hown3 hb10
  have hown4 := own_below hown4 hb10
  have hown5 := own_below hown5 hb10
  have hrows4 := rows_below hrows4 hb10
  have hrows5 := rows_below hrows5 hb10
  have z310 : w3.heap.size ≤ w10.heap.size := Nat.le_trans hb4.size (Nat.le_trans hb5.size (Nat.le_trans hb6.size (Nat.le_trans hb7.size (Nat.le_trans hb8.size (Nat.le_trans hb9.size hb10.size)))))
  have hC10 : Below w3.heap.size w3 w10 := (((((hb4.trans (hb5.mono hb4.size)).trans (hb6.mono (hb4.trans (hb5.mono hb4.size)).size)).trans (hb7.mono (Nat.le_trans hb4.size (Nat.le_trans hb5.size hb6.size)))).trans (hb8.mono (Nat.le_trans hb4.size (Nat.le_trans hb5.size (Nat.le_trans hb6.size hb7.size))))).trans (hb9.mono (Nat.le_trans hb4.size (Nat.le_trans hb5.size (Nat.le_trans hb6.size (Nat.le_trans hb7.size hb8.size)))))).trans (hb10.mono (Nat.le_trans hb4.size (Nat.le_trans hb5.size (Nat.le_trans hb6.size (Nat.le_trans hb7.size (Nat.le_trans hb8.size hb9.size))))))
  have hrowsAB := rows_app hrows4 hrows5 hb4.size H4lt.out
  go_wp2_with (at_builtin; refine wpList_append_rd _ rfl _ _ 28 rfl w3.heap.size 26 i1 (.slice none 0 0) 1 24 Tryd.underlying28 hi1 hz3 hz4 hz5 rfl (by decide) _ _ _ rfl hown4 w10.heap.size A5 m c5 cs5 rfl ?c1 (Rd.of_own hown5) (rows_one hrows5) ?c3 ?c4 z310 ?_)
  case c1 => rw [Nat.mul_one]; exact hm5
  case c3 => simp only [maxLen]; omega
  case c4 => omega
  intro v11 w11 hown11 hg11 hat11
  have hrows11 := rows_kept hrowsAB hg11 (fun v hv => by
    obtain ⟨l, hl⟩ := rows_of_mem hrowsAB hv
    exact own_types hl hown4 (by decide))
  have hb11 := below_append (Below.refl w3.heap.size w10) hown4 (Nat.le_refl _) hg11 z310
  obtain ⟨A11, c11, rfl, _, _⟩ := own_slice hown11
  have hown2 := own_far hown2 hb11 (fun g hg => by have := h2lt.out g hg; omega)
  have hown3 := own_far hown3 hb11 (fun g hg => by injection hg with hg; have hg : g3 = g := hg; omega)
  have hB11 := hB10.trans (hb11.mono (Nat.le_trans za (Nat.le_trans zb zc)))
  have z311 := hb11.size
  go_wp2_with fail
  refine (apart_any A11 (m + m) c11 w3.heap.size _ _ _ hown11 hrows11 (by omega) (by omega) (fun l hl => ?_)).mono ?_
  · have : l ∈ linesOf zs := by rcases List.mem_append.1 hl with h | h <;> exact h
    obtain ⟨j, hj⟩ := List.getElem?_of_mem this
    have := line_le hj
    have := HL.out
    omega
  rintro e w12 ⟨rfl, hb12⟩
  have hB12 := hB11.trans (hb12.mono (Nat.le_trans za (Nat.le_trans zb zc)))
  have hown2 := own_far hown2 hb12 (fun g hg => by have := h2lt.out g hg; omega)
  have hown3 := own_far hown3 hb12 (fun g hg => by injection hg with hg; have hg : g3 = g := hg; omega)
  clear hown11 hrows11 hrowsAB hown4 hown5 hrows4 hrows5 hC10 hb1 hb2 hb3 hb4 hb5 hb6 hb7 hb8 hb9 hb10 hb11 hB2 hB3 hB4 hB5 hB6 hB7 hB8 hB9 hB10 hB11
  go_wp2_with fail
  refine (untouched_any _ A2 n c3 c2 w12.heap.size w12.heap.size zs _ (Rd.of_own hown3) (Rd.of_own hown2) HL.out (by omega) (by omega)).mono ?_
  rintro e wx ⟨rfl, q2, rfl⟩
  have hb13 : Below w12.heap.size w12 (w12.drewN q2) := below_drewN' (Below.refl _ _) q2
  generalize w12.drewN q2 = w13 at hb13 ⊢
  have hB13 := hB12.trans (hb13.mono hB12.size)
  have hown2 := own_below hown2 hb13
  have hown3 := own_below hown3 hb13
  go_wp2_with fail
  go_loopw [14] (fun i wr => ∃ k : Nat, k ≤ n ∧ i = .int .i64 k ∧ wr.ownsRow w1.heap.size 21 1 (.slice A2 n c2) n ((over k oth zs).map (Value.int .i32)) ∧
    wr.ownsRow w2.heap.size 21 1 (.slice (some ⟨g3, 0, none⟩) (n + 40) c3) (n + 40) ((over k oth (zs ++ marks)).map (Value.int .i32)) ∧ Below w.heap.size w wr) (fun i _ => n - (intOf i).toNat)
  case atStart => exact ⟨0, Nat.zero_le _, rfl, by rw [over_zero]; exact hown2, by rw [over_zero]; exact hown3, hB13⟩
  case round =>
    clear hown2 hown3 hB13 hB12 hb12 hb13
    obtain ⟨k, hk, rfl, hown2, hown3, hb⟩ := hrel
    by_cases hlt : k < n
    · have hkI : (k : Int) < (n : Int) := by omega
      obtain ⟨g2, rfl, _, _, _⟩ := own_form hown2 (by omega)
      obtain ⟨h21, h22⟩ := h2lt.out g2 rfl
      obtain ⟨z2, _, hc2⟩ := own_has .i32 hown2 hlt
      have hf2 := hown2.frozenAt k
      have hown3s := own_set (i := k) hown3 (g := g2) (by intro e; injection e with e; have e : g3 = g2 := e; omega) (.int .i32 oth)
      obtain ⟨z3, _, hc3'⟩ := own_has (k := k) .i32 hown3s (by omega)
      have hf3 := hown3s.frozenAt k
      have hown2s := own_set (i := k) (own_store (k := k) .i32 oth hown2) (g := g3) (by intro e; injection e with e; have e : g2 = g3 := e; omega) (.int .i32 oth)
      have hown3t := own_store (k := k) .i32 oth hown3s
      rw [over_set (by rw [HL.out]; exact hlt)] at hown2s
      rw [over_set (by rw [List.length_append, HL.out]; omega)] at hown3t
      have hkI2 : (k : Int) < (n : Int) + 40 := by omega
      go_wp2_with fail
      go_roundw
      case rel => exact ⟨k + 1, by omega, by go_num, hown2s, hown3t, (hb.setCell (by show w.heap.size ≤ g2; omega) _).setCell (by show w.heap.size ≤ g3; omega) _⟩
      case measure => simp [intOf]; omega
    · obtain rfl : k = n := by omega
      rw [over_app (by rw [HL.out]; exact Nat.le_refl _), over_all HL.out] at hown3
      rw [over_all HL.out] at hown2
      obtain ⟨ys, hys⟩ : ∃ ys, List.replicate k oth = ys := ⟨_, rfl⟩
      have HY : Hid (ys.length = k) := by rw [← hys]; exact List.length_replicate
      have HYF : Hid (Fits ys) := by
        rw [← hys]
        intro z hz
        rw [(List.mem_replicate.1 hz).2]
        exact HO.out
      rw [hys] at hown2 hown3
      clear hys
      obtain ⟨wo2, hwo⟩ : ∃ wo : World, wo = wr := ⟨_, rfl⟩
      rw [← hwo] at hown2 hown3 hb ⊢
      clear hwo wr
      go_wp2_with fail
      refine (Encode_any _ k c3 wo2.heap.size ys _ (take_front (Rd.of_own hown3) HY.out) (Nat.le_refl _) HY.out HYF.out (by omega)).mono ?_
      rintro e w14 ⟨rfl, hb14⟩
      have hB14 := hb.trans (hb14.mono hb.size)
      have hown2 := own_below hown2 hb14
      have hown3 := own_below hown3 hb14
      go_wp2_with fail
      refine (RefEncode_any A2 k c2 w14.heap.size ys _ (Rd.of_own hown2) (Nat.le_refl _) HY.out (by omega)).mono ?_
      rintro e w15 ⟨rfl, hb15⟩
      have hB15 := hB14.trans (hb15.mono hB14.size)
      have hown2 := own_below hown2 hb15
      have hown3 := own_below hown3 hb15
      go_wp2_with fail
      refine (Lines_any _ k c3 w15.heap.size ys _ (take_front (Rd.of_own hown3) HY.out) (Nat.le_refl _) HY.out (by omega)).mono ?_
      rintro e w16 ⟨v16, cs16, rfl, hown16, hrows16, hb16⟩
      have hB16 := hB15.trans (hb16.mono hB15.size)
      have hown2 := own_below hown2 hb16
      have hown3 := own_below hown3 hb16
      have hm16 := hrows16.len
      obtain ⟨m2, hm2'⟩ : ∃ m, (linesOf ys).length = m := ⟨_, rfl⟩
      rw [hm2'] at hm16
      rw [hm16] at hown16
      obtain ⟨A16, c16, rfl, _, _⟩ := own_slice hown16
      have HM2 := hide hm2'
      clear hm2' hm16
      go_wp2_with fail
      refine (lined_any A16 A2 m2 k c16 c2 w16.heap.size w16.heap.size ys _ (rows_rd hown16 hrows16) HM2.out (Rd.of_own hown2) (Nat.le_refl _) (Nat.le_refl _) HY.out hn2 hm2 (by omega)).mono ?_
      rintro e w17 ⟨rfl, hb17⟩
      have hB17 := hB16.trans (hb17.mono hB16.size)
      have hown2 := own_below hown2 hb17
      have hown3 := own_below hown3 hb17
      go_wp2_with fail
      refine (untouched_any _ A2 k c3 c2 w17.heap.size w17.heap.size ys _ (Rd.of_own hown3) (Rd.of_own hown2) HY.out (by omega) (by omega)).mono ?_
      rintro e wx ⟨rfl, q3, rfl⟩
      have hB18 := below_drewN' hB17 q3
      go_wp2_with fail
      go_ret
      exact ⟨rfl, hB18⟩

/-! the frame -/
theorem cells_rune : Tryd.prog.cellsOf 21 = 1 := by kernel_rfl
theorem cells_byte : Tryd.prog.cellsOf 5 = 1 := by kernel_rfl
theorem cells_int : Tryd.prog.cellsOf 3 = 1 := by kernel_rfl
theorem cells_runes : Tryd.prog.cellsOf 26 = 1 := by kernel_rfl
theorem cells_bytes : Tryd.prog.cellsOf 24 = 1 := by kernel_rfl

/-- what the walk gives, for every argument within the bound and every world that holds the tables -/
theorem contract (H : Type) (enc : TypeId × Value → H) (W : World) (base : Nat) (args : Array Value) (ds gs : List (DataW H)) (before : List MemPlace)
    (hval : ∀ (j : Nat) t v, Tryd.f9.params[j]? = some t → args[j]? = some v → Value.okWide Tryd.prog W .any base t v)
    (hW : DataW.Whole enc Tryd.prog Tryd.f9.params.toList Rows.utfKeepsSpec.vars false W args.toList ds gs before) (hk : Rows.uptoSmall H (ds ++ gs) = true) (hL : laidMetH Tryd.prog tabs.laid2 W) :
    Calls Tryd.prog 9 args W fun e W' => ∃ v, e = .returned v ∧ Rows.utfKeepsSpec.post enc Tryd.prog Tryd.f9 false true false false W args v W' := by
  have hT : Lib.Utf8Tabs 0 1 W := tabs.tabs_of hL
  have hW' := hW
  obtain ⟨p, q, hA0, hV, rfl, hfz, hnd⟩ := hW
  have hA : DataW.TrodAll enc Tryd.prog W 0 (fun _ => true) true Tryd.f9.params.toList args.toList ds p := hA0
  rw [Tryd.params9] at hA hval
  obtain ⟨v0, vs0, d0, ds0, p0, q0, hargs, rfl, rfl, h0, r0⟩ := trodAll_cons hA
  obtain ⟨v1, vs1, d1, ds1, p1, q1, rfl, rfl, rfl, h1, r1⟩ := trodAll_cons r0
  obtain ⟨rfl, rfl, rfl⟩ := trodAll_nil r1
  obtain rfl : args = #[v0, v1] := by cases args; simp_all
  obtain ⟨rfl, rfl⟩ := trodVars_none hV
  have hbulk := tabs.bound hk
  simp only [List.append_nil, Rows.uptoBulkAll] at hbulk
  clear hk
  have fin : ∀ (e : Ending) (W' : World), (e = .returned (.bool true) ∧ Below W.heap.size W W') → ∃ v, e = .returned v ∧ Rows.utfKeepsSpec.post enc Tryd.prog Tryd.f9 false true false false W #[v0, v1] v W' := fun e W' ⟨he, hb⟩ => by
    subst he
    refine ⟨_, rfl, law_post rfl rfl rfl rfl tabs.laidOut ?_ (by kernel_rfl) Tryd.underlying4 hW' hb⟩
    rw [Tryd.params9]
    intro t ht
    simp only [List.mem_cons, List.mem_nil_iff, or_false] at ht
    rcases ht with rfl | rfl
    all_goals exact ⟨by kernel_rfl, of_decide_eq_true (by kernel_rfl)⟩
  obtain ⟨A, n, c, zs, rfl, hl0, hn0, hm0, hr0, hw0, hd0⟩ := rd_ints Tryd.underlying26 Tryd.underlying21 cells_rune (hval 0 26 v0 rfl rfl) h0
  have hs0 : n ≤ 1048576 := by
    rcases hd0 with ⟨_, h⟩ | ⟨r, hd, _⟩
    · omega
    · have i1 := tabs.slice_le (lits (H := H) .i32 zs) (lits .i32 r)
      rw [hd] at hbulk
      have e1 : (lits (H := H) .i32 zs).length = zs.length := by simp [lits]
      have e2 : (lits (H := H) .i32 r).length = r.length := by simp [lits]
      omega
  obtain ⟨i, rfl, rfl, rfl, w1⟩ := open_int Tryd.underlying21 (hval 1 21 v1 rfl rfl) h1
  exact (walk A n c i zs W hr0 hl0 (fun z hz => by simpa [Lit.wf, IntKind.min, IntKind.max, IntKind.signed, IntKind.bits] using hw0 z hz) (by simpa [Lit.wf, IntKind.min, IntKind.max, IntKind.signed, IntKind.bits] using w1) hs0 hT).mono fin

theorem reads (os : Os) {H : Type} (enc : TypeId × Value → H) : ∃ places, DataW.whole enc Tryd.prog ((tabs.laidWorld os).forCall (fun _ _ => 0) ⟨#[], #[.slice none 0 0, .int .i32 0], []⟩).memory Tryd.f9.params.toList Rows.utfKeepsSpec.vars false (#[.slice none 0 0, .int .i32 0] : Array Value).toList 8 = some ([.nil, .lit (.int .i32 0)], [], places) :=
  ⟨[], by kernel_rfl⟩

set_option maxRecDepth 100000 in
theorem lifted (os : Os) (started : os.Started) (H : Type) (enc : TypeId × Value → H) (F : Stop.Interp) :
    ReturnsInHanded {} Tryd.checked os 9 .any ((Rows.OpenSpec.upto Rows.utfKeepsSpec).preRow enc Tryd.prog Tryd.f9 Rows.utfKeepsUptoRow.domain false Rows.utfKeepsUptoRow.laid) (((Rows.OpenSpec.upto Rows.utfKeepsSpec).at F).post enc Tryd.prog Tryd.f9 false true false false) := by
  obtain ⟨places, hx⟩ := reads os enc
  refine returnsInHanded_of_row (C := Tryd.checked) (s := Rows.OpenSpec.upto Rows.utfKeepsSpec) tabs.own started (by kernel_rfl) Tryd.func9
    (witness_row_at (enc := enc) (C := Tryd.checked) false (tabs.laidWorld os) #[.slice none 0 0, .int .i32 0] rfl (by kernel_rfl) (by kernel_rfl) (by kernel_rfl)
      (OpenSpec.preRow_of_cond 8 hx (by kernel_rfl) (fun k hk => by cases hk; kernel_rfl) (by kernel_rfl) (tabs.laid_met os _))) ?_
  intro W base args ds gs before hval hW _ hcond _ hL _ _
  exact contract H enc W base args ds gs before hval hW (hcond _ rfl) hL

theorem saidUpto : Rows.UtfKeepsUptoSaid :=
  OpenClaim.holds_of_cond 9 Tryd.f9 rfl rfl rfl rfl rfl rfl rfl ⟨rfl, rfl, rfl, rfl, rfl⟩ rfl rfl rfl rfl rfl (by kernel_rfl) Tryd.func9 (by kernel_rfl)
    (of_decide_eq_true (by kernel_rfl)) (by unfold Func.isWrapper; first | (rw [if_pos (by decide +kernel)]; kernel_rfl) | (rw [if_neg (by decide +kernel)]; exact ⟨rfl, rfl⟩))
    (fun os started H enc _ F => by rw [OpenClaim.pre_eq_preRow]; exact lifted os started H enc F)

theorem plain (f : FuncId) (fn : Func) (hf : Tryd.pinned.checked.prog.funcNamed Rows.utfKeepsUptoRow.func = some f) (hfn : Tryd.pinned.checked.prog.funcs[f]? = some fn) :
    false = Tryd.pinned.checked.prog.looks [] ∧ ∀ (j : Nat) t, fn.params[j]? = some t → Tryd.pinned.checked.prog.wantsStandIn t = false := by
  obtain rfl : f = 9 := Option.some.inj ((show Tryd.prog.funcNamed Rows.utfKeepsUptoRow.func = some 9 by kernel_rfl).symm.trans hf) |>.symm
  obtain rfl : fn = Tryd.f9 := (Option.some.inj (Tryd.func9.symm.trans hfn)).symm
  refine ⟨by kernel_rfl, fun j t ht => ?_⟩
  rw [Tryd.params9] at ht
  have hm := Array.mem_of_getElem? ht
  simp only [List.mem_toArray, List.mem_cons, List.mem_nil_iff, or_false] at hm
  rcases hm with rfl | rfl
  all_goals exact (show Tryd.prog.wantsStandIn _ = false by kernel_rfl)

/-- the statement: the second form's card -/
theorem card : Rows.UtfKeepsUptoCardSaid :=
  Claim7.holds_tied_plain_at .later [] _ _ _ _ saidUpto (fun _ h => by cases h) (by kernel_rfl) (fun _ h => by cases h) utfKeepsUpto_row_tie rfl ⟨rfl, rfl⟩ (by kernel_rfl) rfl plain (by kernel_rfl)
#print axioms card
end Go.Proofs.YtomkkagopjpfkaaDoor.utfKeeps
