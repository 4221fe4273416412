/-
  The walk of the reference's Places and of both Place, each once.
-/
import Derived.Test.YtomkkagopjpfkaaDoorRefLines
import Derived.Test.YtomkkagopjpfkaaDoorPlaces
namespace Go.Proofs.YtomkkagopjpfkaaDoor.lines
open Go.RowKit
open Go.Proofs.YtomkkagopjpfkaaDoor.words Go.Proofs.YtomkkagopjpfkaaDoor.enc Go.Proofs.YtomkkagopjpfkaaDoor.dec Go.Proofs.YtomkkagopjpfkaaDoor.ref Go.Proofs.YtomkkagopjpfkaaDoor.ln
set_option linter.unusedVariables false

/-- where the line number j begins; behind the last line: one behind the end -/
def sj (zs : List Int) (n j : Nat) : Nat := (starts zs n).getD j (n + 1)
theorem sj_at {zs : List Int} {n j a : Nat} (h : (starts zs n)[j]? = some a) : sj zs n j = a := by unfold sj; rw [List.getD_eq_getElem?_getD, h]; rfl
theorem sj_end {zs : List Int} {n j : Nat} (h : (starts zs n).length ≤ j) : sj zs n j = n + 1 := by unfold sj; rw [List.getD_eq_getElem?_getD, List.getElem?_eq_none h]; rfl
theorem starts_first (zs : List Int) (n : Nat) : (starts zs n)[0]? = some 0 := by
  have h := starts_take zs 0 n (Nat.zero_le _)
  have e : (starts zs 0) = [0] := rfl
  rw [e] at h
  have := congrArg (·[0]?) h
  simpa [List.getElem?_take] using this
theorem sj_zero (zs : List Int) (n : Nat) : sj zs n 0 = 0 := sj_at (starts_first zs n)
theorem pl_of {zs : List Int} {n j a b i : Nat} (hj : (starts zs n)[j]? = some a) (ha : a ≤ i) (hb : sj zs n (j + 1) = b) (hi : i < b) (hin : i ≤ n) : pl zs i = (j + 1, i - a + 1) :=
  pl_in hj ha hin fun b' h => by rw [sj_at h] at hb; omega

set_option maxHeartbeats 2000000 in
/-- the reference's Places -/
theorem RefPlaces_any (A : Option Addr) (n c B : Nat) (zs : List Int) (w : World) (hr : Rd w B A (zs.map (Value.int .i32))) (hB : B ≤ w.heap.size) (hl : zs.length = n) (hn : n ≤ 4194304) :
    Calls Tryd.prog 34 #[.slice A n c] w fun e w' => ∃ v, e = .returned v ∧ w'.ownsRow w.heap.size 50 2 v (n + 1) (pcells (places zs (n + 1))) ∧ Below w.heap.size w w' := by
  obtain ⟨i0, hi0, hz0, hz1, hz2⟩ := info_parts pos_info
  have HL := hide hl
  clear hl
  have hm1 := starts_pos zs n
  have hm2 := starts_len zs n
  go_enter Tryd.func34, Tryd.ntmps34
  go_wp2_with fail
  refine (Starts_any A n c B zs _ hr hB HL.out hn).mono ?_
  rintro e w1 ⟨vs, rfl, howns, hb1⟩
  obtain ⟨As, cS, rfl, _, _⟩ := own_slice howns
  obtain ⟨m, hm⟩ : ∃ m, (starts zs n).length = m := ⟨_, rfl⟩
  have hs := Rd.of_own howns
  rw [hm] at hm1 hm2 ⊢
  have HM := hide hm
  clear hm howns hr
  go_wp2_with fail
  go_loopw [3, 5] (fun vo i wr => ∃ j : Nat, j ≤ m ∧ i = .int .i64 j ∧ wr.ownsRow w1.heap.size 50 2 vo (sj zs n j) (pcells (places zs (sj zs n j))) ∧ Below w1.heap.size w1 wr) (fun _ i _ => m - (intOf i).toNat)
  case atStart => exact ⟨0, Nat.zero_le _, rfl, by rw [sj_zero]; exact World.ownsRow_nil _ _ _ _, Below.refl _ _⟩
  case round =>
    obtain ⟨j, hj, rfl, howno, hb⟩ := hrel
    obtain ⟨Ao, co, rfl, _, _⟩ := own_slice howno
    by_cases hlt : j < m
    · obtain ⟨a, ha⟩ : ∃ a, (starts zs n)[j]? = some a := ⟨(starts zs n)[j]'(by rw [HM.out]; exact hlt), List.getElem?_eq_getElem _⟩
      have han := starts_at_le zs n j a ha
      obtain ⟨ads, rfl, _, hca⟩ := rd_nat (hs.below' hb (Nat.le_refl _)) ha
      rw [sj_at ha] at howno ⊢
      obtain ⟨b, hbe⟩ : ∃ b, sj zs n (j + 1) = b := ⟨_, rfl⟩
      have HB := hide hbe
      have HA := hide ha
      by_cases hlast : j + 1 < m
      · obtain ⟨b', hb0⟩ : ∃ b, (starts zs n)[j + 1]? = some b := ⟨(starts zs n)[j + 1]'(by rw [HM.out]; exact hlast), List.getElem?_eq_getElem _⟩
        obtain rfl : b' = b := (sj_at hb0).symm.trans hbe
        have hab := starts_rise zs n j a b' ha hb0
        have hbn := starts_at_le zs n (j + 1) b' hb0
        obtain ⟨ads', eas, _, hcb⟩ := rd_nat (hs.below' hb (Nat.le_refl _)) hb0
        injection eas with eas
        subst eas
        rw [add_succ] at hcb
        clear ha hb0 hbe
        have hI : (j : Int) + 1 < (m : Int) := by omega
        go_wp2_with fail
        go_loopw [3, 7] (fun vi i wq => ∃ q : Nat, a ≤ q ∧ q ≤ b' ∧ i = .int .i64 q ∧ wq.ownsRow w1.heap.size 50 2 vi q (pcells (places zs q)) ∧ Below w1.heap.size w1 wq) (fun _ i _ => b' - (intOf i).toNat)
        case atStart => exact ⟨a, Nat.le_refl _, by omega, rfl, howno, hb⟩
        case round =>
          obtain ⟨q, haq, hqb, rfl, hownq, hbq⟩ := hrel
          obtain ⟨Aq, cq, rfl, _, _⟩ := own_slice hownq
          by_cases hq : q < b'
          · have HP := hide (pl_of HA.out haq HB.out hq (by omega))
            obtain ⟨ads2, eas2, _, hca2⟩ := rd_nat (hs.below' hbq (Nat.le_refl _)) HA.out
            injection eas2 with eas2
            subst eas2
            go_wp2_with (at_builtin; refine wpList_append_rd _ rfl _ _ 47 rfl w1.heap.size 50 i0 (.agg #[.int .i64 0, .int .i64 0]) 2 16 Tryd.underlying47 hi0 hz0 hz1 hz2 rfl (by decide) _ _ _ rfl (hownq.alloc _) _ _ 1 1 _ rfl (by rfl) (rd_pos _ _ _ _ (Nat.lt_succ_self _)) (one_pos _ _) ?c3 ?c4 ?c5 ?_)
            case c3 => simp only [maxLen]; omega
            case c4 => omega
            case c5 => exact Nat.le_trans hbq.size (by simp)
            intro v2 w2 hown2 hg2 hat2
            have hb2 := below_append (hbq.alloc hbq.size _) (hownq.alloc _) (Nat.le_refl _) hg2 (Nat.le_trans hbq.size (by simp))
            go_wp2_with fail
            go_roundw
            case rel =>
              refine ⟨q + 1, by omega, by omega, by go_num, ?_, hb2⟩
              rw [places_snoc, pcells_snoc, HP.out]
              have e1 : (((j + 1 : Nat) : Nat) : Int) = (j : Int) + 1 := by omega
              have e2 : (((q - a + 1 : Nat) : Nat) : Int) = (q : Int) - (a : Int) + 1 := by omega
              dsimp only
              rw [e1, e2]
              exact hown2
            case measure => simp [intOf]; omega
          · have hqe : q = b' := by omega
            subst hqe
            go_wp2_with fail
            go_roundw
            case rel => exact ⟨j + 1, by omega, by go_num, by rw [HB.out]; exact hownq, hbq⟩
            case measure => simp [intOf]; omega
      · obtain rfl : b = n + 1 := hbe.symm.trans (sj_end (by rw [HM.out]; omega))
        clear ha hbe
        have hI : ¬ ((j : Int) + 1 < (m : Int)) := by omega
        go_wp2_with fail
        go_loopw [3, 7] (fun vi i wq => ∃ q : Nat, a ≤ q ∧ q ≤ (n + 1) ∧ i = .int .i64 q ∧ wq.ownsRow w1.heap.size 50 2 vi q (pcells (places zs q)) ∧ Below w1.heap.size w1 wq) (fun _ i _ => (n + 1) - (intOf i).toNat)
        case atStart => exact ⟨a, Nat.le_refl _, by omega, rfl, howno, hb⟩
        case round =>
          obtain ⟨q, haq, hqb, rfl, hownq, hbq⟩ := hrel
          obtain ⟨Aq, cq, rfl, _, _⟩ := own_slice hownq
          by_cases hq : q < (n + 1)
          · have HP := hide (pl_of HA.out haq HB.out hq (by omega))
            obtain ⟨ads2, eas2, _, hca2⟩ := rd_nat (hs.below' hbq (Nat.le_refl _)) HA.out
            injection eas2 with eas2
            subst eas2
            go_wp2_with (at_builtin; refine wpList_append_rd _ rfl _ _ 47 rfl w1.heap.size 50 i0 (.agg #[.int .i64 0, .int .i64 0]) 2 16 Tryd.underlying47 hi0 hz0 hz1 hz2 rfl (by decide) _ _ _ rfl (hownq.alloc _) _ _ 1 1 _ rfl (by rfl) (rd_pos _ _ _ _ (Nat.lt_succ_self _)) (one_pos _ _) ?c3 ?c4 ?c5 ?_)
            case c3 => simp only [maxLen]; omega
            case c4 => omega
            case c5 => exact Nat.le_trans hbq.size (by simp)
            intro v2 w2 hown2 hg2 hat2
            have hb2 := below_append (hbq.alloc hbq.size _) (hownq.alloc _) (Nat.le_refl _) hg2 (Nat.le_trans hbq.size (by simp))
            go_wp2_with fail
            go_roundw
            case rel =>
              refine ⟨q + 1, by omega, by omega, by go_num, ?_, hb2⟩
              rw [places_snoc, pcells_snoc, HP.out]
              have e1 : (((j + 1 : Nat) : Nat) : Int) = (j : Int) + 1 := by omega
              have e2 : (((q - a + 1 : Nat) : Nat) : Int) = (q : Int) - (a : Int) + 1 := by omega
              dsimp only
              rw [e1, e2]
              exact hown2
            case measure => simp [intOf]; omega
          · have hqe : q = (n + 1) := by omega
            subst hqe
            go_wp2_with fail
            go_roundw
            case rel => exact ⟨j + 1, by omega, by go_num, by rw [HB.out]; exact hownq, hbq⟩
            case measure => simp [intOf]; omega
    · have hjm : j = m := by omega
      subst hjm
      rw [sj_end (by rw [HM.out]; exact Nat.le_refl _)] at howno ⊢
      go_wp2_with fail
      go_ret
      exact ⟨_, rfl, own_more howno hb1.size, hb1.trans (hb.mono hb1.size)⟩

theorem pcells_cons (p : Nat × Nat) (l : List (Nat × Nat)) : pcells (p :: l) = Value.int .i64 (p.1 : Int) :: Value.int .i64 (p.2 : Int) :: pcells l := rfl
theorem pcells_at : ∀ (l : List (Nat × Nat)) (k : Nat) (p : Nat × Nat), l[k]? = some p → (pcells l)[k * 2]? = some (Value.int .i64 (p.1 : Int)) ∧ (pcells l)[k * 2 + 1]? = some (Value.int .i64 (p.2 : Int))
  | [], k, p, h => by simp at h
  | q :: l, 0, p, h => by
    simp at h; subst h
    rw [pcells_cons]; exact ⟨rfl, rfl⟩
  | q :: l, k + 1, p, h => by
    have := pcells_at l k p (by simpa using h)
    rw [pcells_cons, show (k + 1) * 2 = k * 2 + 1 + 1 by omega]
    simpa using this
theorem add_two (a : Addr) (i : Nat) : a.add (i + 1) = ⟨(a.add i).block, (a.add i).off + 1, none⟩ := by
  unfold Addr.add
  by_cases h : i = 0
  · subst h; simp
  · simp [h, Nat.add_assoc]
theorem add_zero (a : Addr) : a.add (0 * 2) = a := by simp [Addr.add]
theorem rd_place {w : World} {B n k : Nat} {A : Option Addr} {zs : List Int} (h : Rd w B A (pcells (places zs n))) (hk : k < n) :
    ∃ ad, A = some ad ∧ ad.block < B ∧ w.cell? (ad.add (k * 2)) = some (.int .i64 ((pl zs k).1 : Int)) ∧ w.cell? ⟨(ad.add (k * 2)).block, (ad.add (k * 2)).off + 1, none⟩ = some (.int .i64 ((pl zs k).2 : Int)) := by
  have hne : pcells (places zs n) ≠ [] := by
    intro e
    have := congrArg List.length e
    rw [pcells_len, places_len] at this
    simp at this
    omega
  obtain ⟨ad, e, hb, hc⟩ := h hne
  have hp := pcells_at _ _ _ (places_at zs n k hk)
  exact ⟨ad, e, hb, hc _ _ hp.1, by rw [← add_two]; exact hc _ _ hp.2⟩

theorem blk_other {w : World} {g : Nat} {cs : Array Value} {t : TypeId} (h : Blk w g cs t) {p : Addr} (hne : p.block ≠ g) (u : Value) : Blk (w.setCell p u) g cs t := (Below.heap_setCell w p u g (fun e => hne e.symm)).trans h
theorem res_cells {w : World} {g : Nat} {a b : Value} {t : TypeId} (h : Blk w g #[a, b] t) (x y : Value) :
    (w.setCell ⟨g, 0, none⟩ x).cell? ⟨g, 0, none⟩ = some x ∧ ((w.setCell ⟨g, 0, none⟩ x).setCell ⟨g, 1, none⟩ y).cell? ⟨g, 1, none⟩ = some y :=
  ⟨by rw [blk_cell (blk_set h 0 x)]; rfl, by rw [blk_cell (blk_set (blk_set h 0 x) 1 y)]; rfl⟩

/-- the number that is asked for, kept within the list -/
def clamp (i : Int) (n : Nat) : Nat := if i < 0 then 0 else min i.toNat n
theorem clamp_le (i : Int) (n : Nat) : clamp i n ≤ n := by unfold clamp; split <;> omega

set_option maxHeartbeats 1000000 in
/-- the reference's Place -/
theorem RefPlace_any (A : Option Addr) (n c B : Nat) (i : Int) (zs : List Int) (w : World) (hr : Rd w B A (zs.map (Value.int .i32))) (hB : B ≤ w.heap.size) (hl : zs.length = n) (hn : n ≤ 4194304) :
    Calls Tryd.prog 37 #[.slice A n c, .int .i64 i] w fun e w' => e = .returned (posV (pl zs (clamp i n))) ∧ Below w.heap.size w w' := by
  have HL := hide hl
  have hcl := clamp_le i n
  obtain ⟨k, hk⟩ : ∃ k, clamp i n = k := ⟨_, rfl⟩
  rw [hk] at hcl ⊢
  have HK := hide hk
  clear hl hk
  go_enter Tryd.func37, Tryd.ntmps37
  go_wp2_with fail
  refine (RefPlaces_any A n c B zs _ (hr.alloc hB _) (Nat.le_trans hB (by simp)) HL.out hn).mono ?_
  rintro e w1 ⟨vs, rfl, hown, hb1⟩
  obtain ⟨As, cS, rfl, _, _⟩ := own_slice hown
  have hs := Rd.of_own hown
  have hblk : Blk w1 w.heap.size #[.int .i64 0, .int .i64 0] 50 := blk_below (heap_alloc_new w _) hb1
  have hB1 : Below w.heap.size w w1 := ((Below.refl _ _).alloc (Nat.le_refl _) _).trans (hb1.mono (by simp))
  have c0 := blk_cell hblk 0
  have c1 := blk_cell hblk 1
  have f0 := blk_free hblk 0
  have f1 := blk_free hblk 1
  obtain ⟨ad, rfl, had, p0, p1⟩ := rd_place hs (k := k) (by omega)
  have hk := HK.out
  unfold clamp at hk
  by_cases h0 : i < 0
  · obtain rfl : k = 0 := by rw [if_pos h0] at hk; omega
    rw [add_zero] at p0 p1
    go_wp2_with fail
    obtain ⟨q0, q1⟩ := res_cells hblk (.int .i64 (pl zs 0).1) (.int .i64 (pl zs 0).2)
    exact bodyPost_ret (v := posV (pl zs 0)) (by simp [results, Tryd.results37, go_sem, q0, q1]) rfl ⟨rfl, (hB1.setCell (Nat.le_refl _) _).setCell (Nat.le_refl _) _⟩
  · rw [if_neg h0] at hk
    by_cases h1 : (n : Int) < i
    · obtain rfl : k = n := by omega
      go_wp2_with fail
      obtain ⟨q0, q1⟩ := res_cells hblk (.int .i64 (pl zs k).1) (.int .i64 (pl zs k).2)
      exact bodyPost_ret (v := posV (pl zs k)) (by simp [results, Tryd.results37, go_sem, q0, q1]) rfl ⟨rfl, (hB1.setCell (Nat.le_refl _) _).setCell (Nat.le_refl _) _⟩
    · have hki : i = (k : Int) := by omega
      subst hki
      go_wp2_with fail
      obtain ⟨q0, q1⟩ := res_cells hblk (.int .i64 (pl zs k).1) (.int .i64 (pl zs k).2)
      exact bodyPost_ret (v := posV (pl zs k)) (by simp [results, Tryd.results37, go_sem, q0, q1]) rfl ⟨rfl, (hB1.setCell (Nat.le_refl _) _).setCell (Nat.le_refl _) _⟩

set_option maxHeartbeats 1000000 in
/-- the program's Place -/
theorem Place_any (A : Option Addr) (n c B : Nat) (i : Int) (zs : List Int) (w : World) (hr : Rd w B A (zs.map (Value.int .i32))) (hB : B ≤ w.heap.size) (hl : zs.length = n) (hn : n ≤ 4194304) :
    Calls Tryd.prog 36 #[.slice A n c, .int .i64 i] w fun e w' => e = .returned (posV (pl zs (clamp i n))) ∧ Below w.heap.size w w' := by
  have HL := hide hl
  have hcl := clamp_le i n
  obtain ⟨m, hm⟩ : ∃ m, clamp i n = m := ⟨_, rfl⟩
  rw [hm] at hcl ⊢
  have HM := hide hm
  clear hl hm
  have hmm : min (max i 0) (n : Int) = (m : Int) := by
    rw [← HM.out]
    unfold clamp
    split <;> omega
  go_enter Tryd.func36, Tryd.ntmps36
  go_wp2_with fail
  go_loopw [13] (fun v wr => ∃ k : Nat, k ≤ m ∧ v = .int .i64 k ∧ Blk wr w.heap.size #[.int .i64 0, .int .i64 0] 50 ∧ Blk wr (w.heap.size + 1) #[.int .i64 (pl zs k).1, .int .i64 (pl zs k).2] 50 ∧ Below w.heap.size w wr) (fun v _ => m - (intOf v).toNat)
  case atStart =>
    refine ⟨0, Nat.zero_le _, rfl, blk_alloc (heap_alloc_new w _) _, ?_, ((Below.refl _ _).alloc (Nat.le_refl _) _).alloc (by simp) _⟩
    have := heap_alloc_new (w.alloc (.cells #[.int .i64 0, .int .i64 0] 50)) (.cells #[.int .i64 1, .int .i64 1] 50)
    rw [World.size_alloc] at this
    exact this
  case round =>
    obtain ⟨k, hk, rfl, hblk0, hblk, hb⟩ := hrel
    have hp := pl_le zs k
    have c0 := blk_cell hblk 0
    have c1 := blk_cell hblk 1
    have hsz := blk_lt hblk
    by_cases hlt : k < m
    · go_wp2_with fail
      refine (next_any A n c B k zs _ (hr.below' hb hB) (Nat.le_trans hB hb.size) HL.out (by omega) hn).mono ?_
      rintro e w3 ⟨rfl, hb3⟩
      have hb13 := hb.trans (hb3.mono hb.size)
      have hblk3 := blk_below hblk hb3
      have hblk03 := blk_below hblk0 hb3
      have d0 := blk_cell hblk3 0
      have d1 := blk_cell hblk3 1
      have f0 := blk_free hblk3 0
      have f1 := blk_free hblk3 1
      clear c0 c1
      go_wp2_with fail
      go_roundw
      case rel =>
        refine ⟨k + 1, by omega, by go_num, ?_, blk_set (blk_set hblk3 0 _) 1 _, (hb13.setCell (by simp) _).setCell (by simp) _⟩
        exact blk_other (blk_other hblk03 (by simp) _) (by simp) _
      case measure => simp [intOf]; omega
    · have hkm : k = m := by omega
      subst hkm
      have f0 := blk_free hblk0 0
      have f1 := blk_free hblk0 1
      have e0 := blk_cell hblk0 0
      have e1 := blk_cell hblk0 1
      obtain ⟨q0, q1⟩ := res_cells hblk0 (.int .i64 (pl zs k).1) (.int .i64 (pl zs k).2)
      go_wp2_with fail
      exact bodyPost_ret (v := posV (pl zs k)) (by simp [results, Tryd.results36, go_sem, q0, q1]) rfl ⟨rfl, (hb.setCell (Nat.le_refl _) _).setCell (Nat.le_refl _) _⟩
end Go.Proofs.YtomkkagopjpfkaaDoor.lines
