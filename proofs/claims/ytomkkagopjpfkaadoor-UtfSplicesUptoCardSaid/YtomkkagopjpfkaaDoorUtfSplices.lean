/-
  UtfSplices: for every list of lines and every list of ends the law returns true, and the arguments read behind the call as before; where the arguments' values and letters are at most 1048576 in all.
-/
import Derived.Test.YtomkkagopjpfkaaDoorTabs
import Derived.Test.YtomkkagopjpfkaaDoorBare
namespace Go.Proofs.YtomkkagopjpfkaaDoor.utfSplices
open Go.ChangeShapes Go.WideShapes Go.ChangeAt Go.RowKit
open Go.Proofs.YtomkkagopjpfkaaDoor.frame
open Go.Proofs.YtomkkagopjpfkaaDoor.words Go.Proofs.YtomkkagopjpfkaaDoor.enc Go.Proofs.YtomkkagopjpfkaaDoor.utf Go.Proofs.YtomkkagopjpfkaaDoor.dec Go.Proofs.YtomkkagopjpfkaaDoor.ref Go.Proofs.YtomkkagopjpfkaaDoor.ln Go.Proofs.YtomkkagopjpfkaaDoor.lines
set_option linter.unusedVariables false

/-- a list of lists, as a function -/
def RowsAt (w : World) (B : Nat) (A : Option Addr) (n : Nat) (f : Nat → List Int) : Prop :=
  ∀ r, r < n → ∃ ad Ar cr, A = some ad ∧ ad.block < B ∧ w.cell? (ad.add r) = some (.slice Ar (f r).length cr) ∧ Rd w B Ar ((f r).map (Value.int .i32))
theorem rows_at_below {w w' : World} {B C n : Nat} {A : Option Addr} {f : Nat → List Int} (h : RowsAt w B A n f) (hb : Below C w w') (hC : B ≤ C) : RowsAt w' B A n f := fun r hr => by
  obtain ⟨ad, Ar, cr, e, h1, h2, h3⟩ := h r hr
  exact ⟨ad, Ar, cr, e, h1, (hb.cell (by rw [add_block]; omega)).trans h2, h3.below' hb hC⟩
/-- a list of lists that can be read -/
def RowsRd (w : World) (B : Nat) (A : Option Addr) (L : List (List Int)) : Prop :=
  ∀ (j : Nat) (l : List Int), L[j]? = some l → ∃ ad Aj cj, A = some ad ∧ ad.block < B ∧ w.cell? (ad.add j) = some (.slice Aj l.length cj) ∧ Rd w B Aj (l.map (Value.int .i32))
theorem rows_rd {w : World} {B n c : Nat} {A : Option Addr} {cs : List Value} {L : List (List Int)} (h : w.ownsRow B 26 1 (.slice A n c) n cs) (hr : RowsOwn w B cs L) : RowsRd w w.heap.size A L := by
  intro j l hl
  obtain ⟨v, hv, ho⟩ := hr.rows j l hl
  obtain ⟨Aj, cj, rfl, _, _⟩ := own_slice ho
  obtain ⟨hj, hvj⟩ := List.getElem?_eq_some_iff.1 hv
  obtain ⟨ad, e, hb, hc⟩ := (Rd.of_own h).at (k := j) hj
  exact ⟨ad, Aj, cj, e, hb, by rw [hc, hvj], Rd.of_own ho⟩
theorem rowsrd_below {w w' : World} {B C : Nat} {A : Option Addr} {L : List (List Int)} (h : RowsRd w B A L) (hb : Below C w w') (hC : B ≤ C) : RowsRd w' B A L := by
  intro j l hl
  obtain ⟨ad, Aj, cj, e, h1, h2, h3⟩ := h j l hl
  exact ⟨ad, Aj, cj, e, h1, (hb.cell (by rw [add_block]; omega)).trans h2, h3.below' hb hC⟩

theorem bulk_append {H : Type} (a b : List (DataW H)) : Rows.uptoBulkAll (a ++ b) = Rows.uptoBulkAll a + Rows.uptoBulkAll b := by
  induction a with
  | nil => simp [Rows.uptoBulkAll]
  | cons x r ih => rw [List.cons_append]; simp only [Rows.uptoBulkAll]; rw [ih]; omega
theorem sum_le {H : Type} {f : Nat → List Int} {D : Nat → DataW H} : ∀ n, (∀ r, r < n → (f r).length ≤ Rows.uptoBulk (D r)) → sumLen f n ≤ Rows.uptoBulkAll ((List.range n).map D)
  | 0, _ => Nat.zero_le _
  | n + 1, h => by
    have ih := sum_le n (fun r hr => h r (by omega))
    have hn := h n (by omega)
    rw [List.range_succ, List.map_append, bulk_append]
    show sumLen f n + (f n).length ≤ _
    simp only [List.map_cons, List.map_nil, Rows.uptoBulkAll]
    omega
/-- a row that is read stands where another one has grown -/
theorem rd_grown_other {w w' : World} {B n e m : Nat} {A : Option Addr} {c : Nat} {bs : List Int} {v : Value} {o : Obj} {wr : World} {XS : List Value}
    (h : w.ownsRow wr.heap.size 21 1 (.slice A n c) n (bs.map (Value.int .i32))) (hv : w.ownsRow B e 1 v m XS) (hg : (w.alloc o).grownBy w' v.ownBlock)
    (hat : v.ownBlock = none ∨ ∃ g, v.ownBlock = some g ∧ g < wr.heap.size) : Rd w' w.heap.size A (bs.map (Value.int .i32)) := by
  have h1 : w'.ownsRow wr.heap.size 21 1 (.slice A n c) n (bs.map (Value.int .i32)) := by
    refine (h.alloc o).kept hg ?_
    rcases hat with h2 | ⟨g, h2, h3⟩
    · rw [h2]; cases (Value.slice A n c).ownBlock <;> simp
    · refine .inr fun e => ?_
      rw [h2] at e
      have := (h.lt g e).1
      omega
  refine fun hne => ?_
  obtain ⟨ad, e, hb, hc⟩ := (Rd.of_own h1) hne
  refine ⟨ad, e, ?_, hc⟩
  obtain ⟨ad2, e2, hb2, _⟩ := (Rd.of_own h) hne
  rw [e] at e2
  injection e2 with e2
  rw [e2]
  exact hb2

set_option maxRecDepth 100000 in
set_option maxHeartbeats 8000000 in
theorem walk (A A' : Option Addr) (n c n' c' : Nat) (f : Nat → List Int) (E : List Int) (w : World) (hr : RowsAt w w.heap.size A n f) (hre : Rd w w.heap.size A' (E.map (Value.int .i64))) (hl' : E.length = n') (hn : n ≤ 1048576) (hn' : n' ≤ 1048576) (hsum : sumLen f n ≤ 1048576) (hT : Lib.Utf8Tabs 0 1 w) :
    Calls Tryd.prog 8 #[.slice A n c, .slice A' n' c'] w fun e w' => e = .returned (.bool true) ∧ Below w.heap.size w w' := by
  obtain ⟨i0, hi0, hz0, hz1, hz2⟩ := info_parts rune_info
  have HL' := hide hl'
  have HT := hide hT
  have HSUM := hide hsum
  clear hl' hT hsum
  go_enter Tryd.func8, Tryd.ntmps8
  go_wp2_with fail
  refine (awake_any _ HT.out).mono ?_
  rintro e w1 ⟨rfl, hb1⟩
  have hnew := own_new w1 [.int .i32 120] 21 (Nat.le_refl _) (by simp [maxLen])
  go_wp2_with fail
  go_loopw [5, 6] (fun v i wr => ∃ (k m : Nat) (xs : List Int), k ≤ n ∧ i = .int .i64 k ∧ xs.length = m ∧ m ≤ 4194300 ∧ Hid (spl f E k = xs) ∧ wr.ownsRow w1.heap.size 21 1 v m (xs.map (Value.int .i32)) ∧ Below w1.heap.size w1 wr) (fun _ i _ => n - (intOf i).toNat)
  case atStart => exact ⟨0, 1, [120], Nat.zero_le _, rfl, rfl, by omega, rfl, hnew, (Below.refl _ _).alloc (Nat.le_refl _) _⟩
  case round =>
    obtain ⟨k, m, xs, hk, rfl, hxm, hm4, hxs, hown, hb⟩ := hrel
    obtain ⟨Av, cv, rfl, _, _⟩ := own_slice hown
    have HXM := hide hxm
    clear hxm hnew
    have hB := hb1.trans (hb.mono hb1.size)
    by_cases hlt : k < n
    · have hkI : (k : Int) < (n : Int) := by omega
      obtain ⟨ad, Ar, cr, rfl, had, hc, hrr⟩ := (rows_at_below hr hB (Nat.le_refl _)) k hlt
      have hfl : (f k).length ≤ 1048576 := by
        have h1 := sumLen_mono f (show k + 1 ≤ n by omega)
        have h2 := HSUM.out
        have h3 : sumLen f (k + 1) = sumLen f k + (f k).length := rfl
        omega
      have hspl := spl_len f E (k + 1)
      have hsm := sumLen_mono f (show k + 1 ≤ n by omega)
      have hsu := HSUM.out
      have hstep : spl f E (k + 1) = spl f E k ++ endOf (kindOf E k) (bareL (f k)) ++ bareL (f k) := rfl
      rw [hxs.out] at hstep
      rw [hstep] at hspl
      have HSTEP := hide hstep
      clear hstep
      by_cases hke : k < n'
      · obtain ⟨ade, q, rfl, hq, hqc⟩ : ∃ ade q, A' = some ade ∧ kindOf E k = q ∧ wr.cell? (ade.add k) = some (.int .i64 q) := by
          obtain ⟨ade, e, _, hc⟩ := (hre.below hB).at (k := k) (by rw [List.length_map, HL'.out]; exact hke)
          refine ⟨ade, _, e, rfl, ?_⟩
          rw [hc, List.getElem_map]
          unfold kindOf
          rw [if_pos (by rw [HL'.out]; exact hke), List.getD_eq_getElem?_getD, List.getElem?_eq_getElem (by rw [HL'.out]; exact hke)]
          rfl
        have hkeI : (k : Int) < (n' : Int) := by omega
        go_wp2_with fail
        -- GEN
        have HQ := hide hq
        clear hq
        refine (bare_any Ar (f k).length cr w.heap.size (f k) _ hrr hB.size rfl (by omega)).mono ?_
        rintro e w2 ⟨v2, rfl, hown2, hb2⟩
        obtain ⟨bs, hbs⟩ : ∃ bs, bareL (f k) = bs := ⟨_, rfl⟩
        have hbl := bareL_len (f k)
        have hel := endOf_len (kindOf E k) (bareL (f k))
        rw [List.length_append, List.length_append, HXM.out] at hspl
        have HSTEP2 := HSTEP.out
        rw [hbs] at hown2 hbl hspl HSTEP2 hel
        obtain ⟨p, hp⟩ : ∃ p, bs.length = p := ⟨_, rfl⟩
        rw [hp] at hown2 hbl hspl
        have HSTEP := hide HSTEP2
        have HP := hide hp
        clear hbs hp HSTEP2
        obtain ⟨A2, c2, rfl, hp1, hp2⟩ := own_slice hown2
        have hown3 := own_below hown hb2
        have hb3 := hb.trans (hb2.mono hb.size)
        have hat3 : (Value.slice Av m cv).ownBlock = none ∨ ∃ g, (Value.slice Av m cv).ownBlock = some g ∧ g < wr.heap.size := by
          cases hg : (Value.slice Av m cv).ownBlock with
          | none => exact .inl rfl
          | some g => exact .inr ⟨g, rfl, (hown.lt g hg).2⟩
        by_cases h1 : q.tmod 3 = 1
        · have b1 : (q.tmod 3 == 1) = true := by rw [h1]; rfl
          have hend : endOf q bs = [13, 10] := by unfold endOf; rw [if_pos h1]
          go_wp2_with (at_builtin; refine wpList_append_rd _ rfl _ _ 26 rfl w1.heap.size 21 i0 (.int .i32 0) 1 4 Tryd.underlying26 hi0 hz0 hz1 hz2 rfl (by decide) _ _ _ rfl (hown3.alloc _) _ _ 2 2 _ rfl (by rfl) (rd_runes _ [13, 10] _ (Nat.lt_succ_self _)) (one_i32 [13, 10]) ?c3 ?c4 ?c5 ?_)
          case c3 => simp only [maxLen]; omega
          case c4 => omega
          case c5 => exact Nat.le_trans hb3.size (by simp)
          intro v4 w4 hown4 hg4 hat4
          have hb4 := below_append (hb3.alloc hb3.size _) (hown3.alloc _) (Nat.le_refl _) hg4 (Nat.le_trans hb3.size (by simp))
          obtain ⟨A4, c4, rfl, _, _⟩ := own_slice hown4
          have hr4 : Rd w4 w2.heap.size A2 (bs.map (Value.int .i32)) := rd_grown_other hown2 hown3 hg4 hat3
          go_wp2_with (at_builtin; refine wpList_append_rd _ rfl _ _ 26 rfl w1.heap.size 21 i0 (.int .i32 0) 1 4 Tryd.underlying26 hi0 hz0 hz1 hz2 rfl (by decide) _ _ _ rfl hown4 w2.heap.size A2 p c2 _ rfl ?d1 hr4 (one_i32 bs) ?d3 ?d4 ?d5 ?_)
          case d1 => rw [List.length_map, HP.out, Nat.mul_one]
          case d3 => simp only [maxLen]; omega
          case d4 => omega
          case d5 => exact hb4.size
          intro v5 w5 hown5 hg5 hat5
          have hb5 := below_append hb4 hown4 (Nat.le_refl _) hg5 hb4.size
          go_wp2_with fail
          go_roundw
          case rel =>
            refine ⟨k + 1, m + 2 + p, xs ++ [13, 10] ++ bs, by omega, by go_num, ?_, by omega, ?_, ?_, hb5⟩
            · rw [List.length_append, List.length_append, HXM.out, HP.out]; rfl
            · refine hide ?_; rw [HSTEP.out, HQ.out, hend]
            · rw [List.append_assoc, List.map_append, List.map_append]; exact hown5
          case measure => simp [intOf]; omega
        · have b1 : (q.tmod 3 == 1) = false := by rw [beq_eq_false_iff_ne]; exact h1
          by_cases h2 : q.tmod 3 = 2
          · have b2 : (q.tmod 3 == 2) = true := by rw [h2]; rfl
            by_cases h3 : 0 < p
            · have h3I : (0 : Int) < (p : Int) := by omega
              have hend : endOf q bs = [13] := by unfold endOf; rw [if_neg h1, if_pos ⟨h2, by rw [HP.out]; exact h3⟩]
              go_wp2_with (at_builtin; refine wpList_append_rd _ rfl _ _ 26 rfl w1.heap.size 21 i0 (.int .i32 0) 1 4 Tryd.underlying26 hi0 hz0 hz1 hz2 rfl (by decide) _ _ _ rfl (hown3.alloc _) _ _ 1 1 _ rfl (by rfl) (rd_runes _ [13] _ (Nat.lt_succ_self _)) (one_i32 [13]) ?c3 ?c4 ?c5 ?_)
              case c3 => simp only [maxLen]; omega
              case c4 => omega
              case c5 => exact Nat.le_trans hb3.size (by simp)
              intro v4 w4 hown4 hg4 hat4
              have hb4 := below_append (hb3.alloc hb3.size _) (hown3.alloc _) (Nat.le_refl _) hg4 (Nat.le_trans hb3.size (by simp))
              obtain ⟨A4, c4, rfl, _, _⟩ := own_slice hown4
              have hr4 : Rd w4 w2.heap.size A2 (bs.map (Value.int .i32)) := rd_grown_other hown2 hown3 hg4 hat3
              go_wp2_with (at_builtin; refine wpList_append_rd _ rfl _ _ 26 rfl w1.heap.size 21 i0 (.int .i32 0) 1 4 Tryd.underlying26 hi0 hz0 hz1 hz2 rfl (by decide) _ _ _ rfl hown4 w2.heap.size A2 p c2 _ rfl ?d1 hr4 (one_i32 bs) ?d3 ?d4 ?d5 ?_)
              case d1 => rw [List.length_map, HP.out, Nat.mul_one]
              case d3 => simp only [maxLen]; omega
              case d4 => omega
              case d5 => exact hb4.size
              intro v5 w5 hown5 hg5 hat5
              have hb5 := below_append hb4 hown4 (Nat.le_refl _) hg5 hb4.size
              go_wp2_with fail
              go_roundw
              case rel =>
                refine ⟨k + 1, m + 1 + p, xs ++ [13] ++ bs, by omega, by go_num, ?_, by omega, ?_, ?_, hb5⟩
                · rw [List.length_append, List.length_append, HXM.out, HP.out]; rfl
                · refine hide ?_; rw [HSTEP.out, HQ.out, hend]
                · rw [List.append_assoc, List.map_append, List.map_append]; exact hown5
              case measure => simp [intOf]; omega
            · have h3I : ¬ (0 : Int) < (p : Int) := by omega
              have hend : endOf q bs = [10] := by unfold endOf; rw [if_neg h1, if_neg (by rw [HP.out]; exact fun hh => h3 hh.2)]
              go_wp2_with (at_builtin; refine wpList_append_rd _ rfl _ _ 26 rfl w1.heap.size 21 i0 (.int .i32 0) 1 4 Tryd.underlying26 hi0 hz0 hz1 hz2 rfl (by decide) _ _ _ rfl (hown3.alloc _) _ _ 1 1 _ rfl (by rfl) (rd_runes _ [10] _ (Nat.lt_succ_self _)) (one_i32 [10]) ?c3 ?c4 ?c5 ?_)
              case c3 => simp only [maxLen]; omega
              case c4 => omega
              case c5 => exact Nat.le_trans hb3.size (by simp)
              intro v4 w4 hown4 hg4 hat4
              have hb4 := below_append (hb3.alloc hb3.size _) (hown3.alloc _) (Nat.le_refl _) hg4 (Nat.le_trans hb3.size (by simp))
              obtain ⟨A4, c4, rfl, _, _⟩ := own_slice hown4
              have hr4 : Rd w4 w2.heap.size A2 (bs.map (Value.int .i32)) := rd_grown_other hown2 hown3 hg4 hat3
              go_wp2_with (at_builtin; refine wpList_append_rd _ rfl _ _ 26 rfl w1.heap.size 21 i0 (.int .i32 0) 1 4 Tryd.underlying26 hi0 hz0 hz1 hz2 rfl (by decide) _ _ _ rfl hown4 w2.heap.size A2 p c2 _ rfl ?d1 hr4 (one_i32 bs) ?d3 ?d4 ?d5 ?_)
              case d1 => rw [List.length_map, HP.out, Nat.mul_one]
              case d3 => simp only [maxLen]; omega
              case d4 => omega
              case d5 => exact hb4.size
              intro v5 w5 hown5 hg5 hat5
              have hb5 := below_append hb4 hown4 (Nat.le_refl _) hg5 hb4.size
              go_wp2_with fail
              go_roundw
              case rel =>
                refine ⟨k + 1, m + 1 + p, xs ++ [10] ++ bs, by omega, by go_num, ?_, by omega, ?_, ?_, hb5⟩
                · rw [List.length_append, List.length_append, HXM.out, HP.out]; rfl
                · refine hide ?_; rw [HSTEP.out, HQ.out, hend]
                · rw [List.append_assoc, List.map_append, List.map_append]; exact hown5
              case measure => simp [intOf]; omega
          · have b2 : (q.tmod 3 == 2) = false := by rw [beq_eq_false_iff_ne]; exact h2
            have hend : endOf q bs = [10] := by unfold endOf; rw [if_neg h1, if_neg (fun hh => h2 hh.1)]
            go_wp2_with (at_builtin; refine wpList_append_rd _ rfl _ _ 26 rfl w1.heap.size 21 i0 (.int .i32 0) 1 4 Tryd.underlying26 hi0 hz0 hz1 hz2 rfl (by decide) _ _ _ rfl (hown3.alloc _) _ _ 1 1 _ rfl (by rfl) (rd_runes _ [10] _ (Nat.lt_succ_self _)) (one_i32 [10]) ?c3 ?c4 ?c5 ?_)
            case c3 => simp only [maxLen]; omega
            case c4 => omega
            case c5 => exact Nat.le_trans hb3.size (by simp)
            intro v4 w4 hown4 hg4 hat4
            have hb4 := below_append (hb3.alloc hb3.size _) (hown3.alloc _) (Nat.le_refl _) hg4 (Nat.le_trans hb3.size (by simp))
            obtain ⟨A4, c4, rfl, _, _⟩ := own_slice hown4
            have hr4 : Rd w4 w2.heap.size A2 (bs.map (Value.int .i32)) := rd_grown_other hown2 hown3 hg4 hat3
            go_wp2_with (at_builtin; refine wpList_append_rd _ rfl _ _ 26 rfl w1.heap.size 21 i0 (.int .i32 0) 1 4 Tryd.underlying26 hi0 hz0 hz1 hz2 rfl (by decide) _ _ _ rfl hown4 w2.heap.size A2 p c2 _ rfl ?d1 hr4 (one_i32 bs) ?d3 ?d4 ?d5 ?_)
            case d1 => rw [List.length_map, HP.out, Nat.mul_one]
            case d3 => simp only [maxLen]; omega
            case d4 => omega
            case d5 => exact hb4.size
            intro v5 w5 hown5 hg5 hat5
            have hb5 := below_append hb4 hown4 (Nat.le_refl _) hg5 hb4.size
            go_wp2_with fail
            go_roundw
            case rel =>
              refine ⟨k + 1, m + 1 + p, xs ++ [10] ++ bs, by omega, by go_num, ?_, by omega, ?_, ?_, hb5⟩
              · rw [List.length_append, List.length_append, HXM.out, HP.out]; rfl
              · refine hide ?_; rw [HSTEP.out, HQ.out, hend]
              · rw [List.append_assoc, List.map_append, List.map_append]; exact hown5
            case measure => simp [intOf]; omega
      · have hq : kindOf E k = (k : Int) % 3 := by unfold kindOf; rw [if_neg (by rw [HL'.out]; exact hke)]
        have hkeI : ¬ (k : Int) < (n' : Int) := by omega
        have HQ' := hide hq
        clear hq
        go_wp2_with fail
        obtain ⟨q, hqq⟩ : ∃ q, (k : Int) % 3 = q := ⟨_, rfl⟩
        have HQ := hide (HQ'.out.trans hqq)
        rw [hqq]
        clear HQ' hqq
        refine (bare_any Ar (f k).length cr w.heap.size (f k) _ hrr hB.size rfl (by omega)).mono ?_
        rintro e w2 ⟨v2, rfl, hown2, hb2⟩
        obtain ⟨bs, hbs⟩ : ∃ bs, bareL (f k) = bs := ⟨_, rfl⟩
        have hbl := bareL_len (f k)
        have hel := endOf_len (kindOf E k) (bareL (f k))
        rw [List.length_append, List.length_append, HXM.out] at hspl
        have HSTEP2 := HSTEP.out
        rw [hbs] at hown2 hbl hspl HSTEP2 hel
        obtain ⟨p, hp⟩ : ∃ p, bs.length = p := ⟨_, rfl⟩
        rw [hp] at hown2 hbl hspl
        have HSTEP := hide HSTEP2
        have HP := hide hp
        clear hbs hp HSTEP2
        obtain ⟨A2, c2, rfl, hp1, hp2⟩ := own_slice hown2
        have hown3 := own_below hown hb2
        have hb3 := hb.trans (hb2.mono hb.size)
        have hat3 : (Value.slice Av m cv).ownBlock = none ∨ ∃ g, (Value.slice Av m cv).ownBlock = some g ∧ g < wr.heap.size := by
          cases hg : (Value.slice Av m cv).ownBlock with
          | none => exact .inl rfl
          | some g => exact .inr ⟨g, rfl, (hown.lt g hg).2⟩
        by_cases h1 : q.tmod 3 = 1
        · have b1 : (q.tmod 3 == 1) = true := by rw [h1]; rfl
          have hend : endOf q bs = [13, 10] := by unfold endOf; rw [if_pos h1]
          go_wp2_with (at_builtin; refine wpList_append_rd _ rfl _ _ 26 rfl w1.heap.size 21 i0 (.int .i32 0) 1 4 Tryd.underlying26 hi0 hz0 hz1 hz2 rfl (by decide) _ _ _ rfl (hown3.alloc _) _ _ 2 2 _ rfl (by rfl) (rd_runes _ [13, 10] _ (Nat.lt_succ_self _)) (one_i32 [13, 10]) ?c3 ?c4 ?c5 ?_)
          case c3 => simp only [maxLen]; omega
          case c4 => omega
          case c5 => exact Nat.le_trans hb3.size (by simp)
          intro v4 w4 hown4 hg4 hat4
          have hb4 := below_append (hb3.alloc hb3.size _) (hown3.alloc _) (Nat.le_refl _) hg4 (Nat.le_trans hb3.size (by simp))
          obtain ⟨A4, c4, rfl, _, _⟩ := own_slice hown4
          have hr4 : Rd w4 w2.heap.size A2 (bs.map (Value.int .i32)) := rd_grown_other hown2 hown3 hg4 hat3
          go_wp2_with (at_builtin; refine wpList_append_rd _ rfl _ _ 26 rfl w1.heap.size 21 i0 (.int .i32 0) 1 4 Tryd.underlying26 hi0 hz0 hz1 hz2 rfl (by decide) _ _ _ rfl hown4 w2.heap.size A2 p c2 _ rfl ?d1 hr4 (one_i32 bs) ?d3 ?d4 ?d5 ?_)
          case d1 => rw [List.length_map, HP.out, Nat.mul_one]
          case d3 => simp only [maxLen]; omega
          case d4 => omega
          case d5 => exact hb4.size
          intro v5 w5 hown5 hg5 hat5
          have hb5 := below_append hb4 hown4 (Nat.le_refl _) hg5 hb4.size
          go_wp2_with fail
          go_roundw
          case rel =>
            refine ⟨k + 1, m + 2 + p, xs ++ [13, 10] ++ bs, by omega, by go_num, ?_, by omega, ?_, ?_, hb5⟩
            · rw [List.length_append, List.length_append, HXM.out, HP.out]; rfl
            · refine hide ?_; rw [HSTEP.out, HQ.out, hend]
            · rw [List.append_assoc, List.map_append, List.map_append]; exact hown5
          case measure => simp [intOf]; omega
        · have b1 : (q.tmod 3 == 1) = false := by rw [beq_eq_false_iff_ne]; exact h1
          by_cases h2 : q.tmod 3 = 2
          · have b2 : (q.tmod 3 == 2) = true := by rw [h2]; rfl
            by_cases h3 : 0 < p
            · have h3I : (0 : Int) < (p : Int) := by omega
              have hend : endOf q bs = [13] := by unfold endOf; rw [if_neg h1, if_pos ⟨h2, by rw [HP.out]; exact h3⟩]
              go_wp2_with (at_builtin; refine wpList_append_rd _ rfl _ _ 26 rfl w1.heap.size 21 i0 (.int .i32 0) 1 4 Tryd.underlying26 hi0 hz0 hz1 hz2 rfl (by decide) _ _ _ rfl (hown3.alloc _) _ _ 1 1 _ rfl (by rfl) (rd_runes _ [13] _ (Nat.lt_succ_self _)) (one_i32 [13]) ?c3 ?c4 ?c5 ?_)
              case c3 => simp only [maxLen]; omega
              case c4 => omega
              case c5 => exact Nat.le_trans hb3.size (by simp)
              intro v4 w4 hown4 hg4 hat4
              have hb4 := below_append (hb3.alloc hb3.size _) (hown3.alloc _) (Nat.le_refl _) hg4 (Nat.le_trans hb3.size (by simp))
              obtain ⟨A4, c4, rfl, _, _⟩ := own_slice hown4
              have hr4 : Rd w4 w2.heap.size A2 (bs.map (Value.int .i32)) := rd_grown_other hown2 hown3 hg4 hat3
              go_wp2_with (at_builtin; refine wpList_append_rd _ rfl _ _ 26 rfl w1.heap.size 21 i0 (.int .i32 0) 1 4 Tryd.underlying26 hi0 hz0 hz1 hz2 rfl (by decide) _ _ _ rfl hown4 w2.heap.size A2 p c2 _ rfl ?d1 hr4 (one_i32 bs) ?d3 ?d4 ?d5 ?_)
              case d1 => rw [List.length_map, HP.out, Nat.mul_one]
              case d3 => simp only [maxLen]; omega
              case d4 => omega
              case d5 => exact hb4.size
              intro v5 w5 hown5 hg5 hat5
              have hb5 := below_append hb4 hown4 (Nat.le_refl _) hg5 hb4.size
              go_wp2_with fail
              go_roundw
              case rel =>
                refine ⟨k + 1, m + 1 + p, xs ++ [13] ++ bs, by omega, by go_num, ?_, by omega, ?_, ?_, hb5⟩
                · rw [List.length_append, List.length_append, HXM.out, HP.out]; rfl
                · refine hide ?_; rw [HSTEP.out, HQ.out, hend]
                · rw [List.append_assoc, List.map_append, List.map_append]; exact hown5
              case measure => simp [intOf]; omega
            · have h3I : ¬ (0 : Int) < (p : Int) := by omega
              have hend : endOf q bs = [10] := by unfold endOf; rw [if_neg h1, if_neg (by rw [HP.out]; exact fun hh => h3 hh.2)]
              go_wp2_with (at_builtin; refine wpList_append_rd _ rfl _ _ 26 rfl w1.heap.size 21 i0 (.int .i32 0) 1 4 Tryd.underlying26 hi0 hz0 hz1 hz2 rfl (by decide) _ _ _ rfl (hown3.alloc _) _ _ 1 1 _ rfl (by rfl) (rd_runes _ [10] _ (Nat.lt_succ_self _)) (one_i32 [10]) ?c3 ?c4 ?c5 ?_)
              case c3 => simp only [maxLen]; omega
              case c4 => omega
              case c5 => exact Nat.le_trans hb3.size (by simp)
              intro v4 w4 hown4 hg4 hat4
              have hb4 := below_append (hb3.alloc hb3.size _) (hown3.alloc _) (Nat.le_refl _) hg4 (Nat.le_trans hb3.size (by simp))
              obtain ⟨A4, c4, rfl, _, _⟩ := own_slice hown4
              have hr4 : Rd w4 w2.heap.size A2 (bs.map (Value.int .i32)) := rd_grown_other hown2 hown3 hg4 hat3
              go_wp2_with (at_builtin; refine wpList_append_rd _ rfl _ _ 26 rfl w1.heap.size 21 i0 (.int .i32 0) 1 4 Tryd.underlying26 hi0 hz0 hz1 hz2 rfl (by decide) _ _ _ rfl hown4 w2.heap.size A2 p c2 _ rfl ?d1 hr4 (one_i32 bs) ?d3 ?d4 ?d5 ?_)
              case d1 => rw [List.length_map, HP.out, Nat.mul_one]
              case d3 => simp only [maxLen]; omega
              case d4 => omega
              case d5 => exact hb4.size
              intro v5 w5 hown5 hg5 hat5
              have hb5 := below_append hb4 hown4 (Nat.le_refl _) hg5 hb4.size
              go_wp2_with fail
              go_roundw
              case rel =>
                refine ⟨k + 1, m + 1 + p, xs ++ [10] ++ bs, by omega, by go_num, ?_, by omega, ?_, ?_, hb5⟩
                · rw [List.length_append, List.length_append, HXM.out, HP.out]; rfl
                · refine hide ?_; rw [HSTEP.out, HQ.out, hend]
                · rw [List.append_assoc, List.map_append, List.map_append]; exact hown5
              case measure => simp [intOf]; omega
          · have b2 : (q.tmod 3 == 2) = false := by rw [beq_eq_false_iff_ne]; exact h2
            have hend : endOf q bs = [10] := by unfold endOf; rw [if_neg h1, if_neg (fun hh => h2 hh.1)]
            go_wp2_with (at_builtin; refine wpList_append_rd _ rfl _ _ 26 rfl w1.heap.size 21 i0 (.int .i32 0) 1 4 Tryd.underlying26 hi0 hz0 hz1 hz2 rfl (by decide) _ _ _ rfl (hown3.alloc _) _ _ 1 1 _ rfl (by rfl) (rd_runes _ [10] _ (Nat.lt_succ_self _)) (one_i32 [10]) ?c3 ?c4 ?c5 ?_)
            case c3 => simp only [maxLen]; omega
            case c4 => omega
            case c5 => exact Nat.le_trans hb3.size (by simp)
            intro v4 w4 hown4 hg4 hat4
            have hb4 := below_append (hb3.alloc hb3.size _) (hown3.alloc _) (Nat.le_refl _) hg4 (Nat.le_trans hb3.size (by simp))
            obtain ⟨A4, c4, rfl, _, _⟩ := own_slice hown4
            have hr4 : Rd w4 w2.heap.size A2 (bs.map (Value.int .i32)) := rd_grown_other hown2 hown3 hg4 hat3
            go_wp2_with (at_builtin; refine wpList_append_rd _ rfl _ _ 26 rfl w1.heap.size 21 i0 (.int .i32 0) 1 4 Tryd.underlying26 hi0 hz0 hz1 hz2 rfl (by decide) _ _ _ rfl hown4 w2.heap.size A2 p c2 _ rfl ?d1 hr4 (one_i32 bs) ?d3 ?d4 ?d5 ?_)
            case d1 => rw [List.length_map, HP.out, Nat.mul_one]
            case d3 => simp only [maxLen]; omega
            case d4 => omega
            case d5 => exact hb4.size
            intro v5 w5 hown5 hg5 hat5
            have hb5 := below_append hb4 hown4 (Nat.le_refl _) hg5 hb4.size
            go_wp2_with fail
            go_roundw
            case rel =>
              refine ⟨k + 1, m + 1 + p, xs ++ [10] ++ bs, by omega, by go_num, ?_, by omega, ?_, ?_, hb5⟩
              · rw [List.length_append, List.length_append, HXM.out, HP.out]; rfl
              · refine hide ?_; rw [HSTEP.out, HQ.out, hend]
              · rw [List.append_assoc, List.map_append, List.map_append]; exact hown5
            case measure => simp [intOf]; omega
    · have hkn : k = n := by omega
      subst hkn
      have hlines := (spl_all f E k).1
      rw [hxs.out] at hlines
      go_wp2_with fail
      refine (Lines_any Av m cv wr.heap.size xs _ (Rd.of_own hown) (Nat.le_refl _) HXM.out (by omega)).mono ?_
      rintro e w2 ⟨v2, cs2, rfl, hown2, hrows2, hb2⟩
      have hB2 := hB.trans (hb2.mono hB.size)
      rw [hlines] at hrows2
      have hlen : cs2.length = k + 1 := by rw [hrows2.len]; simp
      rw [hlen] at hown2
      obtain ⟨A2, c2, rfl, hc21, hc22⟩ := own_slice hown2
      have rd2 := rows_rd hown2 hrows2
      obtain ⟨ad2, Aj, cj, rfl, hj1, hj2, hj3⟩ := rd2 0 [120] rfl
      have hj2' : w2.cell? ad2 = some (.slice Aj 1 cj) := by
        have e0 : ad2.add 0 = ad2 := by simp [Addr.add]
        rw [e0] at hj2
        exact hj2
      clear hj2 hown hown2 hrows2
      go_wp2_with fail
      refine (alike_b Aj _ 1 cj 1 w2.heap.size (w2.heap.size + 1) [120] _ (hj3.alloc (Nat.le_refl _) _) (rd_runes w2 [120] _ (by omega)) rfl (by simp only [maxLen]; omega)).mono ?_
      rintro e w3 ⟨rfl, hb3⟩
      have hb23 : Below w2.heap.size w2 w3 := ((Below.refl _ _).alloc (Nat.le_refl _) _).trans (hb3.mono (by simp))
      have hB3 := hB2.trans (hb23.mono hB2.size)
      have HLI := hide hlines
      clear hb3 hlines hj3 hj2'
      go_wp2_with fail
      go_loopw [10] (fun i wr => ∃ j : Nat, j ≤ k ∧ i = .int .i64 j ∧ Below w3.heap.size w3 wr) (fun i _ => k - (intOf i).toNat)
      case atStart => exact ⟨0, Nat.zero_le _, rfl, Below.refl _ _⟩
      case round =>
        obtain ⟨j, hjk, rfl, hbr⟩ := hrel
        have hBr := hB3.trans (hbr.mono hB3.size)
        have hb2r := hb23.trans (hbr.mono hb23.size)
        by_cases hlt : j < k
        · have hjI : (j : Int) < (k : Int) := by omega
          obtain ⟨ad2', Ag, cg, e2, had2, hg2, hg3⟩ := (rowsrd_below rd2 hb2r (Nat.le_refl _)) (j + 1) (bareL (f j)) (by simp [hlt])
          injection e2 with e2
          subst e2
          rw [add_succ] at hg2
          obtain ⟨adl, Al, cl, rfl, _, hl2, hl3⟩ := (rows_at_below hr hBr (Nat.le_refl _)) j hlt
          have hfl : (f j).length ≤ 1048576 := by
            have h1 := sumLen_mono f (show j + 1 ≤ k by omega)
            have h2 := HSUM.out
            have h3 : sumLen f (j + 1) = sumLen f j + (f j).length := rfl
            omega
          have hbl := bareL_len (f j)
          go_wp2_with fail
          have hwj : IntKind.i64.wrap ((j : Int) + 1) = (j : Int) + 1 := by simp [IntKind.wrap, IntKind.bits, IntKind.signed]; omega
          have hj0 : 0 ≤ (j : Int) + 1 := by omega
          have hjn : ((j : Int) + 1).toNat = j + 1 := by omega
          have hjk1 : (j : Int) + 1 < (k : Int) + 1 := by omega
          have hbd : Below w3.heap.size w3 wr.drew := below_drewN' hbr 1
          have hBd : w.heap.size ≤ wr.drew.heap.size := hBr.size
          have hld : Rd wr.drew w.heap.size Al ((f j).map (Value.int .i32)) := hl3.keep (fun _ _ => rfl)
          have hgd : Rd wr.drew w2.heap.size Ag ((bareL (f j)).map (Value.int .i32)) := hg3.keep (fun _ _ => rfl)
          have h2d : w2.heap.size ≤ wr.drew.heap.size := hb2r.size
          have had : ad2.block < wr.drew.heap.size := Nat.lt_of_lt_of_le had2 h2d
          have hfl4 : (f j).length ≤ 4194304 := by omega
          have hblm : (bareL (f j)).length ≤ maxLen := by simp only [maxLen]; omega
          go_region_with (first
            | (go_at_call 27
               refine (bare_any Al (f j).length cl w.heap.size (f j) wr.drew hld hBd rfl hfl4).mono ?_
               rintro e w9 ⟨v9, rfl, hown9, hb9⟩
               obtain ⟨A9, c9, rfl, h91, h92⟩ := own_slice hown9
               have hg9 := (hb9.cell (p := ⟨ad2.block, ad2.off + (j + 1), none⟩) had).trans hg2
               have hgw := hgd.below' hb9 h2d
               have hb39 := hbd.trans (hb9.mono hbd.size))
            | (go_at_call 19
               refine (alike_b Ag A9 (bareL (f j)).length cg c9 w2.heap.size w9.heap.size (bareL (f j)) w9 hgw (Rd.of_own hown9) rfl hblm).mono ?_
               rintro e w10 ⟨rfl, hb10⟩
               have hb310 := hb39.trans (hb10.mono hb39.size)))
          all_goals (go_wp2_with fail; go_roundw)
          all_goals first
            | exact ⟨j + 1, by omega, by go_num, hb310⟩
            | (simp [intOf]; omega)
        · go_wp2_with fail
          go_ret
          exact ⟨rfl, hBr⟩

/-! the frame -/
theorem cells_rune : Tryd.prog.cellsOf 21 = 1 := by kernel_rfl
theorem cells_byte : Tryd.prog.cellsOf 5 = 1 := by kernel_rfl
theorem cells_int : Tryd.prog.cellsOf 3 = 1 := by kernel_rfl
theorem cells_runes : Tryd.prog.cellsOf 26 = 1 := by kernel_rfl
theorem cells_bytes : Tryd.prog.cellsOf 24 = 1 := by kernel_rfl

/-- what the walk gives, for every argument within the bound and every world that holds the tables -/
theorem contract (H : Type) (enc : TypeId × Value → H) (W : World) (base : Nat) (args : Array Value) (ds gs : List (DataW H)) (before : List MemPlace)
    (hval : ∀ (j : Nat) t v, Tryd.f8.params[j]? = some t → args[j]? = some v → Value.okWide Tryd.prog W .any base t v)
    (hW : DataW.Whole enc Tryd.prog Tryd.f8.params.toList Rows.utfSplicesSpec.vars false W args.toList ds gs before) (hk : Rows.uptoSmall H (ds ++ gs) = true) (hL : laidMetH Tryd.prog tabs.laid2 W) :
    Calls Tryd.prog 8 args W fun e W' => ∃ v, e = .returned v ∧ Rows.utfSplicesSpec.post enc Tryd.prog Tryd.f8 false true false false W args v W' := by
  have hT : Lib.Utf8Tabs 0 1 W := tabs.tabs_of hL
  have hW' := hW
  obtain ⟨p, q, hA0, hV, rfl, hfz, hnd⟩ := hW
  have hA : DataW.TrodAll enc Tryd.prog W 0 (fun _ => true) true Tryd.f8.params.toList args.toList ds p := hA0
  rw [Tryd.params8] at hA hval
  obtain ⟨v0, vs0, d0, ds0, p0, q0, hargs, rfl, rfl, h0, r0⟩ := trodAll_cons hA
  obtain ⟨v1, vs1, d1, ds1, p1, q1, rfl, rfl, rfl, h1, r1⟩ := trodAll_cons r0
  obtain ⟨rfl, rfl, rfl⟩ := trodAll_nil r1
  obtain rfl : args = #[v0, v1] := by cases args; simp_all
  obtain ⟨rfl, rfl⟩ := trodVars_none hV
  have hbulk := tabs.bound hk
  simp only [List.append_nil, Rows.uptoBulkAll] at hbulk
  clear hk
  have fin : ∀ (e : Ending) (W' : World), (e = .returned (.bool true) ∧ Below W.heap.size W W') → ∃ v, e = .returned v ∧ Rows.utfSplicesSpec.post enc Tryd.prog Tryd.f8 false true false false W #[v0, v1] v W' := fun e W' ⟨he, hb⟩ => by
    subst he
    refine ⟨_, rfl, law_post rfl rfl rfl rfl tabs.laidOut ?_ (by kernel_rfl) Tryd.underlying4 hW' hb⟩
    rw [Tryd.params8]
    intro t ht
    simp only [List.mem_cons, List.mem_nil_iff, or_false] at ht
    rcases ht with rfl | rfl
    all_goals exact ⟨by kernel_rfl, of_decide_eq_true (by kernel_rfl)⟩
  obtain ⟨A, n, c, D, rfl, hx1, hx2, hrow, hd⟩ := rd_rows Tryd.underlying28 Tryd.underlying26 Tryd.underlying21 cells_runes cells_rune (hval 0 28 v0 rfl rfl) h0
  obtain ⟨A2, n2, c2, es, rfl, hl1, hn1, hm1, hr1, hw1, hd1⟩ := rd_ints Tryd.underlying41 Tryd.underlying3 cells_int (hval 1 41 v1 rfl rfl) h1
  have hs1 : n2 ≤ 1048576 := by
    rcases hd1 with ⟨_, h⟩ | ⟨r, hd, _⟩
    · omega
    · have i1 := tabs.slice_le (lits (H := H) .i64 es) (lits .i64 r)
      rw [hd] at hbulk
      have e1 : (lits (H := H) .i64 es).length = es.length := by simp [lits]
      have e2 : (lits (H := H) .i64 r).length = r.length := by simp [lits]
      omega
  obtain ⟨f, hf⟩ := Classical.axiomOfChoice (r := fun (r : Nat) (l : List Int) => r < n → ∃ ad Ar m cr, A = some ad ∧ ad.block < W.heap.size ∧ W.cell? (ad.add r) = some (.slice Ar m cr) ∧ l.length = m ∧ Rd W W.heap.size Ar (l.map (Value.int .i32)) ∧ l.length ≤ Rows.uptoBulk (D r)) (fun r => by
    by_cases hr : r < n
    · obtain ⟨ad, A', m, c', zs, e1, e2, e3, e4, e5, e6, e7, e8, e9⟩ := hrow r hr
      exact ⟨zs, fun _ => ⟨ad, A', m, c', e1, e2, e3, e4, e7, tabs.ints_le e9⟩⟩
    · exact ⟨[], fun h => absurd h hr⟩)
  have hR : RowsAt W W.heap.size A n f := fun r hr => by
    obtain ⟨ad, Ar, m, cr, e1, e2, e3, e4, e5, _⟩ := hf r hr
    exact ⟨ad, Ar, cr, e1, e2, by rw [e4]; exact e3, e5⟩
  have hall : n ≤ 1048576 ∧ sumLen f n ≤ 1048576 := by
    rcases hd with ⟨_, hz⟩ | ⟨sp, hd, _⟩
    · subst hz; exact ⟨by omega, Nat.zero_le _⟩
    · have i1 := tabs.slice_le ((List.range n).map D) sp
      have i2 := sum_le (f := f) (D := D) n (fun r hr => by obtain ⟨_, _, _, _, _, _, _, _, _, h⟩ := hf r hr; exact h)
      have i3 : Rows.uptoBulkAll ((List.range n).map D) ≤ Rows.uptoBulk (.slice ((List.range n).map D) sp) := by simp only [Rows.uptoBulk]; omega
      rw [hd] at hbulk
      rw [List.length_map, List.length_range] at i1
      omega
  exact (walk A A2 n c n2 c2 f es W hR hr1 hl1 hall.1 hs1 hall.2 hT).mono fin

theorem reads (os : Os) {H : Type} (enc : TypeId × Value → H) : ∃ places, DataW.whole enc Tryd.prog ((tabs.laidWorld os).forCall (fun _ _ => 0) ⟨#[], #[.slice none 0 0, .slice none 0 0], []⟩).memory Tryd.f8.params.toList Rows.utfSplicesSpec.vars false (#[.slice none 0 0, .slice none 0 0] : Array Value).toList 8 = some ([.nil, .nil], [], places) :=
  ⟨[], by kernel_rfl⟩

set_option maxRecDepth 100000 in
theorem lifted (os : Os) (started : os.Started) (H : Type) (enc : TypeId × Value → H) (F : Stop.Interp) :
    ReturnsInHanded {} Tryd.checked os 8 .any ((Rows.OpenSpec.upto Rows.utfSplicesSpec).preRow enc Tryd.prog Tryd.f8 Rows.utfSplicesUptoRow.domain false Rows.utfSplicesUptoRow.laid) (((Rows.OpenSpec.upto Rows.utfSplicesSpec).at F).post enc Tryd.prog Tryd.f8 false true false false) := by
  obtain ⟨places, hx⟩ := reads os enc
  refine returnsInHanded_of_row (C := Tryd.checked) (s := Rows.OpenSpec.upto Rows.utfSplicesSpec) tabs.own started (by kernel_rfl) Tryd.func8
    (witness_row_at (enc := enc) (C := Tryd.checked) false (tabs.laidWorld os) #[.slice none 0 0, .slice none 0 0] rfl (by kernel_rfl) (by kernel_rfl) (by kernel_rfl)
      (OpenSpec.preRow_of_cond 8 hx (by kernel_rfl) (fun k hk => by cases hk; kernel_rfl) (by kernel_rfl) (tabs.laid_met os _))) ?_
  intro W base args ds gs before hval hW _ hcond _ hL _ _
  exact contract H enc W base args ds gs before hval hW (hcond _ rfl) hL

theorem saidUpto : Rows.UtfSplicesUptoSaid :=
  OpenClaim.holds_of_cond 8 Tryd.f8 rfl rfl rfl rfl rfl rfl rfl ⟨rfl, rfl, rfl, rfl, rfl⟩ rfl rfl rfl rfl rfl (by kernel_rfl) Tryd.func8 (by kernel_rfl)
    (of_decide_eq_true (by kernel_rfl)) (by unfold Func.isWrapper; first | (rw [if_pos (by decide +kernel)]; kernel_rfl) | (rw [if_neg (by decide +kernel)]; exact ⟨rfl, rfl⟩))
    (fun os started H enc _ F => by rw [OpenClaim.pre_eq_preRow]; exact lifted os started H enc F)

theorem plain (f : FuncId) (fn : Func) (hf : Tryd.pinned.checked.prog.funcNamed Rows.utfSplicesUptoRow.func = some f) (hfn : Tryd.pinned.checked.prog.funcs[f]? = some fn) :
    false = Tryd.pinned.checked.prog.looks [] ∧ ∀ (j : Nat) t, fn.params[j]? = some t → Tryd.pinned.checked.prog.wantsStandIn t = false := by
  obtain rfl : f = 8 := Option.some.inj ((show Tryd.prog.funcNamed Rows.utfSplicesUptoRow.func = some 8 by kernel_rfl).symm.trans hf) |>.symm
  obtain rfl : fn = Tryd.f8 := (Option.some.inj (Tryd.func8.symm.trans hfn)).symm
  refine ⟨by kernel_rfl, fun j t ht => ?_⟩
  rw [Tryd.params8] at ht
  have hm := Array.mem_of_getElem? ht
  simp only [List.mem_toArray, List.mem_cons, List.mem_nil_iff, or_false] at hm
  rcases hm with rfl | rfl
  all_goals exact (show Tryd.prog.wantsStandIn _ = false by kernel_rfl)

/-- the statement: the second form's card -/
theorem card : Rows.UtfSplicesUptoCardSaid :=
  Claim7.holds_tied_plain_at .later [] _ _ _ _ saidUpto (fun _ h => by cases h) (by kernel_rfl) (fun _ h => by cases h) utfSplicesUpto_row_tie rfl ⟨rfl, rfl⟩ (by kernel_rfl) rfl plain (by kernel_rfl)
#print axioms card
end Go.Proofs.YtomkkagopjpfkaaDoor.utfSplices
