/-
  Lines that are put together are cut apart again. No program is in sight.
-/
import Derived.Test.YtomkkagopjpfkaaDoorPl
namespace Go.Proofs.YtomkkagopjpfkaaDoor.ln

def bareL (l : List Int) : List Int := l.filter fun c => decide (c ≠ 13 ∧ c ≠ 10)
theorem bareL_clean (l : List Int) : ∀ c ∈ bareL l, c ≠ 13 ∧ c ≠ 10 := fun c h => by
  unfold bareL at h
  exact of_decide_eq_true (List.mem_filter.1 h).2
theorem bareL_len (l : List Int) : (bareL l).length ≤ l.length := List.length_filter_le _ _
def LastOk (zs : List Int) : Prop := zs ≠ [] ∧ ch zs (zs.length - 1) ≠ 13

theorem ch_left {zs s : List Int} {i : Nat} (h : i < zs.length) : ch (zs ++ s) i = ch zs i := by
  unfold ch
  rw [List.getD_eq_getElem?_getD, List.getD_eq_getElem?_getD, List.getElem?_append, if_pos h]
theorem ch_right (zs s : List Int) (i : Nat) : ch (zs ++ s) (zs.length + i) = ch s i := by
  unfold ch
  rw [List.getD_eq_getElem?_getD, List.getD_eq_getElem?_getD, List.getElem?_append, if_neg (by omega)]
  congr 2
  omega
theorem endAt_left {zs s : List Int} (h : LastOk zs) {i : Nat} (hi : i < zs.length) : endAt (zs ++ s) i = endAt zs i := by
  have e := ch_left (s := s) hi
  unfold endAt
  rw [e]
  by_cases h13 : ch zs i = 13
  · have hne : i ≠ zs.length - 1 := by intro he; rw [he] at h13; exact h.2 h13
    rw [ch_left (s := s) (show i + 1 < zs.length by omega)]
    have : i + 1 < (zs ++ s).length := by rw [List.length_append]; omega
    have hz : i + 1 < zs.length := by omega
    simp only [this, hz, true_and]
  · simp [h13]
theorem st_left {zs s : List Int} (h : LastOk zs) : ∀ k, k ≤ zs.length → st (zs ++ s) k = st zs k
  | 0, _ => rfl
  | k + 1, hk => by
    show (if endAt (zs ++ s) k = true then k + 1 else st (zs ++ s) k) = if endAt zs k = true then k + 1 else st zs k
    rw [endAt_left h (by omega), st_left h k (by omega)]
theorem cut_left {zs s : List Int} {a b : Nat} (hb : b ≤ zs.length) : cut (zs ++ s) a b = cut zs a b := by
  unfold cut
  rw [List.take_append_of_le_length hb]
theorem segEnd_left {zs s : List Int} {a b : Nat} (hb : b ≤ zs.length) (h0 : 0 < b) : segEnd (zs ++ s) a b = segEnd zs a b := by
  unfold segEnd
  rw [ch_left (s := s) (show b - 1 < zs.length by omega), ch_left (s := s) (show b - 2 < zs.length by omega)]
theorem segEnd_le (zs : List Int) (a b : Nat) : segEnd zs a b ≤ b := by unfold segEnd; split <;> omega
theorem done_left {zs s : List Int} (h : LastOk zs) : ∀ k, k ≤ zs.length → done (zs ++ s) k = done zs k
  | 0, _ => rfl
  | k + 1, hk => by
    show (if endAt (zs ++ s) k = true then done (zs ++ s) k ++ [cut (zs ++ s) (st (zs ++ s) k) (segEnd (zs ++ s) (st (zs ++ s) k) (k + 1))] else done (zs ++ s) k) = if endAt zs k = true then done zs k ++ [cut zs (st zs k) (segEnd zs (st zs k) (k + 1))] else done zs k
    rw [endAt_left h (by omega), done_left h k (by omega), st_left h k (by omega), segEnd_left hk (by omega), cut_left (Nat.le_trans (segEnd_le _ _ _) hk)]
/-- what stands there before the next end -/
theorem before {zs s : List Int} (h : LastOk zs) : done (zs ++ s) zs.length ++ [cur (zs ++ s) zs.length] = linesOf zs := by
  unfold linesOf
  rw [done_left h _ (Nat.le_refl _)]
  unfold cur
  have h0 := List.length_pos_iff.2 h.1
  rw [if_neg (by rintro ⟨_, hh⟩; rw [ch_left (by omega)] at hh; exact h.2 hh), st_left h _ (Nat.le_refl _), cut_left (Nat.le_refl _)]
/-- characters that are no line ends -/
theorem tail (pre b : List Int) (hb : ∀ c ∈ b, c ≠ 13 ∧ c ≠ 10) : ∀ i, i ≤ b.length → done (pre ++ b) (pre.length + i) = done (pre ++ b) pre.length ∧ cur (pre ++ b) (pre.length + i) = cur (pre ++ b) pre.length ++ b.take i
  | 0, _ => by simp
  | i + 1, hi => by
    obtain ⟨h1, h2⟩ := tail pre b hb i (by omega)
    have hc := ch_right pre b i
    have hm : ch b i = b[i] := by unfold ch; rw [List.getD_eq_getElem?_getD, List.getElem?_eq_getElem (by omega)]; rfl
    have hn := hb b[i] (List.getElem_mem _)
    rw [hm] at hc
    have he : endAt (pre ++ b) (pre.length + i) = false := endAt_other (by rw [hc]; exact hn.2) (by rw [hc]; exact hn.1)
    obtain ⟨g1, g2⟩ := cur_ch (zs := pre ++ b) (k := pre.length + i) (by rw [List.length_append]; omega) he (by rw [hc]; exact hn.1)
    refine ⟨by rw [← Nat.add_assoc, g1, h1], ?_⟩
    rw [← Nat.add_assoc, g2, h2, hc, List.take_succ_eq_append_getElem (by omega), List.append_assoc]
theorem last_of {pre b : List Int} (hp : pre ≠ []) (h : b = [] → ch pre (pre.length - 1) ≠ 13) (hb : ∀ c ∈ b, c ≠ 13 ∧ c ≠ 10) : LastOk (pre ++ b) := by
  refine ⟨by simp [hp], ?_⟩
  have h0 := List.length_pos_iff.2 hp
  rw [List.length_append]
  cases hbl : b.length with
  | zero =>
    have e : b = [] := List.eq_nil_of_length_eq_zero hbl
    subst e
    rw [List.append_nil]
    exact h rfl
  | succ m =>
    have e : pre.length + (m + 1) - 1 = pre.length + m := by omega
    rw [e, ch_right]
    have hm : ch b m = b[m]'(by omega) := by unfold ch; rw [List.getD_eq_getElem?_getD, List.getElem?_eq_getElem (by omega)]; rfl
    rw [hm]
    exact (hb _ (List.getElem_mem _)).1
theorem close {pre b : List Int} {L : List (List Int)} (hb : ∀ c ∈ b, c ≠ 13 ∧ c ≠ 10) (h1 : done (pre ++ b) pre.length = L) (h2 : cur (pre ++ b) pre.length = []) : linesOf (pre ++ b) = L ++ [b] := by
  obtain ⟨g1, g2⟩ := tail pre b hb b.length (Nat.le_refl _)
  rw [linesOf_eq, List.length_append, g1, g2, h1, h2, List.take_length, List.nil_append]
/-- one more line behind a LF -/
theorem more_lf {zs b : List Int} (h : LastOk zs) (hb : ∀ c ∈ b, c ≠ 13 ∧ c ≠ 10) : linesOf (zs ++ [10] ++ b) = linesOf zs ++ [b] ∧ LastOk (zs ++ [10] ++ b) := by
  have hlen : (zs ++ [10]).length = zs.length + 1 := by simp
  have hc : ch (zs ++ ([10] ++ b)) zs.length = 10 := ch_right zs ([10] ++ b) 0
  obtain ⟨g1, g2⟩ := done_end (endAt_lf hc)
  have hbf := before (s := [10] ++ b) h
  refine ⟨close hb ?_ ?_, last_of (by simp) (fun _ => ?_) hb⟩
  · rw [hlen, List.append_assoc, g1, hbf]
  · rw [hlen, List.append_assoc, g2]
  · rw [hlen, Nat.add_sub_cancel]
    have := ch_right zs [10] 0
    rw [Nat.add_zero] at this
    rw [this]
    decide
theorem more_cr {zs b : List Int} (h : LastOk zs) (hb : ∀ c ∈ b, c ≠ 13 ∧ c ≠ 10) (hne : b ≠ []) : linesOf (zs ++ [13] ++ b) = linesOf zs ++ [b] ∧ LastOk (zs ++ [13] ++ b) := by
  have hlen : (zs ++ [13]).length = zs.length + 1 := by simp
  have hc : ch (zs ++ ([13] ++ b)) zs.length = 13 := ch_right zs ([13] ++ b) 0
  have hc1 : ch (zs ++ ([13] ++ b)) (zs.length + 1) ≠ 10 := by
    rw [ch_right zs ([13] ++ b) 1]
    cases b with
    | nil => exact absurd rfl hne
    | cons x r => exact (hb x (by simp)).2
  obtain ⟨g1, g2⟩ := done_end (endAt_cr hc (fun hh => hc1 hh.2))
  have hbf := before (s := [13] ++ b) h
  refine ⟨close hb ?_ ?_, last_of (by simp) (fun e => absurd e hne) hb⟩
  · rw [hlen, List.append_assoc, g1, hbf]
  · rw [hlen, List.append_assoc, g2]
theorem more_crlf {zs b : List Int} (h : LastOk zs) (hb : ∀ c ∈ b, c ≠ 13 ∧ c ≠ 10) : linesOf (zs ++ [13, 10] ++ b) = linesOf zs ++ [b] ∧ LastOk (zs ++ [13, 10] ++ b) := by
  have hlen : (zs ++ [13, 10]).length = zs.length + 1 + 1 := by simp
  have hc : ch (zs ++ ([13, 10] ++ b)) zs.length = 13 := ch_right zs ([13, 10] ++ b) 0
  have hc1 : ch (zs ++ ([13, 10] ++ b)) (zs.length + 1) = 10 := ch_right zs ([13, 10] ++ b) 1
  have he := endAt_crlf hc (by simp) hc1
  obtain ⟨f1, f2⟩ := cur_cr he hc
  obtain ⟨g1, g2⟩ := done_end (endAt_lf hc1)
  have hbf := before (s := [13, 10] ++ b) h
  refine ⟨close hb ?_ ?_, last_of (by simp) (fun _ => ?_) hb⟩
  · rw [hlen, List.append_assoc, g1, f1, f2, hbf]
  · rw [hlen, List.append_assoc, g2]
  · rw [hlen, Nat.add_sub_cancel]
    rw [ch_right zs [13, 10] 1]
    decide

/-- which end stands ahead of line i -/
def kindOf (E : List Int) (i : Nat) : Int := if i < E.length then E.getD i 0 else ((i : Int) % 3)
def endOf (k : Int) (b : List Int) : List Int := if k.tmod 3 = 1 then [13, 10] else if k.tmod 3 = 2 ∧ 0 < b.length then [13] else [10]
theorem more_any {zs b : List Int} (k : Int) (h : LastOk zs) (hb : ∀ c ∈ b, c ≠ 13 ∧ c ≠ 10) : linesOf (zs ++ endOf k b ++ b) = linesOf zs ++ [b] ∧ LastOk (zs ++ endOf k b ++ b) := by
  unfold endOf
  split
  · exact more_crlf h hb
  · split
    · rename_i hh
      exact more_cr h hb (List.length_pos_iff.1 hh.2)
    · exact more_lf h hb
def spl (f : Nat → List Int) (E : List Int) : Nat → List Int
  | 0 => [120]
  | i + 1 => spl f E i ++ endOf (kindOf E i) (bareL (f i)) ++ bareL (f i)
theorem spl_all (f : Nat → List Int) (E : List Int) : ∀ i, linesOf (spl f E i) = [120] :: (List.range i).map (fun j => bareL (f j)) ∧ LastOk (spl f E i)
  | 0 => ⟨by rfl, by simp [spl], by show ch [120] 0 ≠ 13; decide⟩
  | i + 1 => by
    obtain ⟨h1, h2⟩ := spl_all f E i
    obtain ⟨g1, g2⟩ := more_any (kindOf E i) h2 (bareL_clean (f i))
    refine ⟨?_, g2⟩
    show linesOf (spl f E i ++ endOf (kindOf E i) (bareL (f i)) ++ bareL (f i)) = _
    rw [g1, h1, List.range_succ, List.map_append]
    rfl
def sumLen (f : Nat → List Int) : Nat → Nat
  | 0 => 0
  | i + 1 => sumLen f i + (f i).length
theorem endOf_len (k : Int) (b : List Int) : (endOf k b).length ≤ 2 := by unfold endOf; split <;> (try split) <;> simp
theorem spl_len (f : Nat → List Int) (E : List Int) : ∀ i, (spl f E i).length ≤ 1 + 2 * i + sumLen f i
  | 0 => by simp [spl, sumLen]
  | i + 1 => by
    have h1 := spl_len f E i
    have h2 := endOf_len (kindOf E i) (bareL (f i))
    have h3 := bareL_len (f i)
    show (spl f E i ++ endOf (kindOf E i) (bareL (f i)) ++ bareL (f i)).length ≤ 1 + 2 * (i + 1) + (sumLen f i + (f i).length)
    rw [List.length_append, List.length_append]
    omega
theorem sumLen_mono (f : Nat → List Int) {i j : Nat} (h : i ≤ j) : sumLen f i ≤ sumLen f j := by
  induction j with
  | zero => have : i = 0 := by omega
            subst this; exact Nat.le_refl _
  | succ j ih =>
    by_cases he : i = j + 1
    · subst he; exact Nat.le_refl _
    · have := ih (by omega)
      show sumLen f i ≤ sumLen f j + (f j).length
      omega
end Go.Proofs.YtomkkagopjpfkaaDoor.ln
