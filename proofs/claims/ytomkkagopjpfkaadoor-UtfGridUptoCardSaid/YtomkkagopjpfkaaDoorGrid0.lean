/-
  Lines and places speak of one grid. No program is in sight.
-/
import Derived.Test.YtomkkagopjpfkaaDoorPl
namespace Go.Proofs.YtomkkagopjpfkaaDoor.ln

theorem starts_beyond (zs : List Int) (i : Nat) : ∀ k, i ≤ k → ∀ q s, (starts zs i).length ≤ q → (starts zs k)[q]? = some s → i < s := by
  intro k
  induction k with
  | zero =>
    intro hk q s hq hs
    obtain rfl : i = 0 := by omega
    have := (List.getElem?_eq_some_iff.1 hs).1
    omega
  | succ k ih =>
    intro hk q s hq hs
    by_cases hik : i = k + 1
    · subst hik
      have := (List.getElem?_eq_some_iff.1 hs).1
      omega
    · cases he : endAt zs k with
      | true =>
        rw [starts_end he, List.getElem?_append] at hs
        split at hs
        · exact ih (by omega) q s hq hs
        · have : s ∈ [k + 1] := List.mem_of_getElem? hs
          simp at this
          omega
      | false =>
        rw [starts_same he] at hs
        exact ih (by omega) q s hq hs
theorem at_start {zs : List Int} {n k : Nat} (hk : k ≤ n) : (starts zs n)[(starts zs k).length - 1]? = some (st zs k) := by
  have hp := starts_pos zs k
  have h := starts_last zs k
  rw [← starts_take zs k n hk, List.getElem?_take] at h
  have e : (List.take (starts zs k).length (starts zs n)).length = (starts zs k).length := by rw [starts_take zs k n hk]
  rw [starts_take zs k n hk] at h
  rw [if_pos (by omega)] at h
  exact h
theorem end_before {zs : List Int} {n j a i : Nat} (hj : (starts zs n)[j]? = some a) (ha : a ≤ i) (hi : i < n) (he : endAt zs i = true) : ∃ b, (starts zs n)[j + 1]? = some b ∧ b ≤ i + 1 := by
  apply Classical.byContradiction
  intro hno
  have hall : ∀ b, (starts zs n)[j + 1]? = some b → i + 1 < b := fun b hb => by
    apply Classical.byContradiction
    intro h
    exact hno ⟨b, hb, by omega⟩
  have h1 := pl_in hj ha (by omega) (fun b hb => by have := hall b hb; omega)
  have h2 := pl_in hj (i := i + 1) (by omega) (by omega) hall
  rw [pl_end he, h1] at h2
  have := congrArg Prod.fst h2
  dsimp only at this
  omega
theorem start_end (zs : List Int) : ∀ (n j b : Nat), (starts zs n)[j + 1]? = some b → 0 < b ∧ endAt zs (b - 1) = true
  | 0, j, b, h => by simp [starts] at h
  | n + 1, j, b, h => by
    cases he : endAt zs n with
    | true =>
      rw [starts_end he, List.getElem?_append] at h
      split at h
      · exact start_end zs n j b h
      · have : b ∈ [n + 1] := List.mem_of_getElem? h
        simp at this
        subst this
        exact ⟨by omega, by simpa using he⟩
    | false =>
      rw [starts_same he] at h
      exact start_end zs n j b h
theorem cut_at (zs : List Int) (a b i : Nat) : (cut zs a b)[i]? = if a + i < b then zs[a + i]? else none := by
  unfold cut
  rw [List.getElem?_drop, List.getElem?_take]

/-- a character stands in the line of its place at its column; a line end stands behind its line -/
theorem grid {zs : List Int} {k : Nat} (hk : k < zs.length) :
    ∃ l, (linesOf zs)[(pl zs k).1 - 1]? = some l ∧ ((ch zs k = 13 ∨ ch zs k = 10) → l.length < (pl zs k).2) ∧ (ch zs k ≠ 13 → ch zs k ≠ 10 → (pl zs k).2 ≤ l.length ∧ l[(pl zs k).2 - 1]? = some (ch zs k)) := by
  have hpos := starts_pos zs k
  have ha := at_start (zs := zs) (n := zs.length) (k := k) (by omega)
  have hst := st_le zs k
  have hno := no_end zs k
  rw [pl_starts]
  dsimp only
  obtain ⟨j, hj⟩ : ∃ j, (starts zs k).length = j + 1 := ⟨(starts zs k).length - 1, by omega⟩
  rw [hj] at ha ⊢
  simp only [Nat.add_sub_cancel] at ha ⊢
  obtain ⟨a, hae⟩ : ∃ a, st zs k = a := ⟨_, rfl⟩
  rw [hae] at ha hst hno ⊢
  have hget : zs[k]? = some (ch zs k) := by unfold ch; rw [List.getD_eq_getElem?_getD, List.getElem?_eq_getElem hk]; rfl
  by_cases hn : ∃ b, (starts zs zs.length)[j + 1]? = some b
  · obtain ⟨b, hb⟩ := hn
    have hkb : k < b := starts_beyond zs k zs.length (by omega) (j + 1) b (by omega) hb
    have hbn := starts_at_le zs zs.length (j + 1) b hb
    obtain ⟨hb0, hbe⟩ := start_end zs zs.length j b hb
    have hfirst : ∀ i, a ≤ i → i < zs.length → endAt zs i = true → b ≤ i + 1 := fun i h1 h2 h3 => by
      obtain ⟨b', hb', hle⟩ := end_before ha h1 h2 h3
      rw [hb] at hb'
      injection hb' with hb'
      omega
    refine ⟨_, line_mid ha hb, ?_, ?_⟩
    · intro hc
      rw [cut_len (by unfold segEnd; split <;> omega)]
      cases he : endAt zs k with
      | true =>
        have := hfirst k hst hk he
        unfold segEnd
        split <;> omega
      | false =>
        obtain ⟨h1, h2⟩ := of_not_end he
        rcases hc with hc | hc
        · obtain ⟨h3, h4⟩ := h2 hc
          have := hfirst (k + 1) (by omega) h3 (endAt_lf h4)
          have hbk : b ≠ k + 1 := by
            intro e
            rw [e] at hbe
            simp at hbe
            rw [he] at hbe
            cases hbe
          have hb2 : b = k + 2 := by omega
          subst hb2
          unfold segEnd
          rw [if_pos ⟨h4, by omega, by simpa using hc⟩]
          omega
        · exact absurd hc h1
    · intro h13 h10
      have hb1 : k ≠ b - 1 := by
        intro e
        rw [← e] at hbe
        rcases of_end hbe with h | ⟨h, _⟩
        · exact h10 h
        · exact h13 h
      have hs : k < segEnd zs a b := by
        unfold segEnd
        split
        · rename_i hh
          have : k ≠ b - 2 := by intro e; rw [← e] at hh; exact h13 hh.2.2
          omega
        · omega
      have hs2 : segEnd zs a b ≤ zs.length := by unfold segEnd; split <;> omega
      rw [cut_len hs2]
      refine ⟨by omega, ?_⟩
      rw [cut_at, if_pos (by omega), show a + (k - a) = k by omega]
      exact hget
  · have hnone : ∀ i, a ≤ i → i < zs.length → endAt zs i = false := fun i h1 h2 => by
      cases he : endAt zs i with
      | false => rfl
      | true =>
        obtain ⟨b, hb, _⟩ := end_before ha h1 h2 he
        exact absurd ⟨b, hb⟩ hn
    have hlast : ¬ j + 1 < (starts zs zs.length).length := fun h => hn ⟨_, List.getElem?_eq_getElem h⟩
    refine ⟨_, line_end ha hlast, ?_, ?_⟩
    · intro hc
      exfalso
      obtain ⟨h1, h2⟩ := of_not_end (hnone k hst hk)
      rcases hc with hc | hc
      · obtain ⟨h3, h4⟩ := h2 hc
        exact (of_not_end (hnone (k + 1) (by omega) h3)).1 h4
      · exact h1 hc
    · intro h13 h10
      rw [cut_len (Nat.le_refl _)]
      refine ⟨by omega, ?_⟩
      rw [cut_at, if_pos (by omega), show a + (k - a) = k by omega]
      exact hget
theorem grid_last (zs : List Int) : (pl zs zs.length).1 = (linesOf zs).length := by rw [pl_starts, lines_len]
theorem grid_line {zs : List Int} {k : Nat} (hk : k ≤ zs.length) : 1 ≤ (pl zs k).1 ∧ (pl zs k).1 ≤ (linesOf zs).length := by
  rw [pl_starts, lines_len]
  dsimp only
  have := congrArg List.length (starts_take zs k zs.length hk)
  rw [List.length_take] at this
  have := starts_pos zs k
  omega
end Go.Proofs.YtomkkagopjpfkaaDoor.ln
