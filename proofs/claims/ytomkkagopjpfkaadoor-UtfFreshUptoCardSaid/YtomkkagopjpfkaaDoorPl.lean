/-
  Places as plain pairs. No program is in sight.
-/
import Derived.Test.YtomkkagopjpfkaaDoorLn
namespace Go.Proofs.YtomkkagopjpfkaaDoor.ln

/-- line and column of the character number k -/
def pl (zs : List Int) : Nat → Nat × Nat
  | 0 => (1, 1)
  | k + 1 => if endAt zs k = true then ((pl zs k).1 + 1, 1) else ((pl zs k).1, (pl zs k).2 + 1)
theorem pl_end {zs : List Int} {k : Nat} (h : endAt zs k = true) : pl zs (k + 1) = ((pl zs k).1 + 1, 1) := by simp [pl, h]
theorem pl_same {zs : List Int} {k : Nat} (h : endAt zs k = false) : pl zs (k + 1) = ((pl zs k).1, (pl zs k).2 + 1) := by simp [pl, h]
theorem pl_le (zs : List Int) : ∀ k, 1 ≤ (pl zs k).1 ∧ (pl zs k).1 ≤ k + 1 ∧ 1 ≤ (pl zs k).2 ∧ (pl zs k).2 ≤ k + 1
  | 0 => by simp [pl]
  | k + 1 => by
    have := pl_le zs k
    cases h : endAt zs k with
    | true => rw [pl_end h]; dsimp only; omega
    | false => rw [pl_same h]; dsimp only; omega
/-- by the beginnings of the lines -/
theorem pl_starts (zs : List Int) : ∀ k, pl zs k = ((starts zs k).length, k - st zs k + 1)
  | 0 => by simp [pl, starts, st]
  | k + 1 => by
    have ih := pl_starts zs k
    have hs := st_le zs k
    cases h : endAt zs k with
    | true => rw [pl_end h, ih, starts_end h, st_end h]; simp
    | false =>
      rw [pl_same h, ih, starts_same h, st_same h]
      dsimp only
      rw [show k + 1 - st zs k = k - st zs k + 1 by omega]
/-- the beginnings up to i are the first of all of them -/
theorem starts_take (zs : List Int) (i : Nat) : ∀ k, i ≤ k → (starts zs k).take (starts zs i).length = starts zs i
  | 0, h => by
    obtain rfl : i = 0 := by omega
    exact List.take_length
  | k + 1, h => by
    by_cases hik : i = k + 1
    · subst hik; exact List.take_length
    · have ih := starts_take zs i k (by omega)
      have hl : (starts zs i).length ≤ (starts zs k).length := by
        have := congrArg List.length ih
        rw [List.length_take] at this
        omega
      cases he : endAt zs k with
      | true => rw [starts_end he, List.take_append_of_le_length hl]; exact ih
      | false => rw [starts_same he]; exact ih
/-- a place within the line number j -/
theorem pl_in {zs : List Int} {n j a i : Nat} (hj : (starts zs n)[j]? = some a) (ha : a ≤ i) (hin : i ≤ n) (hb : ∀ b, (starts zs n)[j + 1]? = some b → i < b) : pl zs i = (j + 1, i - a + 1) := by
  have ht := starts_take zs i n hin
  have hpos := starts_pos zs i
  have hlen : (starts zs i).length ≤ (starts zs n).length := by
    have := congrArg List.length ht
    rw [List.length_take] at this
    omega
  have hat : ∀ q, q < (starts zs i).length → (starts zs n)[q]? = (starts zs i)[q]? := fun q hq => by
    rw [← ht, List.getElem?_take, if_pos hq]
  -- the line number j has begun
  have h1 : j < (starts zs i).length := by
    rcases Nat.lt_or_ge j (starts zs i).length with h | h
    · exact h
    · exfalso
      -- all beginnings behind the first (starts zs i).length are above i
      have key : ∀ k, i ≤ k → ∀ q s, (starts zs i).length ≤ q → (starts zs k)[q]? = some s → i < s := by
        intro k
        induction k with
        | zero =>
          intro hk q s hq hs
          obtain rfl : i = 0 := by omega
          have := (List.getElem?_eq_some_iff.1 hs).1
          omega
        | succ k ih =>
          intro hk q s hq hs
          by_cases hik : i = k + 1
          · subst hik
            have := (List.getElem?_eq_some_iff.1 hs).1
            omega
          · cases he : endAt zs k with
            | true =>
              rw [starts_end he, List.getElem?_append] at hs
              split at hs
              · exact ih (by omega) q s hq hs
              · have : s ∈ [k + 1] := List.mem_of_getElem? hs
                simp at this
                omega
            | false =>
              rw [starts_same he] at hs
              exact ih (by omega) q s hq hs
      have := key n hin j a h hj
      omega
  -- and no later one
  have h2 : (starts zs i).length = j + 1 := by
    rcases Nat.lt_or_ge (j + 1) (starts zs i).length with h | h
    · exfalso
      have hs := hat (j + 1) h
      rw [List.getElem?_eq_getElem h] at hs
      have h3 := hb _ hs
      have h4 := starts_at_le zs i (j + 1) _ (List.getElem?_eq_getElem h)
      omega
    · omega
  have hlast := starts_last zs i
  rw [h2, Nat.add_sub_cancel, ← hat j (by omega), hj] at hlast
  injection hlast with hlast
  rw [pl_starts, h2, ← hlast]
theorem line_le {zs : List Int} {j : Nat} {l : List Int} (h : (linesOf zs)[j]? = some l) : l.length ≤ zs.length := by
  have hj := (List.getElem?_eq_some_iff.1 h).1
  rw [lines_len] at hj
  have h1 := List.getElem?_eq_getElem hj
  by_cases h2 : j + 1 < (starts zs zs.length).length
  · rw [line_mid h1 (List.getElem?_eq_getElem h2)] at h
    injection h with h
    subst h
    unfold cut
    rw [List.length_drop, List.length_take]
    omega
  · rw [line_end h1 h2] at h
    injection h with h
    subst h
    unfold cut
    rw [List.length_drop, List.length_take]
    omega
/-- the places of all characters and of the end -/
def places (zs : List Int) (m : Nat) : List (Nat × Nat) := (List.range m).map (pl zs)
theorem places_snoc (zs : List Int) (m : Nat) : places zs (m + 1) = places zs m ++ [pl zs m] := by simp [places, List.range_succ]
theorem places_len (zs : List Int) (m : Nat) : (places zs m).length = m := by simp [places]
theorem places_at (zs : List Int) (m i : Nat) (h : i < m) : (places zs m)[i]? = some (pl zs i) := by simp [places, h]
end Go.Proofs.YtomkkagopjpfkaaDoor.ln
