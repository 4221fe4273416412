/-
  Lines as plain lists: where lines begin, what stands in them. No program is in sight.
-/
namespace Go.Proofs.YtomkkagopjpfkaaDoor.ln

def ch (zs : List Int) (i : Nat) : Int := zs.getD i 0
theorem ch_of {zs : List Int} {i : Nat} {z : Int} (h : zs[i]? = some z) : ch zs i = z := by
  unfold ch; rw [List.getD_eq_getElem?_getD, h]; rfl

/-- a line ends behind the character number i -/
def endAt (zs : List Int) (i : Nat) : Bool := decide (ch zs i = 10 ∨ (ch zs i = 13 ∧ ¬ (i + 1 < zs.length ∧ ch zs (i + 1) = 10)))
theorem endAt_lf {zs : List Int} {i : Nat} (h : ch zs i = 10) : endAt zs i = true := decide_eq_true (.inl h)
theorem endAt_cr {zs : List Int} {i : Nat} (h : ch zs i = 13) (h' : ¬ (i + 1 < zs.length ∧ ch zs (i + 1) = 10)) : endAt zs i = true := decide_eq_true (.inr ⟨h, h'⟩)
theorem endAt_crlf {zs : List Int} {i : Nat} (h : ch zs i = 13) (h1 : i + 1 < zs.length) (h2 : ch zs (i + 1) = 10) : endAt zs i = false := decide_eq_false (by omega)
theorem endAt_other {zs : List Int} {i : Nat} (h : ch zs i ≠ 10) (h' : ch zs i ≠ 13) : endAt zs i = false := decide_eq_false (by omega)
theorem of_end {zs : List Int} {i : Nat} (h : endAt zs i = true) : ch zs i = 10 ∨ (ch zs i = 13 ∧ ¬ (i + 1 < zs.length ∧ ch zs (i + 1) = 10)) := of_decide_eq_true h
theorem of_not_end {zs : List Int} {i : Nat} (h : endAt zs i = false) : ch zs i ≠ 10 ∧ (ch zs i = 13 → i + 1 < zs.length ∧ ch zs (i + 1) = 10) := by
  have := of_decide_eq_false h
  exact ⟨fun e => this (.inl e), fun e => Classical.not_not.1 fun hh => this (.inr ⟨e, hh⟩)⟩

/-- the last beginning of a line, up to k -/
def st (zs : List Int) : Nat → Nat
  | 0 => 0
  | k + 1 => if endAt zs k = true then k + 1 else st zs k
def starts (zs : List Int) : Nat → List Nat
  | 0 => [0]
  | k + 1 => if endAt zs k = true then starts zs k ++ [k + 1] else starts zs k
def cut (zs : List Int) (a b : Nat) : List Int := (zs.take b).drop a
def segEnd (zs : List Int) (a b : Nat) : Nat := if ch zs (b - 1) = 10 ∧ a < b - 1 ∧ ch zs (b - 2) = 13 then b - 2 else b - 1
def done (zs : List Int) : Nat → List (List Int)
  | 0 => []
  | k + 1 => if endAt zs k = true then done zs k ++ [cut zs (st zs k) (segEnd zs (st zs k) (k + 1))] else done zs k
def cur (zs : List Int) (k : Nat) : List Int := if st zs k < k ∧ ch zs (k - 1) = 13 then cut zs (st zs k) (k - 1) else cut zs (st zs k) k
def linesOf (zs : List Int) : List (List Int) := done zs zs.length ++ [cut zs (st zs zs.length) zs.length]

theorem st_end {zs : List Int} {k : Nat} (h : endAt zs k = true) : st zs (k + 1) = k + 1 := by simp [st, h]
theorem st_same {zs : List Int} {k : Nat} (h : endAt zs k = false) : st zs (k + 1) = st zs k := by simp [st, h]
theorem st_le (zs : List Int) : ∀ k, st zs k ≤ k
  | 0 => Nat.le_refl _
  | k + 1 => by
    have := st_le zs k
    unfold st
    split <;> omega
/-- no line ends between the last beginning and k -/
theorem no_end (zs : List Int) : ∀ k i, st zs k ≤ i → i < k → endAt zs i = false
  | 0, i, _, h => by omega
  | k + 1, i, h1, h2 => by
    cases he : endAt zs k with
    | true => rw [st_end he] at h1; omega
    | false =>
      rw [st_same he] at h1
      by_cases hi : i = k
      · subst hi; exact he
      · exact no_end zs k i h1 (by omega)
theorem cut_snoc {zs : List Int} {a k : Nat} (ha : a ≤ k) (hk : k < zs.length) : cut zs a (k + 1) = cut zs a k ++ [ch zs k] := by
  unfold cut ch
  rw [List.take_succ_eq_append_getElem hk, List.drop_append_of_le_length (by rw [List.length_take]; omega), List.getD_eq_getElem?_getD, List.getElem?_eq_getElem hk]
  rfl
theorem cut_nil (zs : List Int) (a : Nat) : cut zs a a = [] := by
  unfold cut
  rw [List.drop_eq_nil_iff, List.length_take]
  omega
theorem cut_len {zs : List Int} {a b : Nat} (hb : b ≤ zs.length) : (cut zs a b).length = b - a := by
  unfold cut
  rw [List.length_drop, List.length_take]
  omega

/-- a CR that is no line end is followed by a LF, which is one -/
theorem cr_last {zs : List Int} {k i : Nat} (h1 : st zs k ≤ i) (h2 : i < k) (h3 : ch zs i = 13) : i + 1 = k ∧ k < zs.length ∧ ch zs k = 10 := by
  obtain ⟨_, hf⟩ := of_not_end (no_end zs k i h1 h2)
  obtain ⟨ha, hb⟩ := hf h3
  by_cases hk : i + 1 < k
  · have := no_end zs k (i + 1) (by omega) hk
    exact absurd hb (of_not_end this).1
  · have : i + 1 = k := by omega
    subst this
    exact ⟨rfl, ha, hb⟩
/-- the last character ahead of k, if it is a CR of this line -/
theorem cur_plain {zs : List Int} {k : Nat} (h : ¬ (k < zs.length ∧ ch zs k = 10)) : cur zs k = cut zs (st zs k) k := by
  unfold cur
  rw [if_neg]
  rintro ⟨h1, h2⟩
  have := cr_last (zs := zs) (k := k) (i := k - 1) (by omega) (by omega) h2
  exact h ⟨this.2.1, this.2.2⟩
theorem cur_last (zs : List Int) : cur zs zs.length = cut zs (st zs zs.length) zs.length := cur_plain (by omega)

theorem done_end {zs : List Int} {k : Nat} (he : endAt zs k = true) : done zs (k + 1) = done zs k ++ [cur zs k] ∧ cur zs (k + 1) = [] := by
  constructor
  · show (if endAt zs k = true then done zs k ++ [cut zs (st zs k) (segEnd zs (st zs k) (k + 1))] else done zs k) = _
    rw [if_pos he]
    congr 2
    rcases of_end he with h | ⟨h, h'⟩
    · unfold segEnd cur
      simp only [Nat.add_sub_cancel]
      have e : k + 1 - 2 = k - 1 := by omega
      rw [e]
      by_cases hc : st zs k < k ∧ ch zs (k - 1) = 13
      · rw [if_pos ⟨h, hc.1, hc.2⟩, if_pos hc]
      · rw [if_neg (fun hh => hc ⟨hh.2.1, hh.2.2⟩), if_neg hc]
    · rw [cur_plain (by omega)]
      unfold segEnd
      simp only [Nat.add_sub_cancel]
      rw [if_neg (by omega)]
  · unfold cur
    rw [st_end he, if_neg (by omega), cut_nil]
theorem cur_cr {zs : List Int} {k : Nat} (he : endAt zs k = false) (h : ch zs k = 13) : done zs (k + 1) = done zs k ∧ cur zs (k + 1) = cur zs k := by
  refine ⟨by simp [done, he], ?_⟩
  have hs := st_le zs k
  rw [cur_plain (k := k) (by omega)]
  unfold cur
  rw [st_same he, if_pos ⟨by omega, by simpa using h⟩, Nat.add_sub_cancel]
theorem cur_ch {zs : List Int} {k : Nat} (hk : k < zs.length) (he : endAt zs k = false) (h : ch zs k ≠ 13) : done zs (k + 1) = done zs k ∧ cur zs (k + 1) = cur zs k ++ [ch zs k] := by
  refine ⟨by simp [done, he], ?_⟩
  have hs := st_le zs k
  have hn := (of_not_end he).1
  rw [cur_plain (k := k) (by omega)]
  unfold cur
  rw [st_same he, if_neg (by rintro ⟨_, hh⟩; exact h (by simpa using hh)), cut_snoc hs hk]
theorem linesOf_eq (zs : List Int) : linesOf zs = done zs zs.length ++ [cur zs zs.length] := by unfold linesOf; rw [cur_last]

/-! ### by the beginnings -/
theorem starts_end {zs : List Int} {k : Nat} (h : endAt zs k = true) : starts zs (k + 1) = starts zs k ++ [k + 1] := by simp [starts, h]
theorem starts_same {zs : List Int} {k : Nat} (h : endAt zs k = false) : starts zs (k + 1) = starts zs k := by simp [starts, h]
theorem starts_pos (zs : List Int) : ∀ k, 1 ≤ (starts zs k).length
  | 0 => by simp [starts]
  | k + 1 => by
    have := starts_pos zs k
    cases he : endAt zs k with
    | true => rw [starts_end he]; simp
    | false => rw [starts_same he]; exact this
theorem starts_len (zs : List Int) : ∀ k, (starts zs k).length ≤ k + 1
  | 0 => by simp [starts]
  | k + 1 => by
    have := starts_len zs k
    cases he : endAt zs k with
    | true => rw [starts_end he]; simp; omega
    | false => rw [starts_same he]; omega
theorem starts_last (zs : List Int) : ∀ k, (starts zs k)[(starts zs k).length - 1]? = some (st zs k)
  | 0 => by simp [starts, st]
  | k + 1 => by
    cases he : endAt zs k with
    | true => rw [starts_end he, st_end he]; simp
    | false => rw [starts_same he, st_same he]; exact starts_last zs k
theorem starts_at_le (zs : List Int) : ∀ (k j s : Nat), (starts zs k)[j]? = some s → s ≤ k
  | 0, j, s, h => by
    have : s ∈ [0] := List.mem_of_getElem? h
    simp at this
    omega
  | k + 1, j, s, h => by
    cases he : endAt zs k with
    | true =>
      rw [starts_end he, List.getElem?_append] at h
      split at h
      · have := starts_at_le zs k j s h; omega
      · have : s ∈ [k + 1] := List.mem_of_getElem? h
        simp at this
        omega
    | false =>
      rw [starts_same he] at h
      have := starts_at_le zs k j s h; omega
theorem starts_rise (zs : List Int) : ∀ (k j a b : Nat), (starts zs k)[j]? = some a → (starts zs k)[j + 1]? = some b → a < b
  | 0, j, a, b, _, h => by simp [starts] at h
  | k + 1, j, a, b, h1, h2 => by
    cases he : endAt zs k with
    | true =>
      rw [starts_end he] at h1 h2
      rw [List.getElem?_append] at h1 h2
      by_cases hj : j + 1 < (starts zs k).length
      · rw [if_pos hj] at h2
        rw [if_pos (by omega)] at h1
        exact starts_rise zs k j a b h1 h2
      · rw [if_neg hj] at h2
        have hb : b ∈ [k + 1] := List.mem_of_getElem? h2
        simp at hb
        have hj2 : j + 1 - (starts zs k).length < 1 := by
          have := (List.getElem?_eq_some_iff.1 h2).1
          simpa using this
        rw [if_pos (by omega)] at h1
        have := starts_at_le zs k j a h1
        omega
    | false =>
      rw [starts_same he] at h1 h2
      exact starts_rise zs k j a b h1 h2
theorem done_len (zs : List Int) : ∀ k, (done zs k).length + 1 = (starts zs k).length
  | 0 => by simp [done, starts]
  | k + 1 => by
    have := done_len zs k
    cases he : endAt zs k with
    | true => rw [starts_end he, (done_end he).1]; simp; omega
    | false =>
      rw [starts_same he, show done zs (k + 1) = done zs k by simp [done, he]]
      exact this
theorem done_at (zs : List Int) : ∀ (k j a b : Nat), (starts zs k)[j]? = some a → (starts zs k)[j + 1]? = some b → (done zs k)[j]? = some (cut zs a (segEnd zs a b))
  | 0, j, a, b, _, h => by simp [starts] at h
  | k + 1, j, a, b, h1, h2 => by
    have hl := done_len zs k
    cases he : endAt zs k with
    | true =>
      have hd : done zs (k + 1) = done zs k ++ [cut zs (st zs k) (segEnd zs (st zs k) (k + 1))] := by
        show (if endAt zs k = true then _ else _) = _
        rw [if_pos he]
      rw [starts_end he] at h1 h2
      rw [hd]
      rw [List.getElem?_append] at h1 h2
      by_cases hj : j + 1 < (starts zs k).length
      · rw [if_pos hj] at h2
        rw [if_pos (by omega)] at h1
        rw [List.getElem?_append, if_pos (by omega)]
        exact done_at zs k j a b h1 h2
      · rw [if_neg hj] at h2
        have hj2 : j + 1 - (starts zs k).length < 1 := by
          have := (List.getElem?_eq_some_iff.1 h2).1
          simpa using this
        have hb : b ∈ [k + 1] := List.mem_of_getElem? h2
        simp at hb
        subst hb
        rw [if_pos (by omega)] at h1
        have hlast := starts_last zs k
        have e : (starts zs k).length - 1 = j := by omega
        rw [e, h1] at hlast
        injection hlast with ea
        subst ea
        rw [List.getElem?_append, if_neg (by omega)]
        have e2 : j - (done zs k).length = 0 := by omega
        rw [e2]
        rfl
    | false =>
      rw [starts_same he] at h1 h2
      rw [show done zs (k + 1) = done zs k by simp [done, he]]
      exact done_at zs k j a b h1 h2
/-- the line number j by its beginning and the next one's, or the end -/
theorem line_mid {zs : List Int} {j a b : Nat} (h1 : (starts zs zs.length)[j]? = some a) (h2 : (starts zs zs.length)[j + 1]? = some b) : (linesOf zs)[j]? = some (cut zs a (segEnd zs a b)) := by
  have hl := done_len zs zs.length
  have := (List.getElem?_eq_some_iff.1 h2).1
  unfold linesOf
  rw [List.getElem?_append, if_pos (by omega)]
  exact done_at zs zs.length j a b h1 h2
theorem line_end {zs : List Int} {j a : Nat} (h1 : (starts zs zs.length)[j]? = some a) (h2 : ¬ j + 1 < (starts zs zs.length).length) : (linesOf zs)[j]? = some (cut zs a zs.length) := by
  have hl := done_len zs zs.length
  have hj := (List.getElem?_eq_some_iff.1 h1).1
  have hlast := starts_last zs zs.length
  have e : (starts zs zs.length).length - 1 = j := by omega
  rw [e, h1] at hlast
  injection hlast with ea
  subst ea
  unfold linesOf
  rw [List.getElem?_append, if_neg (by omega)]
  have e2 : j - (done zs zs.length).length = 0 := by omega
  rw [e2]
  rfl
theorem lines_len (zs : List Int) : (linesOf zs).length = (starts zs zs.length).length := by
  have := done_len zs zs.length
  unfold linesOf
  rw [List.length_append, List.length_singleton]
  omega
end Go.Proofs.YtomkkagopjpfkaaDoor.ln
