/-
  What the law's helper apart keeps of lists of characters while it marks them and while it grows them.
-/
import Derived.Test.YtomkkagopjpfkaaDoorOver0
namespace Go.Proofs.YtomkkagopjpfkaaDoor.lines
open Go.RowKit
open Go.Proofs.YtomkkagopjpfkaaDoor.words Go.Proofs.YtomkkagopjpfkaaDoor.enc Go.Proofs.YtomkkagopjpfkaaDoor.dec Go.Proofs.YtomkkagopjpfkaaDoor.ref Go.Proofs.YtomkkagopjpfkaaDoor.ln
set_option linter.unusedVariables false

def mk1 (j : Nat) : Int := -1000 - (j : Int)
def mk2 (j : Nat) : Int := -500000000 - (j : Int)

/-- the first k lists are marked -/
structure Marked (k : Nat) (L R : List (List Int)) : Prop where
  len : R.length = L.length
  rows : ∀ (j : Nat) (l : List Int), L[j]? = some l → ∃ r, R[j]? = some r ∧ r.length = l.length ∧ (j < k → r = List.replicate l.length (mk1 j))
theorem marked_zero (L : List (List Int)) : Marked 0 L L := ⟨rfl, fun j l h => ⟨l, h, rfl, fun h => by omega⟩⟩
theorem marked_set {k : Nat} {L R : List (List Int)} {l r r' : List Int} (h : Marked k L R) (hl : L[k]? = some l) (hr : R[k]? = some r) (hr' : r'.length = r.length) : Marked k L (R.set k r') := by
  refine ⟨by rw [List.length_set]; exact h.len, fun j y hy => ?_⟩
  obtain ⟨s, hs, hs1, hs2⟩ := h.rows j y hy
  by_cases hj : k = j
  · subst hj
    rw [hr] at hs
    injection hs with hs
    subst hs
    exact ⟨r', List.getElem?_set_self (List.getElem?_eq_some_iff.1 hr).1, by omega, fun h => by omega⟩
  · exact ⟨s, by rw [List.getElem?_set_ne hj]; exact hs, hs1, hs2⟩
theorem marked_succ {k : Nat} {L R : List (List Int)} {l : List Int} (h : Marked k L R) (hl : L[k]? = some l) (hr : R[k]? = some (List.replicate l.length (mk1 k))) : Marked (k + 1) L R := by
  refine ⟨h.len, fun j y hy => ?_⟩
  obtain ⟨s, hs, hs1, hs2⟩ := h.rows j y hy
  refine ⟨s, hs, hs1, fun hlt => ?_⟩
  by_cases hj : j = k
  · subst hj
    rw [hr] at hs
    rw [hl] at hy
    injection hs with hs
    injection hy with hy
    rw [← hs, hy]
  · exact hs2 (by omega)

def cnt (i q j : Nat) : Nat := if j < i then 17 else if j = i then q else 0

/-- the first i lists have grown by 17, the i-th by q; the lists that came in still read as they did -/
structure Grow (S B i q : Nat) (cs : List Value) (R : List (List Int)) (w : World) (cur : List Value) (G : List (List Int)) : Prop where
  rows : RowsOwn w B cs R
  crows : RowsOwn w B cur G
  len : G.length = R.length
  grown : ∀ (j : Nat) (l : List Int), R[j]? = some l → G[j]? = some (l ++ List.replicate (cnt i q j) (mk2 j))
  newer : ∀ (j : Nat) (u v : Value), cs[j]? = some u → cur[j]? = some v → v.ownBlock = u.ownBlock ∨ ∃ g, v.ownBlock = some g ∧ S ≤ g
  same : ∀ (j : Nat), (i < j ∨ i = j ∧ q = 0) → cur[j]? = cs[j]?
theorem grow_zero {S B : Nat} {cs : List Value} {R : List (List Int)} {w : World} (h : RowsOwn w B cs R) : Grow S B 0 0 cs R w cs R :=
  ⟨h, h, rfl, fun j l hl => by simpa [cnt] using hl, fun j u v hu hv => by rw [hu] at hv; injection hv with hv; exact .inl (by rw [hv]), fun j _ => rfl⟩
theorem grow_other {S B i q : Nat} {cs cur : List Value} {R G : List (List Int)} {w w' : World} {row : Option Nat} (h : Grow S B i q cs R w cur G) (hg : w.grownBy w' row)
    (h1 : ∀ v ∈ cs, v.ownBlock = none ∨ v.ownBlock ≠ row) (h2 : ∀ v ∈ cur, v.ownBlock = none ∨ v.ownBlock ≠ row) : Grow S B i q cs R w' cur G :=
  ⟨rows_kept h.rows hg h1, rows_kept h.crows hg h2, h.len, h.grown, h.newer, h.same⟩
theorem grow_alloc {S B i q : Nat} {cs cur : List Value} {R G : List (List Int)} {w : World} (h : Grow S B i q cs R w cur G) (o : Obj) : Grow S B i q cs R (w.alloc o) cur G :=
  grow_other h (World.grownBy_alloc _ o none) (fun v _ => by cases v.ownBlock <;> simp) (fun v _ => by cases v.ownBlock <;> simp)
theorem cnt_succ (i j : Nat) : cnt (i + 1) 0 j = cnt i 17 j := by
  unfold cnt
  rcases Nat.lt_trichotomy j i with h | h | h
  · rw [if_pos (by omega), if_pos h]
  · rw [if_pos (by omega), if_neg (by omega), if_pos h]
  · simp [show ¬ j < i + 1 by omega, show ¬ j < i by omega, show ¬ j = i by omega]
theorem grow_next {S B i : Nat} {cs cur : List Value} {R G : List (List Int)} {w : World} (h : Grow S B i 17 cs R w cur G) : Grow S B (i + 1) 0 cs R w cur G :=
  ⟨h.rows, h.crows, h.len, fun j l hl => by rw [cnt_succ]; exact h.grown j l hl, h.newer, fun j hj => h.same j (.inl (by omega))⟩
theorem grow_at {S B i q : Nat} {cs cur : List Value} {R G : List (List Int)} {w : World} {l : List Int} (h : Grow S B i q cs R w cur G) (hl : R[i]? = some l) : G[i]? = some (l ++ List.replicate q (mk2 i)) := by
  have := h.grown i l hl
  simpa [cnt] using this
theorem grow_row {S B i q j : Nat} {cs cur : List Value} {R G : List (List Int)} {w : World} {l : List Int} (h : Grow S B i q cs R w cur G) (hl : R[j]? = some l) :
    ∃ v, cur[j]? = some v ∧ w.ownsRow B 21 1 v (l.length + cnt i q j) ((l ++ List.replicate (cnt i q j) (mk2 j)).map (Value.int .i32)) := by
  obtain ⟨v, hv, ho⟩ := h.crows.rows j _ (h.grown j l hl)
  exact ⟨v, hv, by simpa using ho⟩

theorem grow_step {S B i q : Nat} {cs cur : List Value} {R G : List (List Int)} {w w' : World} {l : List Int} {v v' : Value} (h : Grow S B i q cs R w cur G) (hv : cur[i]? = some v) (hl : R[i]? = some l)
    (hlt : ∀ u ∈ cs, ∀ g, u.ownBlock = some g → g < S) (hS : S ≤ w.heap.size)
    (ho : w'.ownsRow B 21 1 v' (l.length + (q + 1)) ((l ++ List.replicate (q + 1) (mk2 i)).map (Value.int .i32))) (hg : w.grownBy w' v.ownBlock) (hat : v'.ownBlock = v.ownBlock ∨ v'.ownBlock = some w.heap.size)
    (hk : ∀ B' u k us, w.ownsRow B' 21 1 u k us → (u.ownBlock = v.ownBlock → k ≤ l.length + q ∧ us = ((l ++ List.replicate q (mk2 i)).map (Value.int .i32)).take (k * 1)) → w'.ownsRow B' 21 1 u k us) :
    Grow S B i (q + 1) cs R w' (cur.set i v') (G.set i (l ++ List.replicate (q + 1) (mk2 i))) := by
  have hGi := grow_at h hl
  have hiR := (List.getElem?_eq_some_iff.1 hl).1
  have hicur := (List.getElem?_eq_some_iff.1 hv).1
  refine ⟨⟨h.rows.len, fun j y hy => ?_, h.rows.apart⟩, rows_grow h.crows hv hGi (by simpa using ho) hg hat, by rw [List.length_set]; exact h.len, fun j y hy => ?_, fun j u x hu hx => ?_, fun j hj => ?_⟩
  · obtain ⟨u, hu, hou⟩ := h.rows.rows j y hy
    refine ⟨u, hu, hk B u _ _ hou fun he => ?_⟩
    by_cases h0 : u.ownBlock = none
    · rcases hou.2 with ⟨_, h1⟩ | ⟨g, cap, c2, rfl, _⟩
      · have : y = [] := List.eq_nil_of_length_eq_zero h1
        subst this
        exact ⟨Nat.zero_le _, by simp⟩
      · cases h0
    · have hij : j = i := by
        apply Classical.byContradiction
        intro hne
        obtain ⟨u', hu', _⟩ := h.rows.rows i l hl
        have e1 : v.ownBlock = u'.ownBlock := by
          rcases h.newer i u' v hu' hv with e | ⟨g, e, hge⟩
          · exact e
          · have := hlt u (List.mem_of_getElem? hu) g (he.trans e)
            omega
        rcases h.rows.apart j i u u' hu hu' hne with e2 | e2
        · exact h0 e2
        · exact e2 (he.trans e1)
      subst hij
      rw [hl] at hy
      injection hy with hy
      subst hy
      refine ⟨by omega, ?_⟩
      rw [Nat.mul_one, ← List.map_take, List.take_append_of_le_length (Nat.le_refl _), List.take_of_length_le (Nat.le_refl _)]
  · by_cases hj : i = j
    · subst hj
      rw [hl] at hy
      injection hy with hy
      subst hy
      rw [List.getElem?_set_self (by have := h.len; omega)]
      simp [cnt]
    · rw [List.getElem?_set_ne hj, h.grown j y hy]
      have : cnt i (q + 1) j = cnt i q j := by unfold cnt; rw [if_neg (fun e : j = i => hj e.symm), if_neg (fun e : j = i => hj e.symm)]
      rw [this]
  · by_cases hj : i = j
    · subst hj
      rw [List.getElem?_set_self hicur] at hx
      injection hx with hx
      subst hx
      rcases hat with hat | hat
      · rw [hat]; exact h.newer i u v hu hv
      · exact .inr ⟨_, hat, hS⟩
    · rw [List.getElem?_set_ne hj] at hx
      exact h.newer j u x hu hx
  · have hij : i ≠ j := by omega
    rw [List.getElem?_set_ne hij]
    exact h.same j (.inl (by omega))

theorem own_older {w : World} {B B' : Nat} {e : TypeId} {size n : Nat} {v : Value} {xs : List Value} (h : w.ownsRow B' e size v n xs) (hb : B ≤ B') : w.ownsRow B e size v n xs := by
  refine ⟨h.1, ?_⟩
  rcases h.2 with h0 | ⟨g, cap, cur, h1, h2, h3⟩
  · exact .inl h0
  · exact .inr ⟨g, cap, cur, h1, by omega, h3⟩

/-- two lists of lists, of which the second lies in newer memory -/
theorem rows_app {w : World} {B B' : Nat} {cs cs' : List Value} {L L' : List (List Int)} (h : RowsOwn w B cs L) (h' : RowsOwn w B' cs' L') (hB : B ≤ B') (hlt : ∀ u ∈ cs, ∀ g, u.ownBlock = some g → g < B') :
    RowsOwn w B (cs ++ cs') (L ++ L') := by
  have hlen := h.len
  have hge : ∀ v ∈ cs', ∀ g, v.ownBlock = some g → B' ≤ g := fun v hv g hg => by
    obtain ⟨l, hl⟩ := rows_of_mem h' hv
    exact (hl.lt g hg).1
  refine ⟨by rw [List.length_append, List.length_append, hlen, h'.len], fun j y hy => ?_, fun i j a b ha hb hij => ?_⟩
  · by_cases hj : j < L.length
    · rw [List.getElem?_append_left hj] at hy
      obtain ⟨v, hv, ho⟩ := h.rows j y hy
      exact ⟨v, by rw [List.getElem?_append_left (by omega)]; exact hv, ho⟩
    · rw [List.getElem?_append_right (by omega)] at hy
      obtain ⟨v, hv, ho⟩ := h'.rows _ y hy
      exact ⟨v, by rw [List.getElem?_append_right (by omega), hlen]; exact hv, own_older ho hB⟩
  · have key : ∀ (u v : Value), u ∈ cs → v ∈ cs' → (u.ownBlock = none ∨ u.ownBlock ≠ v.ownBlock) ∧ (v.ownBlock = none ∨ v.ownBlock ≠ u.ownBlock) := fun u v hu hv => by
      constructor
      · by_cases h0 : u.ownBlock = none
        · exact .inl h0
        · obtain ⟨g, hg⟩ := Option.ne_none_iff_exists'.1 h0
          refine .inr fun e => ?_
          have := hlt u hu g hg
          have := hge v hv g (e.symm.trans hg)
          omega
      · by_cases h0 : v.ownBlock = none
        · exact .inl h0
        · obtain ⟨g, hg⟩ := Option.ne_none_iff_exists'.1 h0
          refine .inr fun e => ?_
          have := hge v hv g hg
          have := hlt u hu g (e.symm.trans hg)
          omega
    by_cases hi : i < cs.length
    · rw [List.getElem?_append_left hi] at ha
      by_cases hj : j < cs.length
      · rw [List.getElem?_append_left hj] at hb
        exact h.apart i j a b ha hb hij
      · rw [List.getElem?_append_right (by omega)] at hb
        exact (key a b (List.mem_of_getElem? ha) (List.mem_of_getElem? hb)).1
    · rw [List.getElem?_append_right (by omega)] at ha
      by_cases hj : j < cs.length
      · rw [List.getElem?_append_left hj] at hb
        exact (key b a (List.mem_of_getElem? hb) (List.mem_of_getElem? ha)).2
      · rw [List.getElem?_append_right (by omega)] at hb
        exact h'.apart _ _ a b ha hb (by omega)
end Go.Proofs.YtomkkagopjpfkaaDoor.lines
