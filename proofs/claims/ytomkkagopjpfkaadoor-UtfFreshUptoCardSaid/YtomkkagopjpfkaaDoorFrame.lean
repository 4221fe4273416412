/-
  From a walk that returns true and turns no old memory to what a law's row asks; arguments opened. Over any program.
-/
import Derived.Test.YtomkkagopjpfkaaDoorWords
import Derived.ProofKit
import Derived.OpenShut
import Derived.Deep.Matrix
import Derived.SizedLaws
namespace Go.Proofs.YtomkkagopjpfkaaDoor.frame
open Go.ChangeShapes Go.WideShapes Go.ChangeAt Go.RowKit
open Go.Proofs.YtomkkagopjpfkaaDoor.words

section
variable {H : Type} {enc : TypeId × Value → H} {P : Program}

theorem trodAll_below (hl : laidOutB P = true) {W W' : World} (hb : Below W.heap.size W W') :
    ∀ (ts : List TypeId) (vs : List Value) (ds : List (DataW H)) (ps : List MemPlace),
      (∀ t ∈ ts, P.readableRec t = true ∧ t < P.types.size) → DataW.TrodAll enc P W 0 (fun _ => true) true ts vs ds ps → (∀ x ∈ ps, x.block < W.heap.size) →
      DataW.TrodAll enc P W' 0 (fun b => decide (b < W.heap.size)) true ts vs ds ps
  | [], vs, ds, ps, _, h, _ => by obtain ⟨rfl, rfl, rfl⟩ := trodAll_nil h; exact trodAll_mk0
  | t :: ts, vs, ds, ps, hr, h, hlt => by
    obtain ⟨v, vs', d, ds', p, q, rfl, rfl, rfl, h0, h1⟩ := trodAll_cons h
    exact trodAll_cons_mk (Below.trod hl (hr t (by simp)).1 (hr t (by simp)).2 h0 hb (fun x hx => hlt x (by simp [hx])))
      (trodAll_below hl hb ts vs' ds' q (fun t ht => hr t (by simp [ht])) h1 (fun x hx => hlt x (by simp [hx])))

/-- the row's post: the law returned true, its arguments read as before -/
theorem law_post {f : Func} {s : ChangeSpec} {apart handsOn : Bool} {W W' : World} {args : Array Value} {ds gs : List (DataW H)} {before : List MemPlace} {bt : TypeId} (hs : s.vars = [])
    (hres : (s.fn H (ds ++ gs)).results = [.lit (.bool true)]) (hargs : (s.fn H (ds ++ gs)).args = ds) (hvars : (s.fn H (ds ++ gs)).vars = [])
    (hl : laidOutB P = true) (hr : ∀ t ∈ f.params.toList, P.readableRec t = true ∧ t < P.types.size) (hrt : f.resultTypes = #[bt]) (hbt : P.underlying bt = some .bool)
    (hW : DataW.Whole enc P f.params.toList s.vars apart W args.toList ds gs before) (hb : Below W.heap.size W W') :
    s.post enc P f apart true handsOn false W args (.bool true) W' := by
  have hlt : ∀ x ∈ before, x.block < W.heap.size := fun x hx => by simpa using hW.lt x hx
  have hW' := hW
  obtain ⟨p, q, hA, hV, rfl, _, _⟩ := hW
  rw [hs] at hV
  obtain ⟨rfl, rfl⟩ := trodVars_none hV
  refine ⟨ds, [], p ++ [], [], p, [], hW', ?_, ?_, ?_, hb.frame _, fun h => by cases h⟩
  · rw [hres, hrt]
    exact trodAll_cons_mk (shut_bool hbt _) trodAll_mk0
  · rw [hargs]
    exact trodAll_below hl hb _ _ _ _ hr hA (fun x hx => hlt x (by simpa using hx))
  · rw [hvars, hs]
    rfl

/-- a list of integers that came in -/
theorem rd_ints {W : World} {t e : TypeId} {k : IntKind} {v : Value} {d : DataW H} {ps : List MemPlace} (ht : P.underlying t = some (.slice e)) (he : P.underlying e = some (.int k)) (hc : P.cellsOf e = 1)
    (ho : Value.okWide P W .any 0 t v) (hj : DataW.Trod enc P W 0 (fun _ => true) true t v d ps) :
    ∃ (A : Option Addr) (n c : Nat) (zs : List Int), v = .slice A n c ∧ zs.length = n ∧ n ≤ c ∧ c ≤ maxLen ∧ Rd W W.heap.size A (zs.map (Value.int k)) ∧ (∀ z ∈ zs, (Lit.int k z).wf = true) ∧
      (d = .nil ∧ n = 0 ∨ ∃ r : List Int, d = .slice (lits k zs) (lits k r) ∧ n + r.length = c) := by
  obtain ⟨a0, len, cap, rfl⟩ := okWide_slice ht ho
  obtain ⟨fuel, hf⟩ := hj
  rcases open_ints ht he hc hf with ⟨hcs, hx⟩ | ⟨a, len, cap, zs, hcs, _, hl, hm, hz, hx, hcell, hwz⟩
  · simp [Value.cells] at hcs
    obtain ⟨rfl, rfl, rfl⟩ := hcs
    simp only [Prod.mk.injEq] at hx
    exact ⟨none, 0, 0, [], rfl, rfl, Nat.le_refl _, Nat.zero_le _, Rd.nil, by simp, .inl ⟨hx.1, rfl⟩⟩
  · simp [Value.cells] at hcs
    obtain ⟨rfl, rfl, rfl⟩ := hcs
    simp only [Prod.mk.injEq] at hx
    simp only [if_true] at hz
    have htl : (zs.take len).length = len := by rw [List.length_take]; omega
    refine ⟨some a, len, cap, zs.take len, rfl, htl, hl, hm, ?_, fun z hz' => hwz z (List.mem_of_mem_take hz'), .inr ⟨zs.drop len, hx.1, by rw [List.length_drop]; omega⟩⟩
    intro hne
    have hlen : 0 < len := by
      rcases Nat.eq_zero_or_pos len with h | h
      · subst h; simp at hne
      · exact h
    refine ⟨a, rfl, ?_, fun j u hu => ?_⟩
    · have := hcell 0 (by omega)
      exact World.block_lt_of_cell? W _ (by rw [show a.add 0 = a by unfold Addr.add; simp] at this; exact this)
    · rw [List.getElem?_map, Option.map_eq_some_iff] at hu
      obtain ⟨z, hz1, rfl⟩ := hu
      rw [List.getElem?_take] at hz1
      split at hz1
      · obtain ⟨hj', rfl⟩ := List.getElem?_eq_some_iff.1 hz1
        rw [hcell j hj']
        simp [List.getD_eq_getElem?_getD, hj']
      · cases hz1

/-- what a list of integers reads as -/
def IsInts (k : IntKind) (zs : List Int) (c : Nat) (d : DataW H) : Prop :=
  d = .nil ∧ zs = [] ∨ ∃ r : List Int, d = .slice (lits k zs) (lits k r) ∧ zs.length + r.length = c

/-- row r of a list of lists: the cell that holds it, and what it holds -/
def RowAt (w : World) (B : Nat) (k : IntKind) (AO : Option Addr) (r : Nat) (d : DataW H) : Prop :=
  ∃ ad A n c zs, AO = some ad ∧ ad.block < B ∧ w.cell? (ad.add r) = some (.slice A n c) ∧ zs.length = n ∧ n ≤ c ∧ c ≤ maxLen ∧ Rd w B A (zs.map (Value.int k)) ∧ (∀ z ∈ zs, (Lit.int k z).wf = true) ∧ IsInts k zs c d

theorem rd_rows {W : World} {t e q : TypeId} {k : IntKind} {v : Value} {d : DataW H} {ps : List MemPlace} (ht : P.underlying t = some (.slice e)) (he : P.underlying e = some (.slice q)) (hq : P.underlying q = some (.int k))
    (ce : P.cellsOf e = 1) (cq : P.cellsOf q = 1)
    (ho : Value.okWide P W .any 0 t v) (hj : DataW.Trod enc P W 0 (fun _ => true) true t v d ps) :
    ∃ (A : Option Addr) (n c : Nat) (D : Nat → DataW H), v = .slice A n c ∧ n ≤ c ∧ c ≤ maxLen ∧ (∀ r, r < n → RowAt W W.heap.size k A r (D r)) ∧
      (d = .nil ∧ n = 0 ∨ ∃ sp, d = .slice ((List.range n).map D) sp ∧ n + sp.length = c) := by
  obtain ⟨a0, len, cap, rfl⟩ := okWide_slice ht ho
  obtain ⟨fuel, hf⟩ := hj
  rcases Go.Deep.open_int_rows ht he hq ce cq hf with ⟨hcs, hx⟩ | ⟨a, len', cap', A, L, C, Z, hcs, _, hl, hm, hx, hrow⟩
  · simp [Value.cells] at hcs
    obtain ⟨rfl, rfl, rfl⟩ := hcs
    simp only [Prod.mk.injEq] at hx
    exact ⟨none, 0, 0, fun _ => .nil, rfl, Nat.le_refl _, Nat.zero_le _, fun r hr => by omega, .inl ⟨hx.1, rfl⟩⟩
  · simp [Value.cells] at hcs
    obtain ⟨rfl, rfl, rfl⟩ := hcs
    simp only [Prod.mk.injEq] at hx
    refine ⟨some a, len, cap, fun r => Go.Deep.intRow k (A r) (L r) (Z r), rfl, hl, hm, fun r hr => ?_, .inr ⟨_, hx.1, by rw [List.length_map, List.length_range]; omega⟩⟩
    obtain ⟨hc, h1, h2, h3, h4, h5, h6⟩ := hrow r (by omega)
    have hblk : a.block < W.heap.size := by
      have := World.block_lt_of_cell? W _ hc
      rwa [add_block] at this
    have htl : ((Z r).take (L r)).length = L r := by rw [List.length_take]; omega
    refine ⟨a, A r, L r, C r, (Z r).take (L r), rfl, hblk, hc, htl, h1, h2, ?_, fun z hz => h4 z (List.mem_of_mem_take hz), ?_⟩
    · intro hne
      have hlen : 0 < L r := by
        rcases Nat.eq_zero_or_pos (L r) with h | h
        · rw [h] at hne; simp at hne
        · exact h
      cases hA : A r with
      | none => have := h5 hA; omega
      | some a' =>
        obtain ⟨_, hcell⟩ := h6 a' hA
        refine ⟨a', rfl, ?_, fun j u hu => ?_⟩
        · have := World.block_lt_of_cell? W _ (hcell 0 (by omega))
          rwa [add_block] at this
        · rw [List.getElem?_map, Option.map_eq_some_iff] at hu
          obtain ⟨z, hz1, rfl⟩ := hu
          rw [List.getElem?_take] at hz1
          split at hz1
          · obtain ⟨hj', rfl⟩ := List.getElem?_eq_some_iff.1 hz1
            rw [hcell j (by omega)]
            simp [List.getD_eq_getElem?_getD, hj']
          · cases hz1
    · cases hA : A r with
      | none =>
        left
        have h0 := h5 hA
        exact ⟨by simp [Go.Deep.intRow, hA], by rw [List.eq_nil_iff_length_eq_zero, htl]; omega⟩
      | some a' =>
        right
        exact ⟨(Z r).drop (L r), by simp [Go.Deep.intRow, hA], by rw [htl, List.length_drop]; omega⟩

/-- the reach of each row -/
theorem weights_row {ts : List TypeId} {ds : List (DataW H)} (h : (DataW.weightsEach P ts ds).all (· ≤ reachBytes) = true) {j : Nat} {t e q : TypeId} {k : IntKind} {D : Nat → DataW H} {n r c : Nat} {sp : List (DataW H)} {zs : List Int}
    (ht : ts[j]? = some t) (hd : ds[j]? = some (.slice ((List.range n).map D) sp)) (hu : P.underlying t = some (.slice e)) (he : P.underlying e = some (.slice q)) (hr : r < n) (hi : IsInts k zs c (D r)) :
    zs.length * P.bytesOf q ≤ reachBytes := by
  rcases hi with ⟨_, rfl⟩ | ⟨r', hD, hlen⟩
  · simp
  · have hall : ∀ (l : List (DataW H)), D r ∈ l → ∀ x ∈ (D r).weights P e, x ∈ DataW.weightsAll P e l := by
      intro l
      induction l with
      | nil => intro h; cases h
      | cons y l ih =>
        intro hm x hx
        simp only [DataW.weightsAll, List.mem_append]
        rcases List.mem_cons.1 hm with rfl | hm
        · exact .inl hx
        · exact .inr (ih hm x hx)
    have hmem : (zs.length + r'.length) * P.bytesOf q ∈ (D r).weights P e := by
      rw [hD]
      simp [DataW.weights, he, lits]
    have h1 := hall ((List.range n).map D) (List.mem_map.2 ⟨r, List.mem_range.2 hr, rfl⟩) _ hmem
    have h2 := List.all_eq_true.1 h _ (DataW.weights_mem_each ht hd _ (show (zs.length + r'.length) * P.bytesOf q ∈ DataW.weights P t (.slice ((List.range n).map D) sp) by
      simp only [DataW.weights, hu, List.mem_cons, List.mem_append]; exact .inr (.inl h1)))
    have h3 : (zs.length + r'.length) * P.bytesOf q ≤ reachBytes := by simpa using h2
    exact Nat.le_trans (Nat.mul_le_mul_right _ (by omega)) h3
end
end Go.Proofs.YtomkkagopjpfkaaDoor.frame
