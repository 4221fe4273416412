/-
  Lists that are written over, in rows of the call's own; appends that leave the older view of a row. In plain Lean and over any program.
-/
import Derived.Test.YtomkkagopjpfkaaDoorPlaces
import Derived.Deep.AppendLies
namespace Go.Proofs.YtomkkagopjpfkaaDoor.lines
open Go.RowKit
open Go.Proofs.YtomkkagopjpfkaaDoor.words Go.Proofs.YtomkkagopjpfkaaDoor.enc Go.Proofs.YtomkkagopjpfkaaDoor.dec Go.Proofs.YtomkkagopjpfkaaDoor.ref Go.Proofs.YtomkkagopjpfkaaDoor.ln
set_option linter.unusedVariables false

/-- the marks in the spare room -/
def marks : List Int := (List.range 40).map fun (i : Nat) => (-7000 - (i : Int))
theorem marks_len : marks.length = 40 := by simp [marks]
theorem marks_at {k : Nat} (hk : k < 40) : marks[k]? = some (-7000 - (k : Int)) := by simp [marks, hk]
/-- the first k numbers written over by x -/
def over (k : Nat) (x : Int) (l : List Int) : List Int := List.replicate k x ++ l.drop k
theorem over_zero (x : Int) (l : List Int) : over 0 x l = l := by simp [over]
theorem over_len {k : Nat} {x : Int} {l : List Int} (hk : k ≤ l.length) : (over k x l).length = l.length := by simp [over]; omega
theorem over_all {n : Nat} {x : Int} {l : List Int} (h : l.length = n) : over n x l = List.replicate n x := by
  unfold over
  rw [List.drop_of_length_le (by omega), List.append_nil]
theorem over_app {k : Nat} {x : Int} {l r : List Int} (hk : k ≤ l.length) : over k x (l ++ r) = over k x l ++ r := by
  unfold over
  rw [List.drop_append_of_le_length hk, List.append_assoc]
theorem over_set {k : Nat} {x : Int} {l : List Int} (hk : k < l.length) : (over k x l).set k x = over (k + 1) x l := by
  unfold over
  rw [List.set_append, if_neg (by simp), List.length_replicate, Nat.sub_self, List.drop_eq_getElem_cons hk, List.set_cons_zero, List.replicate_succ', List.append_assoc]
  rfl

theorem own_form {w : World} {B s n m c : Nat} {e : TypeId} {A : Option Addr} {xs : List Value} (h : w.ownsRow B e s (.slice A n c) m xs) (hm : 0 < m) : ∃ g, A = some ⟨g, 0, none⟩ ∧ B ≤ g ∧ g < w.heap.size ∧ n = m := by
  obtain ⟨g, cap, he, h1, h2⟩ := h.form hm
  injection he with e1 e2 e3
  exact ⟨g, e1, h1, h2, e2⟩
theorem own_len {w : World} {B s n m c : Nat} {e : TypeId} {A : Option Addr} {xs : List Value} (h : w.ownsRow B e s (.slice A n c) m xs) : n = m := by
  rcases h.2 with ⟨he, h0⟩ | ⟨g, cap, cur, he, _⟩
  · injection he with e1 e2 e3
    omega
  · injection he with e1 e2 e3
theorem own_store {w : World} {B g n cap k : Nat} {e : TypeId} {zs : List Int} (q : IntKind) (x : Int) (h : w.ownsRow B e 1 (.slice (some ⟨g, 0, none⟩) n cap) n (zs.map (Value.int q))) :
    (w.setCell ⟨g, k, none⟩ (.int q x)).ownsRow B e 1 (.slice (some ⟨g, 0, none⟩) n cap) n ((zs.set k x).map (Value.int q)) := by
  rw [List.map_set]
  exact (h.stored k _).1
theorem own_has {w : World} {B g n cap k : Nat} {e : TypeId} {zs : List Int} (q : IntKind) (h : w.ownsRow B e 1 (.slice (some ⟨g, 0, none⟩) n cap) n (zs.map (Value.int q))) (hk : k < n) :
    ∃ z, zs[k]? = some z ∧ w.cell? ⟨g, k, none⟩ = some (.int q z) := by
  have hl := h.1
  rw [List.length_map] at hl
  have hz : zs[k]? = some (zs[k]'(by omega)) := List.getElem?_eq_getElem (by omega)
  refine ⟨_, hz, ?_⟩
  rw [h.cellAt k (by omega), List.getElem?_map, hz]
  rfl

section
variable {P : Program} (w : World)
theorem run_append_keeps (base : Nat) (t ty e : TypeId) (i : TypeInfo) (z : Value) (size bytes : Nat) (ht : P.underlying t = some (.slice e)) (hi : P.info? e = some i) (hz : i.zero = some z)
    (hsize : i.size = size) (hby : i.bytes = bytes) (hzs : z.cells.size = size) (hsz : 0 < size)
    (v : Value) (n : Nat) (xs : List Value) (hown : w.ownsRow base e size v n xs)
    (ad : Addr) (m c : Nat) (news : List Value) (hl : news.length = m * size) (hnews : ∀ j u, news[j]? = some u → w.cell? (ad.add j) = some u) (h1 : ∀ u ∈ news, u.oneCell' = true)
    (h63 : n + m ≤ maxLen) (hbytes : (n + m) * bytes ≤ 140737488355328) (hbase : base ≤ w.heap.size) :
    ∃ v' w', (Builtin.append_ #[t, t] ty #[v, .slice (some ad) m c]).run P w = .ok v' w' ∧ w'.ownsRow base e size v' (n + m) (xs ++ news) ∧ w.grownBy w' v.ownBlock ∧
      (v'.ownBlock = v.ownBlock ∨ v'.ownBlock = some w.heap.size) ∧
      ∀ B u k us, w.ownsRow B e size u k us → (u.ownBlock = v.ownBlock → k ≤ n ∧ us = xs.take (k * size)) → w'.ownsRow B e size u k us := by
  obtain ⟨v', w', hr, h2, h3, _, h5⟩ := run_append_own_at (P := P) (ty := ty) w base t e i z size bytes ht hi hz hsize hby hzs hsz v n xs hown ad m c news hl hnews h1 h63 hbytes hbase
  refine ⟨v', w', hr, h2, h3, h5, ?_⟩
  intro B u k us hu hp
  by_cases h0 : u.ownBlock = none
  · exact hu.kept h3 (.inl h0)
  by_cases hne : u.ownBlock = v.ownBlock
  · obtain ⟨hk, hus⟩ := hp hne
    rcases hown.2 with ⟨rfl, _⟩ | ⟨g, cap, cur, rfl, hbg, hg, hnc, hcm, hcs, htake⟩
    · exact absurd hne h0
    rcases hu.2 with ⟨rfl, _⟩ | ⟨gu, capu, curu, rfl, hbgu, hgu, hncu, hcmu, hcsu, htakeu⟩
    · exact absurd rfl h0
    have hgg : gu = g := by simpa [Value.ownBlock] using hne
    subst hgg
    rw [hg] at hgu
    injection hgu with hgu
    injection hgu with hcur _
    subst hcur
    have hcap : capu = cap := Nat.eq_of_mul_eq_mul_right hsz (hcsu.symm.trans hcs)
    subst hcap
    by_cases hroom : n + m ≤ capu
    · obtain ⟨w'', hr', h2', _⟩ := run_append_fits (P := P) (ty := ty) w base t e i size ht hi hsize gu n capu xs hown ad m c news hl hnews h1 hroom
      have he := hr.symm.trans hr'
      injection he with hv hw
      subst hv hw
      rcases h2'.2 with ⟨he, _⟩ | ⟨g', cap', cur', he, hb', hg', hn', hm', hs', ht'⟩
      · simp at he
      · simp only [Value.slice.injEq, Option.some.injEq, Addr.mk.injEq, and_true, true_and] at he
        obtain ⟨rfl, rfl⟩ := he
        refine ⟨hu.1, .inr ⟨gu, capu, cur', rfl, hbgu, hg', hncu, hcmu, hs', ?_⟩⟩
        have e1 : cur'.toList.take (k * size) = (cur'.toList.take ((n + m) * size)).take (k * size) := by
          rw [List.take_take, Nat.min_eq_left (Nat.mul_le_mul_right _ (by omega))]
        rw [e1, ht', List.take_append_of_le_length (by rw [hown.1]; exact Nat.mul_le_mul_right _ hk), hus]
    · have holds : ∀ j u, xs[j]? = some u → w.cell? ((⟨gu, 0, none⟩ : Addr).add j) = some u := hown.cells (g := gu) rfl
      subst hsize
      subst hby
      have hr' := run_append_grow (P := P) (ty := ty) w t e i z ht hi hz ⟨gu, 0, none⟩ n capu xs hown.1 holds ad m c news hl hnews (by omega) (by simp only [maxLen] at h63; omega) (growslice_fits (by omega) hbytes)
      have he := hr.symm.trans hr'
      injection he with hv hw
      subst hw
      exact World.ownsRow.alloc (World.ownsRow.drew hu) _
  · exact hu.kept h3 (.inr hne)

theorem wpList_append_keeps {ops : Array Oper} {rest : List Oper} {o : Oper} {a : Act} {Q : Exit → Act → World → Prop} (hgd : o.guard = none) (s x : Operand) (t : TypeId)
    (ho : o.op = .call { callee := .builtin .append, args := #[s, x], argTypes := #[t, t] })
    (base : Nat) (e : TypeId) (i : TypeInfo) (z : Value) (size bytes : Nat) (ht : P.underlying t = some (.slice e)) (hi : P.info? e = some i) (hz : i.zero = some z)
    (hsize : i.size = size) (hby : i.bytes = bytes) (hzs : z.cells.size = size) (hsz : 0 < size)
    (v : Value) (n : Nat) (xs : List Value) (hs : a.eval s = v) (hown : w.ownsRow base e size v n xs)
    (ad : Addr) (m c : Nat) (news : List Value) (hx : a.eval x = .slice (some ad) m c) (hl : news.length = m * size) (hnews : ∀ j u, news[j]? = some u → w.cell? (ad.add j) = some u) (h1 : ∀ u ∈ news, u.oneCell' = true)
    (h63 : n + m ≤ maxLen) (hbytes : (n + m) * bytes ≤ 140737488355328) (hbase : base ≤ w.heap.size)
    (h : ∀ v' w', w'.ownsRow base e size v' (n + m) (xs ++ news) → w.grownBy w' v.ownBlock → (v'.ownBlock = v.ownBlock ∨ v'.ownBlock = some w.heap.size) →
      (∀ B u k us, w.ownsRow B e size u k us → (u.ownBlock = v.ownBlock → k ≤ n ∧ us = xs.take (k * size)) → w'.ownsRow B e size u k us) → wpList P ops Q rest (a.put o.dst v') w') : wpList P ops Q (o :: rest) a w :=
  wpList_plain hgd fun _ hK => by
    obtain ⟨v', w', hrun, h2, h3, h4, h5⟩ := run_append_keeps (P := P) w base t o.type e i z size bytes ht hi hz hsize hby hzs hsz v n xs hown ad m c news hl hnews h1 h63 hbytes hbase
    unfold Oper.wp execOp
    simp only [ho, resolve, invoke, builtin, Sem.run_bind, Sem.run_pure, Result.andThen_ok, List.map_toArray, List.map_cons, List.map_nil, hs, hx, hrun]
    exact hK _ _ (h v' w' h2 h3 h4 h5)
end

/-- a store into one of the rows -/
theorem rows_store {w : World} {B g n cap k i : Nat} {cs : List Value} {L : List (List Int)} {l : List Int} (x : Int) (h : RowsOwn w B cs L) (hv : cs[i]? = some (.slice (some ⟨g, 0, none⟩) n cap)) (hl : L[i]? = some l) :
    RowsOwn (w.setCell ⟨g, k, none⟩ (.int .i32 x)) B cs (L.set i (l.set k x)) := by
  have hi := (List.getElem?_eq_some_iff.1 hl).1
  refine ⟨by rw [List.length_set]; exact h.len, fun j y hy => ?_, h.apart⟩
  by_cases hj : i = j
  · subst hj
    rw [List.getElem?_set_self hi] at hy
    injection hy with hy
    subst hy
    obtain ⟨v, hv', ho⟩ := h.rows i l hl
    rw [hv] at hv'
    injection hv' with hv'
    subst hv'
    have hn := own_len ho
    subst hn
    refine ⟨_, hv, ?_⟩
    rw [List.length_set]
    exact own_store _ _ ho
  · rw [List.getElem?_set_ne hj] at hy
    obtain ⟨v, hv', ho⟩ := h.rows j y hy
    refine ⟨v, hv', own_set ho ?_ _⟩
    rcases h.apart i j _ _ hv hv' hj with h0 | h0
    · cases h0
    · exact fun e => h0 (by rw [e]; rfl)

/-- one of the rows grows by an append -/
theorem rows_grow {w w' : World} {B i : Nat} {cs : List Value} {L : List (List Int)} {l l' : List Int} {v v' : Value} (h : RowsOwn w B cs L) (hv : cs[i]? = some v) (hl : L[i]? = some l)
    (ho : w'.ownsRow B 21 1 v' l'.length (l'.map (Value.int .i32))) (hg : w.grownBy w' v.ownBlock) (hat : v'.ownBlock = v.ownBlock ∨ v'.ownBlock = some w.heap.size) :
    RowsOwn w' B (cs.set i v') (L.set i l') := by
  have hi := (List.getElem?_eq_some_iff.1 hl).1
  have hi' := (List.getElem?_eq_some_iff.1 hv).1
  have lt : ∀ (j : Nat) (u : Value), cs[j]? = some u → ∀ g, u.ownBlock = some g → g < w.heap.size := fun j u hu g hgu => by
    obtain ⟨y, hy⟩ := rows_of_mem h (List.mem_of_getElem? hu)
    exact (hy.lt _ hgu).2
  refine ⟨by rw [List.length_set, List.length_set]; exact h.len, fun j y hy => ?_, fun a b u x hu hx hab => ?_⟩
  · by_cases hj : i = j
    · subst hj
      rw [List.getElem?_set_self hi] at hy
      injection hy with hy
      subst hy
      exact ⟨v', List.getElem?_set_self hi', ho⟩
    · rw [List.getElem?_set_ne hj] at hy
      obtain ⟨u, hu, hou⟩ := h.rows j y hy
      exact ⟨u, by rw [List.getElem?_set_ne hj]; exact hu, hou.kept hg (h.apart j i u v hu hv (Ne.symm hj))⟩
  · by_cases ha : i = a
    · subst ha
      rw [List.getElem?_set_self hi'] at hu
      injection hu with hu
      subst hu
      rw [List.getElem?_set_ne hab] at hx
      rcases hat with hat | hat
      · rw [hat]; exact h.apart i b v x hv hx hab
      · refine .inr fun e => ?_
        have := lt b x hx _ (e.symm.trans hat)
        omega
    · rw [List.getElem?_set_ne ha] at hu
      by_cases hb : i = b
      · subst hb
        rw [List.getElem?_set_self hi'] at hx
        injection hx with hx
        subst hx
        rcases hat with hat | hat
        · rw [hat]; exact h.apart a i u v hu hv hab
        · refine .inr fun e => ?_
          have := lt a u hu _ (e.trans hat)
          omega
      · rw [List.getElem?_set_ne hb] at hx
        exact h.apart a b u x hu hx hab
end Go.Proofs.YtomkkagopjpfkaaDoor.lines
