/-
  The walk of the law's helper lined; rows of the call's own under what writes in newer memory alone.
-/
import Derived.Test.YtomkkagopjpfkaaDoorRefLines
import Derived.Test.YtomkkagopjpfkaaDoorApart
import Derived.Test.YtomkkagopjpfkaaDoorSpot0
namespace Go.Proofs.YtomkkagopjpfkaaDoor.lines
open Go.RowKit
open Go.Proofs.YtomkkagopjpfkaaDoor.words Go.Proofs.YtomkkagopjpfkaaDoor.enc Go.Proofs.YtomkkagopjpfkaaDoor.dec Go.Proofs.YtomkkagopjpfkaaDoor.ref Go.Proofs.YtomkkagopjpfkaaDoor.ln
set_option linter.unusedVariables false

/-- a list of lists that can be read -/
def RowsRd (w : World) (B : Nat) (A : Option Addr) (L : List (List Int)) : Prop :=
  ∀ (j : Nat) (l : List Int), L[j]? = some l → ∃ ad Aj cj, A = some ad ∧ ad.block < B ∧ w.cell? (ad.add j) = some (.slice Aj l.length cj) ∧ Rd w B Aj (l.map (Value.int .i32))
theorem rows_rd {w : World} {B n c : Nat} {A : Option Addr} {cs : List Value} {L : List (List Int)} (h : w.ownsRow B 26 1 (.slice A n c) n cs) (hr : RowsOwn w B cs L) : RowsRd w w.heap.size A L := by
  intro j l hl
  obtain ⟨v, hv, ho⟩ := hr.rows j l hl
  obtain ⟨Aj, cj, rfl, _, _⟩ := own_slice ho
  obtain ⟨hj, hvj⟩ := List.getElem?_eq_some_iff.1 hv
  obtain ⟨ad, e, hb, hc⟩ := (Rd.of_own h).at (k := j) hj
  exact ⟨ad, Aj, cj, e, hb, by rw [hc, hvj], Rd.of_own ho⟩
theorem rowsrd_below {w w' : World} {B C : Nat} {A : Option Addr} {L : List (List Int)} (h : RowsRd w B A L) (hb : Below C w w') (hC : B ≤ C) : RowsRd w' B A L := by
  intro j l hl
  obtain ⟨ad, Aj, cj, e, h1, h2, h3⟩ := h j l hl
  exact ⟨ad, Aj, cj, e, h1, (hb.cell (by rw [add_block]; omega)).trans h2, h3.below' hb hC⟩

theorem own_far {w w' : World} {B base s n : Nat} {e : TypeId} {v : Value} {xs : List Value} (h : w.ownsRow base e s v n xs) (hb : Below B w w') (hlt : ∀ g, v.ownBlock = some g → g < B) : w'.ownsRow base e s v n xs := by
  refine ⟨h.1, ?_⟩
  rcases h.2 with h0 | ⟨g, cap, cur, rfl, h2, h3, h4⟩
  · exact .inl h0
  · exact .inr ⟨g, cap, cur, rfl, h2, (hb.block g (hlt g rfl)).trans h3, h4⟩
theorem rows_one {w : World} {B : Nat} {cs : List Value} {L : List (List Int)} (h : RowsOwn w B cs L) : ∀ u ∈ cs, u.oneCell' = true := fun u hu => by
  obtain ⟨l, hl⟩ := rows_of_mem h hu
  obtain ⟨A, c, rfl, _, _⟩ := own_slice hl
  rfl
theorem rows_lt {w : World} {B : Nat} {cs : List Value} {L : List (List Int)} (h : RowsOwn w B cs L) : ∀ u ∈ cs, ∀ g, u.ownBlock = some g → g < w.heap.size := fun u hu g hg => by
  obtain ⟨l, hl⟩ := rows_of_mem h hu
  exact (hl.lt g hg).2

set_option maxHeartbeats 1000000 in
/-- the lines are those of the list -/
theorem lined_any (A A' : Option Addr) (m n c c' B B' : Nat) (zs : List Int) (w : World) (hrd : RowsRd w B A (linesOf zs)) (hm : (linesOf zs).length = m) (hr' : Rd w B' A' (zs.map (Value.int .i32)))
    (hB : B ≤ w.heap.size) (hB' : B' ≤ w.heap.size) (hl : zs.length = n) (hnc : n ≤ c') (hcm : c' ≤ maxLen) (hn : n ≤ 4194304) :
    Calls Tryd.prog 31 #[.slice A m c, .slice A' n c'] w fun e w' => e = .returned (.bool true) ∧ Below w.heap.size w w' := by
  have HL := hide hl
  have HM := hide hm
  have hmn : m ≤ n + 1 := by rw [← hm, lines_len, hl]; exact starts_len zs n
  clear hl hm
  go_enter Tryd.func31, Tryd.ntmps31
  go_wp2_with fail
  refine (RefLines_any A' n c' B' zs _ hr' hB' HL.out hnc hcm hn).mono ?_
  rintro e w1 ⟨v1, cs1, rfl, hown1, hrows1, hb1⟩
  have hm1 := hrows1.len
  rw [HM.out] at hm1
  rw [hm1] at hown1
  obtain ⟨A1, c1, rfl, _, _⟩ := own_slice hown1
  have rd1 := rows_rd hown1 hrows1
  have rd0 := rowsrd_below hrd hb1 hB
  have z1 := hb1.size
  clear hown1 hrows1 hm1 hrd hr'
  go_wp2_with fail
  go_loopw [6] (fun i wr => ∃ k : Nat, k ≤ m ∧ i = .int .i64 k ∧ Below w1.heap.size w1 wr) (fun i _ => m - (intOf i).toNat)
  case atStart => exact ⟨0, Nat.zero_le _, rfl, Below.refl _ _⟩
  case round =>
    obtain ⟨k, hk, rfl, hb⟩ := hrel
    by_cases hlt : k < m
    · obtain ⟨l, hl⟩ : ∃ l, (linesOf zs)[k]? = some l := ⟨(linesOf zs)[k]'(by rw [HM.out]; exact hlt), List.getElem?_eq_getElem _⟩
      obtain ⟨ad0, B0, d0, rfl, h01, h02, h03⟩ := (rowsrd_below rd0 hb (Nat.le_trans hB z1)) k l hl
      obtain ⟨ad1, B1, d1, rfl, h11, h12, h13⟩ := (rowsrd_below rd1 hb (Nat.le_refl _)) k l hl
      have hln : l.length ≤ n := by rw [← HL.out]; exact line_le hl
      clear hl
      have hkI : (k : Int) < (m : Int) := by omega
      go_wp2_with fail
      go_quiet ((go_at_call 19; exact Calls.quiet_of (alike_yes B0 B1 l.length d0 d1 B w1.heap.size l _ h03 h13 rfl (by simp only [maxLen]; omega))))
      go_wp2_with fail
      go_roundw
      case rel => exact ⟨k + 1, by omega, by go_num, below_drewN' hb _⟩
      case measure => simp [intOf]; omega
    · go_wp2_with fail
      go_ret
      exact ⟨rfl, hb1.trans (hb.mono z1)⟩
end Go.Proofs.YtomkkagopjpfkaaDoor.lines
