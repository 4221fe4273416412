/-
  The walks of the laws' helpers roomy, untouched and spotted, each once.
-/
import Derived.Test.YtomkkagopjpfkaaDoorRefPlaces
import Derived.Test.YtomkkagopjpfkaaDoorOver0
namespace Go.Proofs.YtomkkagopjpfkaaDoor.lines
open Go.RowKit
open Go.Proofs.YtomkkagopjpfkaaDoor.words Go.Proofs.YtomkkagopjpfkaaDoor.enc Go.Proofs.YtomkkagopjpfkaaDoor.dec Go.Proofs.YtomkkagopjpfkaaDoor.ref Go.Proofs.YtomkkagopjpfkaaDoor.ln
set_option linter.unusedVariables false

theorem take_marks {k : Nat} (hk : k < 40) : marks.take (k + 1) = marks.take k ++ [-7000 - (k : Int)] := take_snoc (marks_at hk)

set_option maxHeartbeats 1000000 in
/-- the list with marked spare room -/
theorem roomy_any (A : Option Addr) (n c B : Nat) (zs : List Int) (w : World) (hr : Rd w B A (zs.map (Value.int .i32))) (hB : B ≤ w.heap.size) (hl : zs.length = n) (hn : n ≤ 4194304) :
    Calls Tryd.prog 28 #[.slice A n c] w fun e w' => ∃ v, e = .returned v ∧ w'.ownsRow w.heap.size 21 1 v (n + 40) ((zs ++ marks).map (Value.int .i32)) ∧ Below w.heap.size w w' := by
  obtain ⟨i0, hi0, hz0, hz1, hz2⟩ := info_parts rune_info
  have HL := hide hl
  clear hl
  go_enter Tryd.func28, Tryd.ntmps28
  go_wp2_with (at_make; refine wpList_make_own _ rfl _ _ 26 rfl w.heap.size 21 i0 (.int .i32 0) 1 Tryd.underlying26 hi0 hz0 hz1 _ _ _ (n + 40) rfl rfl (by omega) (by rw [hz2]; omega) (by simp only [maxLen]; omega) (Nat.le_refl _) ?_)
  intro w1 hown1 hg1
  have hb1 : Below w.heap.size w w1 := (Below.refl _ _).grown hg1 (Nat.le_refl _) (fun k hk => by cases hk)
  have hr1 := hr.below' hb1 hB
  go_wp2_with (at_builtin; refine wpList_append_rd _ rfl _ _ 26 rfl w.heap.size 21 i0 (.int .i32 0) 1 4 Tryd.underlying26 hi0 hz0 hz1 hz2 rfl (by decide) _ 0 [] rfl hown1 B A n c (zs.map (Value.int .i32)) rfl ?c1 hr1 (one_i32 zs) ?c2 ?c3 hb1.size ?_)
  case c1 => rw [List.length_map, HL.out, Nat.mul_one]
  case c2 => simp only [maxLen]; omega
  case c3 => omega
  intro v2 w2 hown2 hg2 _
  have hb2 := below_append hb1 hown1 (Nat.le_refl _) hg2 hb1.size
  clear hr1 hr hb1 hown1 hg1 hg2
  go_wp2_with fail
  go_loopw [3, 4] (fun v i wr => ∃ k : Nat, k ≤ 40 ∧ i = .int .i64 k ∧ wr.ownsRow w.heap.size 21 1 v (n + k) ((zs ++ marks.take k).map (Value.int .i32)) ∧ Below w.heap.size w wr) (fun _ i _ => 40 - (intOf i).toNat)
  case atStart => exact ⟨0, Nat.zero_le _, rfl, by simpa using hown2, hb2⟩
  case round =>
    obtain ⟨k, hk, rfl, hown, hb⟩ := hrel
    obtain ⟨Al, cl, rfl, _, _⟩ := own_slice hown
    by_cases hlt : k < 40
    · have hkI : (k : Int) < 40 := by omega
      have hwr : IntKind.i32.wrap (-7000 - (k : Int)) = -7000 - (k : Int) := by simp [IntKind.wrap, IntKind.bits, IntKind.signed]; omega
      go_wp2_with (at_builtin; refine wpList_append_rd _ rfl _ _ 26 rfl w.heap.size 21 i0 (.int .i32 0) 1 4 Tryd.underlying26 hi0 hz0 hz1 hz2 rfl (by decide) _ _ _ rfl (hown.alloc _) _ _ 1 1 _ rfl ?c1 (rd_one _ _ _ (Nat.lt_succ_self _)) (one_i32 _) ?c3 ?c4 ?c5 ?_)
      case c1 => rfl
      case c3 => simp only [maxLen]; omega
      case c4 => omega
      case c5 => exact Nat.le_trans hb.size (by simp)
      intro v3 w3 hown3 hg3 _
      have hb3 := below_append (hb.alloc hb.size _) (hown.alloc _) (Nat.le_refl _) hg3 (Nat.le_trans hb.size (by simp))
      go_wp2_with fail
      go_roundw
      case rel =>
        refine ⟨k + 1, by omega, by go_num, ?_, hb3⟩
        rw [take_marks hlt]
        simp only [List.map_append, List.map_take]
        exact hown3
      case measure => simp [intOf]; omega
    · obtain rfl : k = 40 := by omega
      go_wp2_with fail
      go_ret
      refine ⟨_, rfl, ?_, hb⟩
      rw [List.take_of_length_le (by rw [marks_len]; omega)] at hown
      exact hown

set_option maxHeartbeats 1000000 in
/-- the list is untouched, its spare room too -/
theorem untouched_any (A A' : Option Addr) (n c c' B B' : Nat) (zs : List Int) (w : World) (hr : Rd w B A ((zs ++ marks).map (Value.int .i32))) (hr' : Rd w B' A' (zs.map (Value.int .i32))) (hl : zs.length = n) (hn : n ≤ 4194304) (hc : n + 40 ≤ c) :
    Calls Tryd.prog 30 #[.slice A (n + 40) c, .slice A' n c'] w fun e w' => e = .returned (.bool true) ∧ ∃ k, w' = w.drewN k := by
  have HL := hide hl
  have hrt := hr.take n
  rw [← List.map_take, List.take_append_of_le_length (by omega), List.take_of_length_le (by omega)] at hrt
  have hcn : n ≤ c := by omega
  clear hl hc
  go_enter Tryd.func30, Tryd.ntmps30
  go_wp2_with fail
  refine (alike_yes A A' n c c' B B' zs _ hrt hr' HL.out (by simp only [maxLen]; omega)).mono ?_
  rintro e w1 ⟨rfl, q, rfl⟩
  go_wp2_with fail
  go_loopw [5] (fun i wr => ∃ k : Nat, k ≤ 40 ∧ i = .int .i64 k ∧ wr = w.drewN q) (fun i _ => 40 - (intOf i).toNat)
  case atStart => exact ⟨0, Nat.zero_le _, rfl, rfl⟩
  case round =>
    obtain ⟨k, hk, rfl, rfl⟩ := hrel
    by_cases hlt : k < 40
    · have hkI : (k : Int) < 40 := by omega
      have hkn : (n : Int) + (k : Int) < (n : Int) + 40 := by omega
      have hwr : IntKind.i32.wrap (-7000 - (k : Int)) = -7000 - (k : Int) := by simp [IntKind.wrap, IntKind.bits, IntKind.signed]; omega
      obtain ⟨ad, z, rfl, hz, had, hcc⟩ := hr.i32 (k := n + k) (by rw [List.length_append, marks_len, HL.out]; omega)
      rw [List.getElem?_append_right (by rw [HL.out]; omega), HL.out, Nat.add_sub_cancel_left, marks_at hlt] at hz
      injection hz with hz
      subst hz
      go_wp2_with fail
      go_roundw
      case rel => exact ⟨k + 1, by omega, by go_num, trivial⟩
      case measure => simp [intOf]; omega
    · go_wp2_with fail
      go_ret
      exact ⟨rfl, q, rfl⟩

set_option maxHeartbeats 1000000 in
/-- the places are those of the list -/
theorem spotted_any (A A' : Option Addr) (n c c' B B' : Nat) (zs : List Int) (w : World) (hr : Rd w B A (pcells (places zs (n + 1)))) (hr' : Rd w B' A' (zs.map (Value.int .i32))) (hB : B ≤ w.heap.size) (hB' : B' ≤ w.heap.size) (hl : zs.length = n) (hn : n ≤ 4194304) :
    Calls Tryd.prog 38 #[.slice A (n + 1) c, .slice A' n c'] w fun e w' => e = .returned (.bool true) ∧ Below w.heap.size w w' := by
  have HL := hide hl
  clear hl
  go_enter Tryd.func38, Tryd.ntmps38
  go_wp2_with fail
  refine (RefPlaces_any A' n c' B' zs _ hr' hB' HL.out hn).mono ?_
  rintro e w1 ⟨v1, rfl, hown1, hb1⟩
  obtain ⟨A1, c1, rfl, hn1, hm1⟩ := own_slice hown1
  have rd1 := Rd.of_own hown1
  have rd0 := hr.below' hb1 hB
  have z1 := hb1.size
  clear hown1
  go_wp2_with fail
  go_loopw [6] (fun i wr => ∃ k : Nat, k ≤ n + 1 ∧ i = .int .i64 k ∧ Below w1.heap.size w1 wr) (fun i _ => n + 1 - (intOf i).toNat)
  case atStart => exact ⟨0, Nat.zero_le _, rfl, Below.refl _ _⟩
  case round =>
    obtain ⟨k, hk, rfl, hb⟩ := hrel
    by_cases hlt : k < n + 1
    · have hkI : (k : Int) < (n : Int) + 1 := by omega
      obtain ⟨ad3, rfl, h31, h32, h33⟩ := rd_place (rd0.below' hb (Nat.le_trans hB z1)) hlt
      obtain ⟨ad5, rfl, h51, h52, h53⟩ := rd_place (rd1.below' hb (Nat.le_refl _)) hlt
      go_wp2_with fail
      go_quiet (fail)
      go_wp2_with fail
      go_roundw
      case rel => exact ⟨k + 1, by omega, by go_num, below_drewN' hb _⟩
      case measure => simp [intOf]; omega
    · go_wp2_with fail
      go_ret
      exact ⟨rfl, hb1.trans (hb.mono z1)⟩
end Go.Proofs.YtomkkagopjpfkaaDoor.lines
