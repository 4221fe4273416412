/-
  The walk of bare, once.
-/
import Derived.Test.YtomkkagopjpfkaaDoorRefLines
import Derived.Test.YtomkkagopjpfkaaDoorAwake
import Derived.Test.YtomkkagopjpfkaaDoorSplice0
namespace Go.Proofs.YtomkkagopjpfkaaDoor.lines
open Go.RowKit
open Go.Proofs.YtomkkagopjpfkaaDoor.words Go.Proofs.YtomkkagopjpfkaaDoor.enc Go.Proofs.YtomkkagopjpfkaaDoor.dec Go.Proofs.YtomkkagopjpfkaaDoor.ref Go.Proofs.YtomkkagopjpfkaaDoor.ln
set_option linter.unusedVariables false

theorem bare_snoc {zs : List Int} {k : Nat} {z : Int} (h : zs[k]? = some z) : bareL (zs.take (k + 1)) = bareL (zs.take k) ++ (if z ≠ 13 ∧ z ≠ 10 then [z] else []) := by
  unfold bareL
  rw [take_snoc h, List.filter_append]
  congr 1
  by_cases hz : z ≠ 13 ∧ z ≠ 10
  · rw [if_pos hz]; simp [hz]
  · rw [if_neg hz, List.filter_eq_nil_iff]
    intro a ha
    simp at ha
    subst ha
    simpa using hz

set_option maxHeartbeats 1000000 in
theorem bare_any (A : Option Addr) (n c B : Nat) (zs : List Int) (w : World) (hr : Rd w B A (zs.map (Value.int .i32))) (hB : B ≤ w.heap.size) (hl : zs.length = n) (hn : n ≤ 4194304) :
    Calls Tryd.prog 27 #[.slice A n c] w fun e w' => ∃ v, e = .returned v ∧ w'.ownsRow w.heap.size 21 1 v (bareL zs).length ((bareL zs).map (Value.int .i32)) ∧ Below w.heap.size w w' := by
  obtain ⟨i0, hi0, hz0, hz1, hz2⟩ := info_parts rune_info
  have HL := hide hl
  clear hl
  go_enter Tryd.func27, Tryd.ntmps27
  go_wp2
  go_loopw [3, 4] (fun v i wr => ∃ (k : Nat) (bs : List Int), k ≤ n ∧ i = .int .i64 k ∧ bs.length ≤ k ∧ Hid (bareL (zs.take k) = bs) ∧ wr.ownsRow w.heap.size 21 1 v bs.length (bs.map (Value.int .i32)) ∧ Below w.heap.size w wr) (fun _ i _ => n - (intOf i).toNat)
  case atStart => exact ⟨0, [], Nat.zero_le _, rfl, Nat.le_refl _, rfl, World.ownsRow_nil _ _ _ _, Below.refl _ _⟩
  case round =>
    obtain ⟨k, bs, hk, rfl, hbl, hbs, hown, hb⟩ := hrel
    obtain ⟨Av, cv, rfl, _, _⟩ := own_slice hown
    by_cases hlt : k < n
    · have hkI : (k : Int) < (n : Int) := by omega
      obtain ⟨ad, z, rfl, hz, had, hc⟩ := (hr.below' hb hB).i32 (k := k) (by rw [HL.out]; exact hlt)
      have HS := hide (bare_snoc hz)
      clear hz
      by_cases h13 : z = 13
      · subst h13
        have hb2 : Hid (bareL (zs.take (k + 1)) = bs) := by
          have e := HS.out
          rw [hbs.out] at e
          refine hide ?_
          simpa using e
        clear HS
        go_wp2_with fail
        go_roundw
        case rel => exact ⟨k + 1, bs, by omega, by go_num, by omega, hb2, hown, hb⟩
        case measure => simp [intOf]; omega
      have b13 : ((z : Int) == 13) = false := by rw [beq_eq_false_iff_ne]; exact h13
      have n13 : ((z : Int) != 13) = true := by rw [bne, b13]; rfl
      by_cases h10 : z = 10
      · subst h10
        have hb2 : Hid (bareL (zs.take (k + 1)) = bs) := by
          have e := HS.out
          rw [hbs.out] at e
          refine hide ?_
          simpa using e
        clear HS
        go_wp2_with fail
        go_roundw
        case rel => exact ⟨k + 1, bs, by omega, by go_num, by omega, hb2, hown, hb⟩
        case measure => simp [intOf]; omega
      · have b10 : ((z : Int) == 10) = false := by rw [beq_eq_false_iff_ne]; exact h10
        have n10 : ((z : Int) != 10) = true := by rw [bne, b10]; rfl
        have hb2 : Hid (bareL (zs.take (k + 1)) = bs ++ [z]) := by
          have e := HS.out
          rw [hbs.out, if_pos ⟨h13, h10⟩] at e
          exact e
        clear HS
        go_wp2_with (at_builtin; refine wpList_append_rd _ rfl _ _ 26 rfl w.heap.size 21 i0 (.int .i32 0) 1 4 Tryd.underlying26 hi0 hz0 hz1 hz2 rfl (by decide) _ _ _ rfl (hown.alloc _) _ _ 1 1 _ rfl (by rfl) (rd_runes _ [z] _ (Nat.lt_succ_self _)) (one_i32 [z]) ?c3 ?c4 ?c5 ?_)
        case c3 => simp only [maxLen]; omega
        case c4 => omega
        case c5 => exact Nat.le_trans hb.size (by simp)
        intro v2 w2 hown2 hg2 hat2
        have hb3 := below_append (hb.alloc hb.size _) (hown.alloc _) (Nat.le_refl _) hg2 (Nat.le_trans hb.size (by simp))
        go_wp2_with fail
        go_roundw
        case rel =>
          refine ⟨k + 1, bs ++ [z], by omega, by go_num, by rw [List.length_append]; simp; omega, hb2, ?_, hb3⟩
          rw [List.length_append, List.map_append]
          exact hown2
        case measure => simp [intOf]; omega
    · have hkn : k = n := by omega
      subst hkn
      have hfin : bareL zs = bs := by
        have e := hbs.out
        rwa [List.take_of_length_le (by rw [HL.out]; exact Nat.le_refl _)] at e
      go_wp2_with fail
      go_ret
      rw [hfin]
      exact ⟨_, rfl, hown, hb⟩
end Go.Proofs.YtomkkagopjpfkaaDoor.lines
