/-
  The walks of the reference's One and Decode, each once.
-/
import Derived.Test.YtomkkagopjpfkaaDoorRef
namespace Go.Proofs.YtomkkagopjpfkaaDoor.one
open Go.RowKit
open Go.Proofs.YtomkkagopjpfkaaDoor.words Go.Proofs.YtomkkagopjpfkaaDoor.enc Go.Proofs.YtomkkagopjpfkaaDoor.utf Go.Proofs.YtomkkagopjpfkaaDoor.dec Go.Proofs.YtomkkagopjpfkaaDoor.ref
set_option linter.unusedVariables false

theorem putL_eq (c : Int) : enc.putL c = utf.putL c := rfl

theorem One_any (A : Option Addr) (n c B : Nat) (l : List UInt8) (w : World) (hr : Rd w B A (Lib.byteCells l)) (hB : B ≤ w.heap.size) (hl : l.length = n) (hc : n ≤ c) (hn : c ≤ maxLen) :
    Calls Tryd.prog 50 #[.slice A n c] w fun e w' => e = .returned (.tuple #[.int .i32 (oneL l).1, .int .i64 (oneL l).2]) ∧ Below w.heap.size w w' := by
  unfold maxLen at hn
  have HL := hide hl
  clear hl
  go_enter Tryd.func50, Tryd.ntmps50
  go_wp2
  go_loopw [4] (fun i wr => ∃ k : Nat, 1 ≤ k ∧ k ≤ 5 ∧ i = .int .i64 k ∧ Below w.heap.size w wr ∧ Hid (∀ j, 1 ≤ j → j < k → j ≤ l.length → ¬ Hit l j)) (fun i _ => 5 - (intOf i).toNat)
  case atStart => exact ⟨1, by omega, by omega, rfl, Below.refl _ _, fun j h1 h2 => by omega⟩
  case round =>
    obtain ⟨k, hk1, hk5, rfl, hb, hmiss⟩ := hrel
    by_cases h4 : k ≤ 4
    · by_cases hkn : k ≤ n
      · have hkc : k ≤ c := by omega
        have hlen : (l.take k).length = k := by rw [List.length_take, HL.out]; omega
        have hrk : Rd wr B A (Lib.byteCells (l.take k)) := by
          have := (hr.below' hb hB).take k
          rw [show Lib.byteCells (l.take k) = (Lib.byteCells l).take k by simp [Lib.byteCells, List.map_take]]
          exact this
        have HK := hide hlen
        clear hlen
        go_wp2_with fail
        refine (number_any A k c B (l.take k) _ hrk HK.out hk1 h4).mono ?_
        rintro e w1 ⟨rfl, hb1⟩
        have hb01 := hb.trans (hb1.mono hb.size)
        obtain ⟨q, hq⟩ : ∃ q, numL (ints (l.take k)) = q := ⟨_, rfl⟩
        have HQ := hide hq
        rw [hq]
        clear hq
        go_wp2_with fail
        refine (Put_any q _).mono ?_
        rintro e w2 ⟨A2, k2, rfl, hr2, hb2⟩
        have hb02 := hb01.trans (hb2.mono hb01.size)
        have hrk2 := hrk.keep (w' := w2) (fun p hp => (hb2.cell (by have := hb01.size; omega)).trans (hb1.cell (by have := hb.size; omega)))
        by_cases hpl : (enc.putL q).length = k
        · have hpe : (((enc.putL q).length : Int) == (k : Int)) = true := by rw [beq_iff_eq]; omega
          obtain ⟨pb, hpb⟩ : ∃ pb : List UInt8, ints pb = enc.putL q := by
            by_cases hv : Lib.validRune q = true
            · exact ⟨Lib.encodeRune q, by rw [ints_encode]; exact (if_pos hv).symm⟩
            · exact ⟨[], by unfold enc.putL; rw [if_neg hv]; rfl⟩
          have hcells : (enc.putL q).map (Value.int .u8) = Lib.byteCells pb := by rw [← hpb]; simp [ints, Lib.byteCells]
          rw [hcells] at hr2
          have hpn : pb.length = k := by rw [← hpl, ← hpb, ints_len]
          have HP := hide hpn
          have HPB := hide hpb
          have HPL := hide hpl
          clear hcells hpl hpb hpn
          go_wp2_with fail
          rw [HPL.out]
          refine (same_any A2 A k k2 c _ B pb (l.take k) _ hr2 hrk2 HP.out HK.out (by simp only [maxLen]; omega)).mono ?_
          rintro e w3 ⟨rfl, m, rfl⟩
          have hb03 := below_drewN hb02 m
          by_cases hs : sameB pb (l.take k) = true
          · have hh : Hit l k := by
              have e1 := of_decide_eq_true hs
              show utf.putL (numL (ints (l.take k))) = ints (l.take k)
              rw [HQ.out, ← putL_eq, ← HPB.out, e1]
            have hone := oneL_hit hk1 (by rw [HL.out]; exact hkn) hh
            rw [HQ.out] at hone
            have HO := hide hone
            clear hone hh
            go_wp2_with fail
            go_ret2
            exact ⟨by rw [HO.out]; rfl, hb03⟩
          · have hs' : sameB pb (l.take k) = false := by simpa using hs
            have hnh : ¬ Hit l k := by
              intro hh
              apply hs
              apply decide_eq_true
              apply ints_inj
              rw [HPB.out, putL_eq, ← HQ.out]
              exact hh
            have HN := hide hnh
            clear hs hnh
            go_wp2_with fail
            go_roundw
            case rel => exact ⟨k + 1, by omega, by omega, by go_num, hb03, fun j j1 j2 j3 => if e : j = k then by rw [e]; exact HN.out else hmiss.out j j1 (by omega) j3⟩
            case measure => simp [intOf]; omega
        · have hpe : (((enc.putL q).length : Int) == (k : Int)) = false := by rw [beq_eq_false_iff_ne]; omega
          have hnh : ¬ Hit l k := by
            intro hh
            apply hpl
            have e1 : utf.putL (numL (ints (l.take k))) = ints (l.take k) := hh
            rw [HQ.out] at e1
            rw [putL_eq, e1, ints_len, HK.out]
          have HN := hide hnh
          clear hpl hnh
          go_wp2_with fail
          go_roundw
          case rel => exact ⟨k + 1, by omega, by omega, by go_num, hb02, fun j j1 j2 j3 => if e : j = k then by rw [e]; exact HN.out else hmiss.out j j1 (by omega) j3⟩
          case measure => simp [intOf]; omega
      · have hone := oneL_miss (l := l) (fun j j1 j2 j3 => hmiss.out j j1 (by have := HL.out; omega) j3)
        have HO := hide hone
        clear hone
        go_wp2_with fail
        go_ret2
        exact ⟨by rw [HO.out]; rfl, hb⟩
    · have hone := oneL_miss (l := l) (fun j j1 j2 j3 => hmiss.out j j1 (by omega) j3)
      have HO := hide hone
      clear hone
      go_wp2_with fail
      go_ret2
      exact ⟨by rw [HO.out]; rfl, hb⟩

/-- the reference's Decode -/
theorem RefDecode_any (A : Option Addr) (n c B : Nat) (l : List UInt8) (w : World) (hr : Rd w B A (Lib.byteCells l)) (hB : B ≤ w.heap.size) (hl : l.length = n) (hc : n ≤ c) (hn : c ≤ maxLen) (hs : n ≤ 35184372088832) :
    Calls Tryd.prog 33 #[.slice A n c] w (DecPost l w) := by
  obtain ⟨i0, hi0, hz0, hz1, hz2⟩ := info_parts rune_info
  unfold maxLen at hn
  have HL := hide hl
  clear hl
  go_enter Tryd.func33, Tryd.ntmps33
  go_wp2
  go_loopw [4, 5] (fun v i wr => ∃ (pos : Nat) (acc : List Int), i = .int .i64 pos ∧ pos ≤ n ∧ wr.ownsRow w.heap.size 21 1 v acc.length (acc.map (Value.int .i32)) ∧ Below w.heap.size w wr ∧ Hid (At l pos acc)) (fun _ i _ => n - (intOf i).toNat)
  case atStart => exact ⟨0, [], rfl, by omega, World.ownsRow_nil _ _ _ _, Below.refl _ _, at_start _⟩
  case round =>
    obtain ⟨pos, acc, rfl, hpos, hown, hb, hat⟩ := hrel
    obtain ⟨Av, cv, rfl, _, _⟩ := own_slice hown
    by_cases hlt : pos < n
    · have hla := hat.out.2.2
      have hrd : Rd wr B (A.map (·.add pos)) (Lib.byteCells (l.drop pos)) := by
        rw [show Lib.byteCells (l.drop pos) = (Lib.byteCells l).drop pos by simp [Lib.byteCells, List.map_drop]]
        exact (hr.below' hb hB).drop pos
      have hne : l.drop pos ≠ [] := by intro e; have := congrArg List.length e; rw [List.length_drop, List.length_nil, HL.out] at this; omega
      have hdl : (l.drop pos).length = n - pos := by rw [List.length_drop, HL.out]
      have HN := hide hne
      have HD := hide hdl
      clear hne hdl
      go_wp2_with fail
      refine (One_any _ (n - pos) (c - pos) B (l.drop pos) _ hrd (Nat.le_trans hB hb.size) HD.out (by omega) (by simp only [maxLen]; omega)).mono ?_
      rintro e w1 ⟨rfl, hb1⟩
      have hb01 := hb.trans (hb1.mono hb.size)
      have hown1 := own_below hown hb1
      by_cases hbad : Bad (l.drop pos)
      · have hone : oneL (l.drop pos) = (0, 0) := if_pos (.inr hbad)
        have hfin := at_bad hat.out hbad
        have HF := hide hfin
        rw [hone]
        clear hone hbad hfin
        dsimp only
        go_wp2_with fail
        go_ret2
        exact ⟨.slice Av acc.length cv, by rw [HF.out]; rfl, by rw [HF.out]; exact hown1, hb01⟩
      · have hone : oneL (l.drop pos) = (((Lib.decodeL (l.drop pos)).1 : Int), (Lib.decodeL (l.drop pos)).2) := if_neg (by rintro (h | h); exact HN.out h; exact hbad h)
        have hgood := at_good hat.out (by rw [HL.out]; exact hlt) hbad
        have hw1 := Lib.decodeL_width (l.drop pos)
        have hle := Lib.decodeL_le (l.drop pos) HN.out
        rw [HD.out] at hle
        have hru := Lib.decodeL_rune (l.drop pos)
        rw [hone]
        generalize (Lib.decodeL (l.drop pos)).1 = r at *
        generalize (Lib.decodeL (l.drop pos)).2 = k at *
        have HG := hide hgood
        clear hone hbad hgood
        dsimp only
        have hk0 : ((k : Int) == 0) = false := by rw [beq_eq_false_iff_ne]; omega
        have hown2 := hown1.alloc (.cells #[.int .i32 r] 21)
        go_wp2_with (at_builtin; refine wpList_append_rd _ rfl _ _ 26 rfl w.heap.size 21 i0 (.int .i32 0) 1 4 Tryd.underlying26 hi0 hz0 hz1 hz2 rfl (by decide) _ _ _ rfl hown2 _ _ 1 1 _ rfl ?c1 (rd_one _ _ _ (Nat.lt_succ_self _)) (one_i32 _) ?c2 ?c3 ?c4 ?_)
        case c1 => rfl
        case c2 => simp only [maxLen]; omega
        case c3 => omega
        case c4 => exact Nat.le_trans hb01.size (by simp)
        intro v3 w3 hown3 hg3 _
        have hb3 := below_append (hb01.alloc hb01.size _) hown2 (Nat.le_refl _) hg3 (Nat.le_trans hb01.size (by simp))
        go_wp2_with fail
        go_roundw
        case rel =>
          refine ⟨pos + k, acc ++ [(r : Int)], by go_num, by omega, ?_, hb3, HG.out⟩
          rw [List.length_append, List.map_append]
          exact hown3
        case measure => simp [intOf]; omega
    · have hend := at_end hat.out (by rw [HL.out]; exact hlt)
      rw [HL.out] at hend
      have hpn : pos = n := by omega
      have HF := hide hend
      subst hpn
      clear hend
      go_wp2_with fail
      go_ret2
      exact ⟨.slice Av acc.length cv, by rw [HF.out]; rfl, by rw [HF.out]; exact hown, hb⟩
end Go.Proofs.YtomkkagopjpfkaaDoor.one
