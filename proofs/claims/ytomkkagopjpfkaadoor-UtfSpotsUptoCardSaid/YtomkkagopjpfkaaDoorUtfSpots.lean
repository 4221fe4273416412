/-
  UtfSpots: for every list of characters and every character the law returns true, and the arguments read behind the call as before; where the arguments' values and letters are at most 1048576 in all.
-/
import Derived.Test.YtomkkagopjpfkaaDoorTabs
import Derived.Test.YtomkkagopjpfkaaDoorSpot0
import Derived.Test.YtomkkagopjpfkaaDoorAwake
namespace Go.Proofs.YtomkkagopjpfkaaDoor.utfSpots
open Go.ChangeShapes Go.WideShapes Go.ChangeAt Go.RowKit
open Go.Proofs.YtomkkagopjpfkaaDoor.frame
open Go.Proofs.YtomkkagopjpfkaaDoor.words Go.Proofs.YtomkkagopjpfkaaDoor.enc Go.Proofs.YtomkkagopjpfkaaDoor.utf Go.Proofs.YtomkkagopjpfkaaDoor.dec Go.Proofs.YtomkkagopjpfkaaDoor.ref Go.Proofs.YtomkkagopjpfkaaDoor.ln Go.Proofs.YtomkkagopjpfkaaDoor.lines
set_option linter.unusedVariables false

theorem clamp_self (n : Nat) : clamp (n : Int) n = n := by unfold clamp; rw [if_neg (by omega)]; omega
theorem take_front {w : World} {B n : Nat} {A : Option Addr} {zs : List Int} (hr : Rd w B A ((zs ++ marks).map (Value.int .i32))) (hl : zs.length = n) : Rd w B A (zs.map (Value.int .i32)) := by
  have hrt := hr.take n
  rw [← List.map_take, List.take_append_of_le_length (by omega), List.take_of_length_le (by omega)] at hrt
  exact hrt

set_option maxRecDepth 100000 in
set_option maxHeartbeats 8000000 in
theorem walk (A : Option Addr) (n c : Nat) (oth : Int) (zs : List Int) (w : World) (hr : Rd w w.heap.size A (zs.map (Value.int .i32))) (hl : zs.length = n) (hn : n ≤ 1048576) (hT : Lib.Utf8Tabs 0 1 w) :
    Calls Tryd.prog 13 #[.slice A n c, .int .i32 oth] w fun e w' => e = .returned (.bool true) ∧ Below w.heap.size w w' := by
  obtain ⟨i0, hi0, hz0, hz1, hz2⟩ := info_parts pos_info
  have HL := hide hl
  have HT := hide hT
  clear hl hT
  go_enter Tryd.func13, Tryd.ntmps13
  go_wp2_with fail
  refine (awake_any _ HT.out).mono ?_
  rintro e w1 ⟨rfl, hb1⟩
  go_wp2_with fail
  refine (copiedRunes_any A n c w.heap.size zs _ (hr.below hb1) hb1.size HL.out (by omega)).mono ?_
  rintro e w2 ⟨v2, rfl, hown2, hb2⟩
  obtain ⟨A2, c2, rfl, hn2, hm2⟩ := own_slice hown2
  have hB2 := hb1.trans (hb2.mono hb1.size)
  go_wp2_with fail
  refine (roomy_any A2 n c2 w2.heap.size zs _ (Rd.of_own hown2) (Nat.le_refl _) HL.out (by omega)).mono ?_
  rintro e w3 ⟨v3, rfl, hown3, hb3⟩
  obtain ⟨A3, c3, rfl, hn3, hm3⟩ := own_slice hown3
  obtain ⟨g3, rfl, hg31, hg32, _⟩ := own_form hown3 (by omega)
  have hB3 := hB2.trans (hb3.mono hB2.size)
  have h2lt : Hid (∀ g, (Value.slice A2 n c2).ownBlock = some g → w1.heap.size ≤ g ∧ g < w2.heap.size) := fun g h => hown2.lt g h
  have hown2 := own_below hown2 hb3
  have hc3 : n ≤ c3 := by omega
  have za := hb1.size
  have zb := hb2.size
  have zc := hb3.size
  go_wp2_with fail
  refine (Places_any _ n c3 w3.heap.size zs _ (take_front (Rd.of_own hown3) HL.out) (Nat.le_refl _) HL.out (by omega)).mono ?_
  rintro e w4 ⟨v4, rfl, hown4, hb4⟩
  obtain ⟨A4, c4, rfl, hn4, hm4⟩ := own_slice hown4
  obtain ⟨g4, rfl, hg41, hg42, _⟩ := own_form hown4 (by omega)
  have hB4 := hB3.trans (hb4.mono hB3.size)
  have hown2 := own_below hown2 hb4
  have hown3 := own_below hown3 hb4
  go_wp2_with fail
  refine (Places_any _ n c3 w4.heap.size zs _ (take_front (Rd.of_own hown3) HL.out) (Nat.le_refl _) HL.out (by omega)).mono ?_
  rintro e w5 ⟨v5, rfl, hown5, hb5⟩
  obtain ⟨A5, c5, rfl, hn5, hm5⟩ := own_slice hown5
  obtain ⟨g5, rfl, hg51, hg52, _⟩ := own_form hown5 (by omega)
  have hB5 := hB4.trans (hb5.mono hB4.size)
  have hown2 := own_below hown2 hb5
  have hown3 := own_below hown3 hb5
  have hown4 := own_below hown4 hb5
  go_wp2_with fail
  refine (spotted_any _ A2 n c4 c2 w5.heap.size w5.heap.size zs _ (Rd.of_own hown4) (Rd.of_own hown2) (Nat.le_refl _) (Nat.le_refl _) HL.out (by omega)).mono ?_
  rintro e w6 ⟨rfl, hb6⟩
  have hB6 := hB5.trans (hb6.mono hB5.size)
  have hown2 := own_below hown2 hb6
  have hown3 := own_below hown3 hb6
  have hown4 := own_below hown4 hb6
  have hown5 := own_below hown5 hb6
  go_wp2_with fail
  refine (spotted_any _ A2 n c5 c2 w6.heap.size w6.heap.size zs _ (Rd.of_own hown5) (Rd.of_own hown2) (Nat.le_refl _) (Nat.le_refl _) HL.out (by omega)).mono ?_
  rintro e w7 ⟨rfl, hb7⟩
  have hB7 := hB6.trans (hb7.mono hB6.size)
  have hown2 := own_below hown2 hb7
  have hown3 := own_below hown3 hb7
  have hown4 := own_below hown4 hb7
  have hown5 := own_below hown5 hb7
  go_wp2_with fail
  refine (Place_any _ n c3 w7.heap.size (n : Int) zs _ (take_front (Rd.of_own hown3) HL.out) (Nat.le_refl _) HL.out (by omega)).mono ?_
  rintro e w8 ⟨rfl, hb8⟩
  have hB8 := hB7.trans (hb8.mono hB7.size)
  have hown2 := own_below hown2 hb8
  have hown3 := own_below hown3 hb8
  have hown4 := own_below hown4 hb8
  have hown5 := own_below hown5 hb8
  go_wp2_with fail
  refine (RefPlace_any A2 n c2 w8.heap.size (n : Int) zs _ (Rd.of_own hown2) (Nat.le_refl _) HL.out (by omega)).mono ?_
  rintro e w9 ⟨rfl, hb9⟩
  have hB9 := hB8.trans (hb9.mono hB8.size)
  have hown2 := own_below hown2 hb9
  have hown3 := own_below hown3 hb9
  have hown4 := own_below hown4 hb9
  have hown5 := own_below hown5 hb9
  rw [clamp_self]
  go_wp2_with fail
  refine (untouched_any _ A2 n c3 c2 w9.heap.size w9.heap.size zs _ (Rd.of_own hown3) (Rd.of_own hown2) HL.out (by omega) (by omega)).mono ?_
  rintro e wx ⟨rfl, q, rfl⟩
  have hB10 := below_drewN' hB9 q
  have z5 := Nat.le_trans (Nat.le_trans (Nat.le_trans hb6.size hb7.size) hb8.size) hb9.size
  have zd := hb4.size
  have ze := hb5.size
  have hown2' : (w9.drewN q).ownsRow w1.heap.size 21 1 (.slice A2 n c2) n (zs.map (Value.int .i32)) := hown2
  have hown3' : (w9.drewN q).ownsRow w2.heap.size 21 1 (.slice (some ⟨g3, 0, none⟩) (n + 40) c3) (n + 40) ((zs ++ marks).map (Value.int .i32)) := hown3
  have hown4' : (w9.drewN q).ownsRow w3.heap.size 50 2 (.slice (some ⟨g4, 0, none⟩) (n + 1) c4) (n + 1) (pcells (places zs (n + 1))) := hown4
  have hown5' : (w9.drewN q).ownsRow w4.heap.size 50 2 (.slice (some ⟨g5, 0, none⟩) (n + 1) c5) (n + 1) (pcells (places zs (n + 1))) := hown5
  have hz10 : w9.heap.size = (w9.drewN q).heap.size := rfl
  clear hown2 hown3 hown4 hown5
  generalize w9.drewN q = w10 at hB10 hown2' hown3' hown4' hown5' hz10 ⊢
  clear hb1 hb2 hb3 hb4 hb5 hb6 hb7 hb8 hb9 hB3 hB4 hB5 hB6 hB7 hB8 hB9
  go_wp2_with fail
  go_loopw [10] (fun i wr => ∃ (k : Nat) (xs : List Value), k ≤ n + 1 ∧ i = .int .i64 k ∧ wr.ownsRow w3.heap.size 50 2 (.slice (some ⟨g4, 0, none⟩) (n + 1) c4) (n + 1) xs ∧ Hid (w10.grownBy wr (some g4)) ∧ Below w.heap.size w wr) (fun i _ => n + 1 - (intOf i).toNat)
  case atStart => exact ⟨0, _, Nat.zero_le _, rfl, hown4', World.grownBy.refl _ _, hB10⟩
  case round =>
    obtain ⟨k, xs, hk, rfl, howna, hg, hb⟩ := hrel
    by_cases hlt : k < n + 1
    · have hkI : (k : Int) < (n : Int) + 1 := by omega
      obtain ⟨x0, hx0⟩ : ∃ x, wr.cell? ⟨g4, k * 2, none⟩ = some x := ⟨_, (howna.cellAt (k * 2) (by omega)).trans (List.getElem?_eq_getElem (by rw [howna.1]; omega))⟩
      obtain ⟨x1, hx1⟩ : ∃ x, wr.cell? ⟨g4, k * 2 + 1, none⟩ = some x := ⟨_, (howna.cellAt (k * 2 + 1) (by omega)).trans (List.getElem?_eq_getElem (by rw [howna.1]; omega))⟩
      have f0 := howna.frozenAt (k * 2)
      have f1 := howna.frozenAt (k * 2 + 1)
      go_wp2_with fail
      have s1 := howna.stored (k * 2) (.int .i64 (-1))
      have s2 := s1.1.stored (k * 2 + 1) (.int .i64 (-1))
      go_roundw
      case rel => exact ⟨k + 1, _, by omega, by go_num, s2.1, (hg.out.trans s1.2).trans s2.2, (hb.setCell (by show w.heap.size ≤ g4; omega) _).setCell (by show w.heap.size ≤ g4; omega) _⟩
      case measure => simp [intOf]; omega
    · have hkI : ¬ ((k : Int) < (n : Int) + 1) := by omega
      have hown2 := hown2'.kept hg.out (.inr fun e => by have := h2lt.out g4 e; omega)
      have hown3 := hown3'.kept hg.out (.inr fun e => by injection e with e; have e : g3 = g4 := e; omega)
      have hown5 := hown5'.kept hg.out (.inr fun e => by injection e with e; have e : g5 = g4 := e; omega)
      have hzw := hg.out.size
      obtain ⟨wo, hwo⟩ : ∃ wo : World, wo = wr := ⟨_, rfl⟩
      rw [← hwo] at howna hown2 hown3 hown5 hzw hb ⊢
      clear hwo hg hown2' hown3' hown4' hown5' wr
      go_wp2_with fail
      go_loopw [11, 12] (fun vg i wr => ∃ (k : Nat) (xs : List Value), k ≤ 17 ∧ i = .int .i64 k ∧ wr.ownsRow w3.heap.size 50 2 vg (n + 1 + k) xs ∧ Hid (vg.ownBlock = some g4 ∨ ∃ g, vg.ownBlock = some g ∧ w10.heap.size ≤ g) ∧
        wr.ownsRow w1.heap.size 21 1 (.slice A2 n c2) n (zs.map (Value.int .i32)) ∧ wr.ownsRow w2.heap.size 21 1 (.slice (some ⟨g3, 0, none⟩) (n + 40) c3) (n + 40) ((zs ++ marks).map (Value.int .i32)) ∧
        wr.ownsRow w4.heap.size 50 2 (.slice (some ⟨g5, 0, none⟩) (n + 1) c5) (n + 1) (pcells (places zs (n + 1))) ∧ Hid (w10.heap.size ≤ wr.heap.size) ∧ Below w.heap.size w wr) (fun _ i _ => 17 - (intOf i).toNat)
      case atStart => exact ⟨0, _, Nat.zero_le _, rfl, howna, .inl rfl, hown2, hown3, hown5, hzw, hb⟩
      case round =>
        clear howna hown2 hown3 hown5 hb hzw
        obtain ⟨k, xs, hk, rfl, howng, hgb, hown2, hown3, hown5, hzw, hb⟩ := hrel
        obtain ⟨Ag, cg, rfl, _, _⟩ := own_slice howng
        by_cases hlt : k < 17
        · have hkI : (k : Int) < 17 := by omega
          go_wp2_with (at_builtin; refine wpList_append_rd _ rfl _ _ 47 rfl w3.heap.size 50 i0 (.agg #[.int .i64 0, .int .i64 0]) 2 16 Tryd.underlying47 hi0 hz0 hz1 hz2 rfl (by decide) _ _ _ rfl (howng.alloc _) _ _ 1 1 _ rfl (by rfl) (rd_pos _ _ _ _ (Nat.lt_succ_self _)) (one_pos _ _) ?c3 ?c4 ?c5 ?_)
          case c3 => simp only [maxLen]; omega
          case c4 => omega
          case c5 => have := hzw.out; simp; omega
          intro v11 w11 hown11 hg11 hat11
          have hx : ∀ (v : Value), (∀ g, v.ownBlock = some g → g < w5.heap.size ∧ g ≠ g4) → v.ownBlock = none ∨ v.ownBlock ≠ (Value.slice Ag (n + 1 + k) cg).ownBlock := fun v hv => by
            by_cases h0 : v.ownBlock = none
            · exact .inl h0
            · refine .inr fun e => ?_
              obtain ⟨g, hg⟩ := Option.ne_none_iff_exists'.1 h0
              have h1 := hv g hg
              rcases hgb.out with h2 | ⟨g', h2, h3⟩
              · rw [hg, h2] at e
                injection e with e
                exact h1.2 e
              · rw [hg, h2] at e
                injection e with e
                omega
          have hown2 := (hown2.alloc (.cells #[.int .i64 (-2), .int .i64 (-2)] 50)).kept hg11 (hx _ fun g h => by have := h2lt.out g h; omega)
          have hown3 := (hown3.alloc (.cells #[.int .i64 (-2), .int .i64 (-2)] 50)).kept hg11 (hx _ fun g h => by injection h with h; have h : g3 = g := h; omega)
          have hown5 := (hown5.alloc (.cells #[.int .i64 (-2), .int .i64 (-2)] 50)).kept hg11 (hx _ fun g h => by injection h with h; have h : g5 = g := h; omega)
          have hbs := hb.size
          have hgb' : Hid (v11.ownBlock = some g4 ∨ ∃ g, v11.ownBlock = some g ∧ w10.heap.size ≤ g) := by
            rcases hat11 with h | h
            · rw [h]; exact hgb.out
            · exact .inr ⟨_, h, by have := hzw.out; simp; omega⟩
          have hzw' : Hid (w10.heap.size ≤ w11.heap.size) := by have h1 := hzw.out; have h2 := hg11.size; simp at h2; show _ ≤ _; omega
          have hb11 := below_append (hb.alloc hbs _) (howng.alloc _) (by omega) hg11 (Nat.le_trans hbs (by simp))
          go_wp2_with fail
          go_roundw
          case rel => exact ⟨k + 1, _, by omega, by go_num, hown11, hgb', hown2, hown3, hown5, hzw', hb11⟩
          case measure => simp [intOf]; omega
        · obtain rfl : k = 17 := by omega
          obtain ⟨wo', hwo⟩ : ∃ wo : World, wo = wr := ⟨_, rfl⟩
          rw [← hwo] at hown2 hown3 hown5 hzw hb ⊢
          clear hwo howng hgb wr
          go_wp2_with fail
          refine (spotted_any _ A2 n c5 c2 wo'.heap.size wo'.heap.size zs _ (Rd.of_own hown5) (Rd.of_own hown2) (Nat.le_refl _) (Nat.le_refl _) HL.out (by omega)).mono ?_
          rintro e w12 ⟨rfl, hb12⟩
          have hB12 := hb.trans (hb12.mono hb.size)
          have hown2 := own_below hown2 hb12
          have hown3 := own_below hown3 hb12
          have h18 : ((n + 1 + 17 : Nat) : Int) = (n : Int) + 18 := by omega
          clear hown5 hb hb12
          go_wp2_with fail
          go_loopw [13] (fun i wr => ∃ k : Nat, k ≤ n ∧ i = .int .i64 k ∧ wr.ownsRow w1.heap.size 21 1 (.slice A2 n c2) n ((over k oth zs).map (Value.int .i32)) ∧
            wr.ownsRow w2.heap.size 21 1 (.slice (some ⟨g3, 0, none⟩) (n + 40) c3) (n + 40) ((over k oth (zs ++ marks)).map (Value.int .i32)) ∧ Below w.heap.size w wr) (fun i _ => n - (intOf i).toNat)
          case atStart => exact ⟨0, Nat.zero_le _, rfl, by rw [over_zero]; exact hown2, by rw [over_zero]; exact hown3, hB12⟩
          case round =>
            clear hown2 hown3 hB12
            obtain ⟨k, hk, rfl, hown2, hown3, hb⟩ := hrel
            by_cases hlt : k < n
            · have hkI : (k : Int) < (n : Int) := by omega
              obtain ⟨g2, rfl, _, _, _⟩ := own_form hown2 (by omega)
              obtain ⟨h21, h22⟩ := h2lt.out g2 rfl
              obtain ⟨z2, _, hc2⟩ := own_has .i32 hown2 hlt
              have hf2 := hown2.frozenAt k
              have hown3s := own_set (i := k) hown3 (g := g2) (by intro e; injection e with e; have e : g3 = g2 := e; omega) (.int .i32 oth)
              obtain ⟨z3, _, hc3'⟩ := own_has (k := k) .i32 hown3s (by omega)
              have hf3 := hown3s.frozenAt k
              have hown2s := own_set (i := k) (own_store (k := k) .i32 oth hown2) (g := g3) (by intro e; injection e with e; have e : g2 = g3 := e; omega) (.int .i32 oth)
              have hown3t := own_store (k := k) .i32 oth hown3s
              rw [over_set (by rw [HL.out]; exact hlt)] at hown2s
              rw [over_set (by rw [List.length_append, HL.out]; omega)] at hown3t
              have hkI2 : (k : Int) < (n : Int) + 40 := by omega
              go_wp2_with fail
              go_roundw
              case rel => exact ⟨k + 1, by omega, by go_num, hown2s, hown3t, (hb.setCell (by show w.heap.size ≤ g2; omega) _).setCell (by show w.heap.size ≤ g3; omega) _⟩
              case measure => simp [intOf]; omega
            · obtain rfl : k = n := by omega
              rw [over_app (by rw [HL.out]; exact Nat.le_refl _), over_all HL.out] at hown3
              rw [over_all HL.out] at hown2
              obtain ⟨ys, hys⟩ : ∃ ys, List.replicate k oth = ys := ⟨_, rfl⟩
              have HY : Hid (ys.length = k) := by rw [← hys]; exact List.length_replicate
              rw [hys] at hown2 hown3
              clear hys
              obtain ⟨wo2, hwo⟩ : ∃ wo : World, wo = wr := ⟨_, rfl⟩
              rw [← hwo] at hown2 hown3 hb ⊢
              clear hwo wr
              go_wp2_with fail
              refine (Places_any _ k c3 wo2.heap.size ys _ (take_front (Rd.of_own hown3) HY.out) (Nat.le_refl _) HY.out (by omega)).mono ?_
              rintro e w13 ⟨v13, rfl, hown13, hb13⟩
              obtain ⟨A13, c13, rfl, _, _⟩ := own_slice hown13
              have hB13 := hb.trans (hb13.mono hb.size)
              have hown2 := own_below hown2 hb13
              have hown3 := own_below hown3 hb13
              go_wp2_with fail
              refine (spotted_any _ A2 k c13 c2 w13.heap.size w13.heap.size ys _ (Rd.of_own hown13) (Rd.of_own hown2) (Nat.le_refl _) (Nat.le_refl _) HY.out (by omega)).mono ?_
              rintro e w14 ⟨rfl, hb14⟩
              have hB14 := hB13.trans (hb14.mono hB13.size)
              have hown2 := own_below hown2 hb14
              have hown3 := own_below hown3 hb14
              go_wp2_with fail
              refine (untouched_any _ A2 k c3 c2 w14.heap.size w14.heap.size ys _ (Rd.of_own hown3) (Rd.of_own hown2) HY.out (by omega) (by omega)).mono ?_
              rintro e wx ⟨rfl, q, rfl⟩
              have hB15 := below_drewN' hB14 q
              have hown2' : (w14.drewN q).ownsRow w1.heap.size 21 1 (.slice A2 k c2) k (ys.map (Value.int .i32)) := hown2
              have hown3' : (w14.drewN q).ownsRow w2.heap.size 21 1 (.slice (some ⟨g3, 0, none⟩) (k + 40) c3) (k + 40) ((ys ++ marks).map (Value.int .i32)) := hown3
              generalize w14.drewN q = w15 at hB15 hown2' hown3' ⊢
              go_wp2_with fail
              refine (Place_any _ k c3 w15.heap.size (k : Int) ys _ (take_front (Rd.of_own hown3') HY.out) (Nat.le_refl _) HY.out (by omega)).mono ?_
              rintro e w16 ⟨rfl, hb16⟩
              have hB16 := hB15.trans (hb16.mono hB15.size)
              have hown2' := own_below hown2' hb16
              go_wp2_with fail
              refine (RefPlace_any A2 k c2 w16.heap.size (k : Int) ys _ (Rd.of_own hown2') (Nat.le_refl _) HY.out (by omega)).mono ?_
              rintro e w17 ⟨rfl, hb17⟩
              have hB17 := hB16.trans (hb17.mono hB16.size)
              rw [clamp_self]
              go_wp2_with fail
              go_ret
              exact ⟨rfl, hB17⟩

/-! the frame -/
theorem cells_rune : Tryd.prog.cellsOf 21 = 1 := by kernel_rfl
theorem cells_byte : Tryd.prog.cellsOf 5 = 1 := by kernel_rfl
theorem cells_int : Tryd.prog.cellsOf 3 = 1 := by kernel_rfl
theorem cells_runes : Tryd.prog.cellsOf 26 = 1 := by kernel_rfl
theorem cells_bytes : Tryd.prog.cellsOf 24 = 1 := by kernel_rfl

/-- what the walk gives, for every argument within the bound and every world that holds the tables -/
theorem contract (H : Type) (enc : TypeId × Value → H) (W : World) (base : Nat) (args : Array Value) (ds gs : List (DataW H)) (before : List MemPlace)
    (hval : ∀ (j : Nat) t v, Tryd.f13.params[j]? = some t → args[j]? = some v → Value.okWide Tryd.prog W .any base t v)
    (hW : DataW.Whole enc Tryd.prog Tryd.f13.params.toList Rows.utfSpotsSpec.vars false W args.toList ds gs before) (hk : Rows.uptoSmall H (ds ++ gs) = true) (hL : laidMetH Tryd.prog tabs.laid2 W) :
    Calls Tryd.prog 13 args W fun e W' => ∃ v, e = .returned v ∧ Rows.utfSpotsSpec.post enc Tryd.prog Tryd.f13 false true false false W args v W' := by
  have hT : Lib.Utf8Tabs 0 1 W := tabs.tabs_of hL
  have hW' := hW
  obtain ⟨p, q, hA0, hV, rfl, hfz, hnd⟩ := hW
  have hA : DataW.TrodAll enc Tryd.prog W 0 (fun _ => true) true Tryd.f13.params.toList args.toList ds p := hA0
  rw [Tryd.params13] at hA hval
  obtain ⟨v0, vs0, d0, ds0, p0, q0, hargs, rfl, rfl, h0, r0⟩ := trodAll_cons hA
  obtain ⟨v1, vs1, d1, ds1, p1, q1, rfl, rfl, rfl, h1, r1⟩ := trodAll_cons r0
  obtain ⟨rfl, rfl, rfl⟩ := trodAll_nil r1
  obtain rfl : args = #[v0, v1] := by cases args; simp_all
  obtain ⟨rfl, rfl⟩ := trodVars_none hV
  have hbulk := tabs.bound hk
  simp only [List.append_nil, Rows.uptoBulkAll] at hbulk
  clear hk
  have fin : ∀ (e : Ending) (W' : World), (e = .returned (.bool true) ∧ Below W.heap.size W W') → ∃ v, e = .returned v ∧ Rows.utfSpotsSpec.post enc Tryd.prog Tryd.f13 false true false false W #[v0, v1] v W' := fun e W' ⟨he, hb⟩ => by
    subst he
    refine ⟨_, rfl, law_post rfl rfl rfl rfl tabs.laidOut ?_ (by kernel_rfl) Tryd.underlying4 hW' hb⟩
    rw [Tryd.params13]
    intro t ht
    simp only [List.mem_cons, List.mem_nil_iff, or_false] at ht
    rcases ht with rfl | rfl
    all_goals exact ⟨by kernel_rfl, of_decide_eq_true (by kernel_rfl)⟩
  obtain ⟨A, n, c, zs, rfl, hl0, hn0, hm0, hr0, hw0, hd0⟩ := rd_ints Tryd.underlying26 Tryd.underlying21 cells_rune (hval 0 26 v0 rfl rfl) h0
  have hs0 : n ≤ 1048576 := by
    rcases hd0 with ⟨_, h⟩ | ⟨r, hd, _⟩
    · omega
    · have i1 := tabs.slice_le (lits (H := H) .i32 zs) (lits .i32 r)
      rw [hd] at hbulk
      have e1 : (lits (H := H) .i32 zs).length = zs.length := by simp [lits]
      have e2 : (lits (H := H) .i32 r).length = r.length := by simp [lits]
      omega
  obtain ⟨i, rfl⟩ := okWide_int Tryd.underlying21 (hval 1 21 v1 rfl rfl)
  exact (walk A n c i zs W hr0 hl0 hs0 hT).mono fin

theorem reads (os : Os) {H : Type} (enc : TypeId × Value → H) : ∃ places, DataW.whole enc Tryd.prog ((tabs.laidWorld os).forCall (fun _ _ => 0) ⟨#[], #[.slice none 0 0, .int .i32 0], []⟩).memory Tryd.f13.params.toList Rows.utfSpotsSpec.vars false (#[.slice none 0 0, .int .i32 0] : Array Value).toList 8 = some ([.nil, .lit (.int .i32 0)], [], places) :=
  ⟨[], by kernel_rfl⟩

set_option maxRecDepth 100000 in
theorem lifted (os : Os) (started : os.Started) (H : Type) (enc : TypeId × Value → H) (F : Stop.Interp) :
    ReturnsInHanded {} Tryd.checked os 13 .any ((Rows.OpenSpec.upto Rows.utfSpotsSpec).preRow enc Tryd.prog Tryd.f13 Rows.utfSpotsUptoRow.domain false Rows.utfSpotsUptoRow.laid) (((Rows.OpenSpec.upto Rows.utfSpotsSpec).at F).post enc Tryd.prog Tryd.f13 false true false false) := by
  obtain ⟨places, hx⟩ := reads os enc
  refine returnsInHanded_of_row (C := Tryd.checked) (s := Rows.OpenSpec.upto Rows.utfSpotsSpec) tabs.own started (by kernel_rfl) Tryd.func13
    (witness_row_at (enc := enc) (C := Tryd.checked) false (tabs.laidWorld os) #[.slice none 0 0, .int .i32 0] rfl (by kernel_rfl) (by kernel_rfl) (by kernel_rfl)
      (OpenSpec.preRow_of_cond 8 hx (by kernel_rfl) (fun k hk => by cases hk; kernel_rfl) (by kernel_rfl) (tabs.laid_met os _))) ?_
  intro W base args ds gs before hval hW _ hcond _ hL _ _
  exact contract H enc W base args ds gs before hval hW (hcond _ rfl) hL

theorem saidUpto : Rows.UtfSpotsUptoSaid :=
  OpenClaim.holds_of_cond 13 Tryd.f13 rfl rfl rfl rfl rfl rfl rfl ⟨rfl, rfl, rfl, rfl, rfl⟩ rfl rfl rfl rfl rfl (by kernel_rfl) Tryd.func13 (by kernel_rfl)
    (of_decide_eq_true (by kernel_rfl)) (by unfold Func.isWrapper; first | (rw [if_pos (by decide +kernel)]; kernel_rfl) | (rw [if_neg (by decide +kernel)]; exact ⟨rfl, rfl⟩))
    (fun os started H enc _ F => by rw [OpenClaim.pre_eq_preRow]; exact lifted os started H enc F)

theorem plain (f : FuncId) (fn : Func) (hf : Tryd.pinned.checked.prog.funcNamed Rows.utfSpotsUptoRow.func = some f) (hfn : Tryd.pinned.checked.prog.funcs[f]? = some fn) :
    false = Tryd.pinned.checked.prog.looks [] ∧ ∀ (j : Nat) t, fn.params[j]? = some t → Tryd.pinned.checked.prog.wantsStandIn t = false := by
  obtain rfl : f = 13 := Option.some.inj ((show Tryd.prog.funcNamed Rows.utfSpotsUptoRow.func = some 13 by kernel_rfl).symm.trans hf) |>.symm
  obtain rfl : fn = Tryd.f13 := (Option.some.inj (Tryd.func13.symm.trans hfn)).symm
  refine ⟨by kernel_rfl, fun j t ht => ?_⟩
  rw [Tryd.params13] at ht
  have hm := Array.mem_of_getElem? ht
  simp only [List.mem_toArray, List.mem_cons, List.mem_nil_iff, or_false] at hm
  rcases hm with rfl | rfl
  all_goals exact (show Tryd.prog.wantsStandIn _ = false by kernel_rfl)

/-- the statement: the second form's card -/
theorem card : Rows.UtfSpotsUptoCardSaid :=
  Claim7.holds_tied_plain_at .later [] _ _ _ _ saidUpto (fun _ h => by cases h) (by kernel_rfl) (fun _ h => by cases h) utfSpotsUpto_row_tie rfl ⟨rfl, rfl⟩ (by kernel_rfl) rfl plain (by kernel_rfl)
#print axioms card
end Go.Proofs.YtomkkagopjpfkaaDoor.utfSpots
