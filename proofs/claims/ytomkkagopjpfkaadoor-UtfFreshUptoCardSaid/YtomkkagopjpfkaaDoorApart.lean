/-
  The walk of the law's helper apart: lists of characters in rows of the call's own, no two in one block, keep what is written to them.
-/
import Derived.Test.YtomkkagopjpfkaaDoorApart0
namespace Go.Proofs.YtomkkagopjpfkaaDoor.lines
open Go.RowKit
open Go.Proofs.YtomkkagopjpfkaaDoor.words Go.Proofs.YtomkkagopjpfkaaDoor.enc Go.Proofs.YtomkkagopjpfkaaDoor.dec Go.Proofs.YtomkkagopjpfkaaDoor.ref Go.Proofs.YtomkkagopjpfkaaDoor.ln
set_option linter.unusedVariables false

theorem own_cell {w : World} {B n c k : Nat} {e : TypeId} {ad : Addr} {cs : List Value} {v : Value} (h : w.ownsRow B e 1 (.slice (some ad) n c) n cs) (hv : cs[k]? = some v) : w.cell? (ad.add k) = some v := by
  obtain ⟨ad', e1, _, hc⟩ := Rd.of_own h (by rintro rfl; simp at hv)
  injection e1 with e1
  subst e1
  exact hc k v hv
theorem own_addr {w : World} {B n c k : Nat} {e : TypeId} {A : Option Addr} {cs : List Value} {v : Value} (h : w.ownsRow B e 1 (.slice A n c) n cs) (hv : cs[k]? = some v) : ∃ ad, A = some ad := by
  obtain ⟨ad', e1, _, hc⟩ := Rd.of_own h (by rintro rfl; simp at hv)
  exact ⟨ad', e1⟩
theorem rep_at {n k : Nat} {x : Int} (h : k < n) : (List.replicate n x)[k]? = some x := by simp [h]

set_option maxRecDepth 100000 in
set_option maxHeartbeats 8000000 in
theorem apart_any (A : Option Addr) (m c B : Nat) (cs : List Value) (L : List (List Int)) (w : World)
    (hown : w.ownsRow B 26 1 (.slice A m c) m cs) (hrows : RowsOwn w B cs L) (hB : B ≤ w.heap.size) (hm : m ≤ 8388608) (hlen : ∀ l ∈ L, l.length ≤ 4194304) :
    Calls Tryd.prog 32 #[.slice A m c] w fun e w' => e = .returned (.bool true) ∧ Below B w w' := by
  obtain ⟨i0, hi0, hz0, hz1, hz2⟩ := info_parts rune_info
  obtain ⟨i1, hi1, hz3, hz4, hz5⟩ := info_parts slice_info
  have hcl : cs.length = m := by have := hown.1; omega
  have hLl : L.length = m := by rw [← hrows.len]; exact hcl
  have HLT : Hid (∀ u ∈ cs, ∀ g, u.ownBlock = some g → g < w.heap.size) := fun u hu g hg => by
    obtain ⟨l, hl⟩ := rows_of_mem hrows hu
    exact (hl.lt g hg).2
  have HLS : Hid (∀ g, (Value.slice A m c).ownBlock = some g → g < w.heap.size) := fun g hg => (hown.lt g hg).2
  have HLN := hide hlen
  have HCL := hide hcl
  have HLL := hide hLl
  clear hlen hcl hLl
  go_enter Tryd.func32, Tryd.ntmps32
  go_wp2_with fail
  go_loopw [4] (fun i wr => ∃ (k : Nat) (R : List (List Int)), k ≤ m ∧ i = .int .i64 k ∧ wr.ownsRow B 26 1 (.slice A m c) m cs ∧ RowsOwn wr B cs R ∧ Hid (Marked k L R) ∧ Below B w wr) (fun i _ => m - (intOf i).toNat)
  case atStart => exact ⟨0, L, Nat.zero_le _, rfl, hown, hrows, marked_zero L, Below.refl _ _⟩
  case round =>
    obtain ⟨k, R, hk, rfl, hownr, hrr, hmk, hb⟩ := hrel
    by_cases hlt : k < m
    · have hkI : (k : Int) < (m : Int) := by omega
      obtain ⟨l, hl⟩ : ∃ l, L[k]? = some l := ⟨_, List.getElem?_eq_getElem (by rw [HLL.out]; exact hlt)⟩
      obtain ⟨r0, hr0, hr1, _⟩ := hmk.out.rows k l hl
      obtain ⟨v, hv, hov⟩ := hrr.rows k r0 hr0
      obtain ⟨Ak, ck, rfl, hck, hcm⟩ := own_slice hov
      have hll := HLN.out l (List.mem_of_getElem? hl)
      obtain ⟨n, hn⟩ : ∃ n, l.length = n := ⟨_, rfl⟩
      rw [hr1, hn] at hv hck hov
      rw [hn] at hll
      obtain ⟨ad, rfl⟩ := own_addr hownr hv
      have hc0 := own_cell hownr hv
      have HL := hide hl
      have HN := hide hn
      have HR0 := hide (show R[k]? = some r0 ∧ r0.length = n from ⟨hr0, by rw [hr1, hn]⟩)
      have HV := hide hv
      have hwr : IntKind.i32.wrap (-1000 - (k : Int)) = -1000 - (k : Int) := by simp [IntKind.wrap, IntKind.bits, IntKind.signed]; omega
      clear hl hr0 hr1 hn hv
      go_wp2_with fail
      obtain ⟨wo, hwo⟩ : ∃ wo : World, wo = wr := ⟨_, rfl⟩
      rw [← hwo] at hownr hrr hb hov hc0 ⊢
      clear hwo wr
      go_loopw [5] (fun q wr => ∃ (t : Nat) (R' : List (List Int)) (r : List Int), t ≤ n ∧ q = .int .i64 t ∧ wr.ownsRow B 26 1 (.slice (some ad) m c) m cs ∧ RowsOwn wr B cs R' ∧ Hid (Marked k L R' ∧ R'[k]? = some r ∧ r.length = n ∧ r.take t = List.replicate t (mk1 k)) ∧ Below B w wr) (fun q _ => n - (intOf q).toNat)
      case atStart => exact ⟨0, R, r0, Nat.zero_le _, rfl, hownr, hrr, ⟨hmk.out, HR0.out.1, HR0.out.2, rfl⟩, hb⟩
      case round =>
        obtain ⟨t, R', r, ht, rfl, hown', hrr', hx, hb'⟩ := hrel
        have hc1 := own_cell hown' HV.out
        by_cases hlt2 : t < n
        · have htI : (t : Int) < (n : Int) := by omega
          obtain ⟨v', hv', hov'⟩ := hrr'.rows k r hx.out.2.1
          rw [HV.out] at hv'
          injection hv' with hv'
          subst hv'
          rw [hx.out.2.2.1] at hov'
          obtain ⟨g, rfl, hg1, hg2, _⟩ := own_form hov' (by omega)
          obtain ⟨z, hz, hcz⟩ := own_has .i32 hov' hlt2
          have hfz := hov'.frozenAt t
          have hne := own_types hown' hov' (by decide)
          have HZ := hide hz
          clear hz
          go_wp2_with fail
          go_roundw
          case rel =>
            refine ⟨t + 1, R'.set k (r.set t (mk1 k)), r.set t (mk1 k), by omega, by go_num, ?_, rows_store (mk1 k) hrr' HV.out hx.out.2.1, ⟨marked_set hx.out.1 HL.out hx.out.2.1 (by simp), ?_, ?_, ?_⟩, hb'.setCell hg1 _⟩
            · refine own_set hown' ?_ _
              rcases hne with h0 | h0
              · rw [h0]; simp
              · exact fun e => h0 (by rw [e]; rfl)
            · exact List.getElem?_set_self (List.getElem?_eq_some_iff.1 hx.out.2.1).1
            · rw [List.length_set]; exact hx.out.2.2.1
            · rw [take_snoc (l := r.set t (mk1 k)) (k := t) (x := mk1 k) (List.getElem?_set_self (by rw [hx.out.2.2.1]; exact hlt2)), List.take_set, List.set_eq_of_length_le (by simp; omega), hx.out.2.2.2, List.replicate_succ']
          case measure => simp [intOf]; omega
        · obtain rfl : t = n := by omega
          have hx' := hx.out
          go_wp2_with fail
          go_roundw
          case rel =>
            refine ⟨k + 1, R', by omega, by go_num, hown', hrr', marked_succ hx'.1 HL.out ?_, hb'⟩
            have e1 := hx'.2.2.2
            rw [List.take_of_length_le (by rw [hx'.2.2.1]; exact Nat.le_refl _)] at e1
            rw [hx'.2.1, e1, HN.out]
          case measure => simp [intOf]; omega
    · obtain rfl : k = m := by omega
      have hR : Hid (∀ (j : Nat) (l : List Int), L[j]? = some l → R[j]? = some (List.replicate l.length (mk1 j))) := fun j l hl => by
        obtain ⟨r, h1, _, h3⟩ := hmk.out.rows j l hl
        rw [h1, h3 (by have := (List.getElem?_eq_some_iff.1 hl).1; rw [HLL.out] at this; exact this)]
      obtain ⟨w1, hw1⟩ : ∃ w1 : World, w1 = wr := ⟨_, rfl⟩
      rw [← hw1] at hownr hrr hb ⊢
      clear hw1 wr hmk
      go_wp2_with fail
      go_loopw [3, 6] (fun vg i wr => ∃ (q : Nat) (cur : List Value) (G : List (List Int)), q ≤ k ∧ i = .int .i64 q ∧ wr.ownsRow B 26 1 (.slice A k c) k cs ∧ wr.ownsRow w.heap.size 26 1 vg q (cur.take q) ∧ Hid (Grow w.heap.size B q 0 cs R wr cur G) ∧ Below B w wr) (fun _ i _ => k - (intOf i).toNat)
      case atStart => exact ⟨0, cs, R, Nat.zero_le _, rfl, hownr, World.ownsRow_nil _ _ _ _, grow_zero hrr, hb⟩
      case round =>
        clear hownr hrr hb
        obtain ⟨q, cur, G, hq, rfl, howna, howng, hgr, hb⟩ := hrel
        obtain ⟨Ag, cg, rfl, _, _⟩ := own_slice howng
        by_cases hlt : q < k
        · have hqI : (q : Int) < (k : Int) := by omega
          obtain ⟨l, hl⟩ : ∃ l, L[q]? = some l := ⟨_, List.getElem?_eq_getElem (by rw [HLL.out]; exact hlt)⟩
          have hRq := hR.out q l hl
          have hll := HLN.out l (List.mem_of_getElem? hl)
          obtain ⟨n, hn⟩ : ∃ n, l.length = n := ⟨_, rfl⟩
          rw [hn] at hRq hll
          obtain ⟨v, hv, hov⟩ := hgr.out.rows.rows q _ hRq
          have hcurq := (hgr.out.same q (.inr ⟨rfl, rfl⟩)).trans hv
          rw [List.length_replicate] at hov
          obtain ⟨Ak, ck, rfl, hck, hcm⟩ := own_slice hov
          obtain ⟨ad, rfl⟩ := own_addr howna hv
          have hc0 := own_cell howna hv
          have HRQ := hide hRq
          have HC := hide hcurq
          have hwr : IntKind.i32.wrap (-500000000 - (q : Int)) = -500000000 - (q : Int) := by simp [IntKind.wrap, IntKind.bits, IntKind.signed]; omega
          clear hl hn hRq hcurq hv
          go_wp2_with fail
          obtain ⟨wo, hwo⟩ : ∃ wo : World, wo = wr := ⟨_, rfl⟩
          rw [← hwo] at howna howng hgr hb hov hc0 ⊢
          clear hwo wr
          go_loopw [7, 8] (fun vg j wr => ∃ (t : Nat) (cur' : List Value) (G' : List (List Int)), t ≤ 17 ∧ j = .int .i64 t ∧ wr.ownsRow B 26 1 (.slice (some ad) k c) k cs ∧ wr.ownsRow w.heap.size 26 1 (.slice Ag q cg) q (cur'.take q) ∧ Hid (cur'[q]? = some vg) ∧ Hid (Grow w.heap.size B q t cs R wr cur' G') ∧ Below B w wr) (fun _ j _ => 17 - (intOf j).toNat)
          case atStart => exact ⟨0, cur, G, Nat.zero_le _, rfl, howna, howng, HC.out, hgr.out, hb⟩
          case round =>
            clear howna howng hgr hb hc0 hov
            obtain ⟨t, cur', G', ht, rfl, howna, howng, hcur, hgr, hb⟩ := hrel
            obtain ⟨v2, hv2, hov2⟩ := grow_row hgr.out HRQ.out
            have hcur' := hcur.out
            rw [hv2] at hcur'
            injection hcur' with hcur'
            subst hcur'
            have hct : cnt q t q = t := by unfold cnt; rw [if_neg (by omega), if_pos rfl]
            rw [hct, List.length_replicate] at hov2
            clear hct
            obtain ⟨A2, c2, rfl, _, _⟩ := own_slice hov2
            have HV2 := hide hv2
            clear hv2 hcur
            by_cases hlt2 : t < 17
            · have htI : (t : Int) < 17 := by omega
              go_wp2_with (at_builtin; refine wpList_append_keeps _ rfl _ _ 26 rfl B 21 i0 (.int .i32 0) 1 4 Tryd.underlying26 hi0 hz0 hz1 hz2 rfl (by decide) _ _ _ rfl (hov2.alloc _) _ 1 1 _ rfl ?c1 (cell_one_new _ _ _) (one_i32 [_]) ?c3 ?c4 ?c5 ?_)
              case c1 => rfl
              case c3 => simp only [maxLen]; omega
              case c4 => omega
              case c5 => exact Nat.le_trans hB (Nat.le_trans hb.size (by simp))
              intro v3 w3 hown3 hg3 hat3 hk3
              have hbs := hb.size
              have hb3 := below_append (hb.alloc (Nat.le_trans hB hbs) _) (hov2.alloc _) (Nat.le_refl _) hg3 (Nat.le_trans hB (Nat.le_trans hbs (by simp)))
              have hrow3 : w3.ownsRow B 21 1 v3 ((List.replicate n (mk1 q)).length + (t + 1)) ((List.replicate n (mk1 q) ++ List.replicate (t + 1) (mk2 q)).map (Value.int .i32)) := by
                simp only [List.map_append, List.map_replicate, List.replicate_succ', List.length_replicate]
                exact hown3
              have hgr3 := hide (grow_step (grow_alloc hgr.out _) HV2.out HRQ.out HLT.out (Nat.le_trans hbs (by simp)) hrow3 hg3 (hat3.imp id fun e => e.trans (by simp)) (fun B' u k' us h1 h2 => hk3 B' u k' us h1 (fun e => by simpa using h2 e)))
              have howna3 := (howna.alloc (.cells #[.int .i32 (-500000000 - (q : Int))] 21)).kept hg3 (own_types howna hov2 (by decide))
              have howng3 := (howng.alloc (.cells #[.int .i32 (-500000000 - (q : Int))] 21)).kept hg3 (own_types howng hov2 (by decide))
              have hset : Hid ((cur'.set q v3)[q]? = some v3) := List.getElem?_set_self (List.getElem?_eq_some_iff.1 HV2.out).1
              have htake : (cur'.set q v3).take q = cur'.take q := by rw [List.take_set, List.set_eq_of_length_le (by simp; omega)]
              go_wp2_with fail
              go_roundw
              case rel => exact ⟨t + 1, _, _, by omega, by go_num, howna3, by rw [htake]; exact howng3, hset, hgr3, hb3⟩
              case measure => simp [intOf]; omega
            · obtain rfl : t = 17 := by omega
              go_wp2_with (at_builtin; refine wpList_append_rd _ rfl _ _ 28 rfl w.heap.size 26 i1 (.slice none 0 0) 1 24 Tryd.underlying28 hi1 hz3 hz4 hz5 rfl (by decide) _ _ _ rfl (howng.alloc _) _ _ 1 1 _ rfl ?c1 (rd_slice _ _ _ (Nat.lt_succ_self _)) ?c2 ?c3 ?c4 ?c5 ?_)
              case c1 => rfl
              case c2 => intro u hu; simp at hu; subst hu; rfl
              case c3 => simp only [maxLen]; omega
              case c4 => omega
              case c5 => exact Nat.le_trans hb.size (by simp)
              intro v4 w4 hown4 hg4 hat4
              have hbs := hb.size
              have hb4 := below_append (hb.alloc (Nat.le_trans hB hbs) _) (howng.alloc _) hB hg4 (Nat.le_trans hB (Nat.le_trans hbs (by simp)))
              have hne : ∀ v ∈ cs, v.ownBlock = none ∨ v.ownBlock ≠ (Value.slice Ag q cg).ownBlock := fun v hv => by
                obtain ⟨y, hy⟩ := rows_of_mem hgr.out.rows hv
                exact own_types hy howng (by decide)
              have hne2 : ∀ v ∈ cur', v.ownBlock = none ∨ v.ownBlock ≠ (Value.slice Ag q cg).ownBlock := fun v hv => by
                obtain ⟨y, hy⟩ := rows_of_mem hgr.out.crows hv
                exact own_types hy howng (by decide)
              have hgr4 := hide (grow_next (grow_other (grow_alloc hgr.out _) hg4 hne hne2))
              have hls := HLS.out
              have howna4 := (howna.alloc (.cells #[.slice A2 (n + 17) c2] 26)).kept hg4 (.inr fun e => by
                obtain ⟨g, hg⟩ : ∃ g, (Value.slice (some ad) k c).ownBlock = some g := ⟨_, rfl⟩
                have e1 := hls g hg
                have e2 := (howng.lt g (e.symm.trans hg)).1
                omega)
              have hown4' : w4.ownsRow w.heap.size 26 1 v4 (q + 1) (cur'.take (q + 1)) := by
                rw [take_snoc HV2.out]
                exact hown4
              go_wp2_with fail
              go_roundw
              case rel => exact ⟨q + 1, cur', G', by omega, by go_num, howna4, hown4', hgr4, hb4⟩
              case measure => simp [intOf]; omega
        · obtain rfl : q = k := by omega
          have hcurl : cur.length = q := by rw [hgr.out.crows.len, hgr.out.len, ← hgr.out.rows.len]; exact HCL.out
          rw [List.take_of_length_le (by rw [hcurl]; exact Nat.le_refl _)] at howng
          obtain ⟨w2, hw2⟩ : ∃ w2 : World, w2 = wr := ⟨_, rfl⟩
          rw [← hw2] at howna howng hgr hb ⊢
          clear hw2 wr
          go_wp2_with fail
          go_loop [9] (fun i => ∃ k : Nat, k ≤ q ∧ i = .int .i64 k) (fun i => q - (intOf i).toNat)
          case atStart => exact ⟨0, Nat.zero_le _, rfl⟩
          case round =>
            obtain ⟨k, hk, rfl⟩ := hrel
            by_cases hlt : k < q
            · have hkI : (k : Int) < (q : Int) := by omega
              obtain ⟨l, hl⟩ : ∃ l, L[k]? = some l := ⟨_, List.getElem?_eq_getElem (by rw [HLL.out]; exact hlt)⟩
              have hRk := hR.out k l hl
              have hll := HLN.out l (List.mem_of_getElem? hl)
              obtain ⟨n, hn⟩ : ∃ n, l.length = n := ⟨_, rfl⟩
              rw [hn] at hRk hll
              obtain ⟨v, hv, hov⟩ := hgr.out.rows.rows k _ hRk
              obtain ⟨u, hu, hou⟩ := grow_row hgr.out hRk
              have hct : cnt q 0 k = 17 := by unfold cnt; rw [if_pos hlt]
              rw [hct, List.length_replicate] at hou
              rw [List.length_replicate] at hov
              obtain ⟨Ak, ck, rfl, _, _⟩ := own_slice hov
              obtain ⟨Au, cu, rfl, _, _⟩ := own_slice hou
              obtain ⟨ad, rfl⟩ := own_addr howna hv
              obtain ⟨ad2, rfl⟩ := own_addr howng hu
              have hc0 := own_cell howna hv
              have hc1 := own_cell howng hu
              have ro := Rd.of_own hov
              have ru := Rd.of_own hou
              have hwr : IntKind.i32.wrap (-500000000 - (k : Int)) = -500000000 - (k : Int) := by simp [IntKind.wrap, IntKind.bits, IntKind.signed]; omega
              have hwr1 : IntKind.i32.wrap (-1000 - (k : Int)) = -1000 - (k : Int) := by simp [IntKind.wrap, IntKind.bits, IntKind.signed]; omega
              clear hl hn hRk hv hu hct
              go_wp2_with fail
              go_loop [10] (fun i => ∃ t : Nat, t ≤ n + 17 ∧ i = .int .i64 t) (fun i => n + 17 - (intOf i).toNat)
              case atStart => exact ⟨0, Nat.zero_le _, rfl⟩
              case round =>
                obtain ⟨t, ht, rfl⟩ := hrel
                by_cases hlt2 : t < n
                · have htI : (t : Int) < (n : Int) := by omega
                  obtain ⟨a1, z1, rfl, e1, _, d1⟩ := ro.i32 (k := t) (by rw [List.length_replicate]; exact hlt2)
                  obtain ⟨a2, z2, rfl, e2, _, d2⟩ := ru.i32 (k := t) (by simp; omega)
                  rw [rep_at hlt2] at e1
                  rw [List.getElem?_append_left (by simpa using hlt2), rep_at hlt2] at e2
                  injection e1 with e1
                  injection e2 with e2
                  subst e1 e2
                  have d1' : w2.cell? (a1.add t) = some (.int .i32 (-1000 - (k : Int))) := d1
                  have d2' : w2.cell? (a2.add t) = some (.int .i32 (-1000 - (k : Int))) := d2
                  clear d1 d2
                  go_wp2_with fail
                  go_round
                  case rel => exact ⟨t + 1, by omega, by go_num⟩
                  case measure => simp [intOf]; omega
                · by_cases hlt3 : t < n + 17
                  · have htI : (t : Int) < (n : Int) + 17 := by omega
                    have htn : ¬ ((t : Int) < (n : Int)) := by omega
                    obtain ⟨a2, z2, rfl, e2, _, d2⟩ := ru.i32 (k := t) (by simp; omega)
                    rw [List.getElem?_append_right (by simp; omega), rep_at (by simp; omega)] at e2
                    injection e2 with e2
                    subst e2
                    have d2' : w2.cell? (a2.add t) = some (.int .i32 (-500000000 - (k : Int))) := d2
                    clear d2
                    go_wp2_with fail
                    go_round
                    case rel => exact ⟨t + 1, by omega, by go_num⟩
                    case measure => simp [intOf]; omega
                  · obtain rfl : t = n + 17 := by omega
                    go_wp2_with fail
                    go_round
                    case rel => exact ⟨k + 1, by omega, by go_num⟩
                    case measure => simp [intOf]; omega
            · obtain rfl : k = q := by omega
              go_wp2_with fail
              go_ret
              exact ⟨rfl, hb⟩
end Go.Proofs.YtomkkagopjpfkaaDoor.lines
