/-
  UtfGrid: for every list of characters the law returns true, and the argument reads behind the call as before; where the argument's values and letters are at most 1048576 in all.
-/
import Derived.Test.YtomkkagopjpfkaaDoorTabs
import Derived.Test.YtomkkagopjpfkaaDoorRefPlaces
import Derived.Test.YtomkkagopjpfkaaDoorAwake
import Derived.Test.YtomkkagopjpfkaaDoorGrid0
namespace Go.Proofs.YtomkkagopjpfkaaDoor.utfGrid
open Go.ChangeShapes Go.WideShapes Go.ChangeAt Go.RowKit
open Go.Proofs.YtomkkagopjpfkaaDoor.frame
open Go.Proofs.YtomkkagopjpfkaaDoor.words Go.Proofs.YtomkkagopjpfkaaDoor.enc Go.Proofs.YtomkkagopjpfkaaDoor.utf Go.Proofs.YtomkkagopjpfkaaDoor.dec Go.Proofs.YtomkkagopjpfkaaDoor.ref Go.Proofs.YtomkkagopjpfkaaDoor.ln Go.Proofs.YtomkkagopjpfkaaDoor.lines
set_option linter.unusedVariables false

/-- a list of lists that can be read -/
def RowsRd (w : World) (B : Nat) (A : Option Addr) (L : List (List Int)) : Prop :=
  ∀ (j : Nat) (l : List Int), L[j]? = some l → ∃ ad Aj cj, A = some ad ∧ ad.block < B ∧ w.cell? (ad.add j) = some (.slice Aj l.length cj) ∧ Rd w B Aj (l.map (Value.int .i32))
theorem rows_rd {w : World} {B n c : Nat} {A : Option Addr} {cs : List Value} {L : List (List Int)} (h : w.ownsRow B 26 1 (.slice A n c) n cs) (hr : RowsOwn w B cs L) : RowsRd w w.heap.size A L := by
  intro j l hl
  obtain ⟨v, hv, ho⟩ := hr.rows j l hl
  obtain ⟨Aj, cj, rfl, _, _⟩ := own_slice ho
  obtain ⟨hj, hvj⟩ := List.getElem?_eq_some_iff.1 hv
  obtain ⟨ad, e, hb, hc⟩ := (Rd.of_own h).at (k := j) hj
  exact ⟨ad, Aj, cj, e, hb, by rw [hc, hvj], Rd.of_own ho⟩
theorem rowsrd_below {w w' : World} {B C : Nat} {A : Option Addr} {L : List (List Int)} (h : RowsRd w B A L) (hb : Below C w w') (hC : B ≤ C) : RowsRd w' B A L := by
  intro j l hl
  obtain ⟨ad, Aj, cj, e, h1, h2, h3⟩ := h j l hl
  exact ⟨ad, Aj, cj, e, h1, (hb.cell (by rw [add_block]; omega)).trans h2, h3.below' hb hC⟩

set_option maxRecDepth 100000 in
set_option maxHeartbeats 4000000 in
theorem walk (A : Option Addr) (n c : Nat) (zs : List Int) (w : World) (hr : Rd w w.heap.size A (zs.map (Value.int .i32))) (hl : zs.length = n) (hn : n ≤ 1048576) (hT : Lib.Utf8Tabs 0 1 w) :
    Calls Tryd.prog 12 #[.slice A n c] w fun e w' => e = .returned (.bool true) ∧ Below w.heap.size w w' := by
  have HL := hide hl
  have HT := hide hT
  clear hl hT
  go_enter Tryd.func12, Tryd.ntmps12
  go_wp2_with fail
  refine (awake_any _ HT.out).mono ?_
  rintro e w1 ⟨rfl, hb1⟩
  go_wp2_with fail
  refine (copiedRunes_any A n c w.heap.size zs _ (hr.below hb1) hb1.size HL.out (by omega)).mono ?_
  rintro e w2 ⟨v2, rfl, hown2, hb2⟩
  obtain ⟨A2, c2, rfl, hn2, hm2⟩ := own_slice hown2
  have hB2 := hb1.trans (hb2.mono hb1.size)
  go_wp2_with fail
  refine (Places_any A2 n c2 w2.heap.size zs _ (Rd.of_own hown2) (Nat.le_refl _) HL.out (by omega)).mono ?_
  rintro e w3 ⟨v3, rfl, hown3, hb3⟩
  obtain ⟨A3, c3, rfl, hn3, hm3⟩ := own_slice hown3
  have hB3 := hB2.trans (hb3.mono hB2.size)
  go_wp2_with fail
  refine (copiedRunes_any A n c w.heap.size zs _ (hr.below hB3) hB3.size HL.out (by omega)).mono ?_
  rintro e w4 ⟨v4, rfl, hown4, hb4⟩
  obtain ⟨A4, c4, rfl, hn4, hm4⟩ := own_slice hown4
  have hB4 := hB3.trans (hb4.mono hB3.size)
  go_wp2_with fail
  refine (Lines_any A4 n c4 w4.heap.size zs _ (Rd.of_own hown4) (Nat.le_refl _) HL.out (by omega)).mono ?_
  rintro e w5 ⟨v5, cs5, rfl, hown5, hrows5, hb5⟩
  have hB5 := hB4.trans (hb5.mono hB4.size)
  obtain ⟨m, hm⟩ : ∃ m, (linesOf zs).length = m := ⟨_, rfl⟩
  have hmn : m ≤ n + 1 := by rw [← hm, lines_len, HL.out]; exact starts_len zs n
  have hm5 := hrows5.len
  rw [hm] at hm5
  rw [hm5] at hown5
  obtain ⟨A5, c5, rfl, hc51, hc52⟩ := own_slice hown5
  have rd5 := rows_rd hown5 hrows5
  have rd3 := (Rd.of_own hown3).below' (hb4.trans (hb5.mono hb4.size)) (Nat.le_refl _)
  have z35 := (hb4.trans (hb5.mono hb4.size)).size
  obtain ⟨ad3, rfl, h31, hl1, hl2⟩ := rd_place rd3 (k := n) (by omega)
  have hlast : (pl zs n).1 = m := by rw [← HL.out, grid_last]; exact hm
  rw [hlast] at hl1
  have HM := hide hm
  clear hm hm5 hown5 hrows5 hown2 hown3 hown4 hb1 hb2 hb3 hb4 hb5 hlast
  go_wp2_with fail
  go_loopw [5] (fun i wr => ∃ k : Nat, k ≤ n ∧ i = .int .i64 k ∧ Below w5.heap.size w5 wr) (fun i _ => n - (intOf i).toNat)
  case atStart => exact ⟨0, Nat.zero_le _, rfl, Below.refl _ _⟩
  case round =>
    obtain ⟨k, hk, rfl, hb⟩ := hrel
    by_cases hlt : k < n
    · have hkI : (k : Int) < (n : Int) := by omega
      have hBr := hB5.trans (hb.mono hB5.size)
      obtain ⟨ad', e3, g31, h32, h33⟩ := rd_place (rd3.below' hb z35) (k := k) (by omega)
      injection e3 with e3
      subst e3
      obtain ⟨l, hl0, hle, hln⟩ := grid (zs := zs) (k := k) (by rw [HL.out]; exact hlt)
      have hgl := grid_line (zs := zs) (k := k) (by rw [HL.out]; omega)
      rw [HM.out] at hgl
      have hple := pl_le zs k
      obtain ⟨j, hj⟩ : ∃ j, (pl zs k).1 = j + 1 := ⟨(pl zs k).1 - 1, by omega⟩
      obtain ⟨q, hq⟩ : ∃ q, (pl zs k).2 = q + 1 := ⟨(pl zs k).2 - 1, by omega⟩
      rw [hj] at h32 hl0 hgl
      rw [hq] at h33 hle hln hple
      rw [Nat.add_sub_cancel] at hl0
      have hll : l.length ≤ n := by rw [← HL.out]; exact line_le hl0
      obtain ⟨adl, Al, cl, rfl, hr1, hr2, hr3⟩ := (rowsrd_below rd5 hb (Nat.le_refl _)) j l hl0
      obtain ⟨ad, z, rfl, hz, had, hc⟩ := (hr.below hBr).i32 (k := k) (by rw [HL.out]; exact hlt)
      rw [ch_of hz] at hle hln
      obtain ⟨p, hp⟩ : ∃ p, l.length = p := ⟨_, rfl⟩
      rw [hp] at hle hln hr2 hll
      have HP := hide hp
      have h32' : wr.cell? (ad3.add (k * 2)) = some (.int .i64 ((j : Int) + 1)) := h32
      have h33' : wr.cell? ⟨(ad3.add (k * 2)).block, (ad3.add (k * 2)).off + 1, none⟩ = some (.int .i64 ((q : Int) + 1)) := h33
      have hx1 : ¬ ((j : Int) + 1 < 1) := by omega
      have hx2 : ¬ ((m : Int) < (j : Int) + 1) := by omega
      have hy1 : ¬ ((q : Int) + 1 < 1) := by omega
      have hjm : j < m := by omega
      clear h32 h33 hj hq hp hl0 hz hl1 hl2
      by_cases h13 : z = 13
      · have hpq : ¬ ((q : Int) + 1 ≤ (p : Int)) := by have := hle (.inl h13); omega
        subst h13
        clear hle hln
        go_wp2_with fail
        go_roundw
        case rel => exact ⟨k + 1, by omega, by go_num, hb⟩
        case measure => simp [intOf]; omega
      by_cases h10 : z = 10
      · have hpq : ¬ ((q : Int) + 1 ≤ (p : Int)) := by have := hle (.inr h10); omega
        subst h10
        clear hle hln
        go_wp2_with fail
        go_roundw
        case rel => exact ⟨k + 1, by omega, by go_num, hb⟩
        case measure => simp [intOf]; omega
      · obtain ⟨hq1, hq2⟩ := hln h13 h10
        have hpq : ¬ ((p : Int) < (q : Int) + 1) := by omega
        obtain ⟨adz, rfl, _, hcz⟩ := hr3.at (k := q) (by rw [List.length_map, HP.out]; omega)
        have hcz' : wr.cell? (adz.add q) = some (.int .i32 z) := by
          rw [hcz, List.getElem_map]
          obtain ⟨hq3, hq4⟩ := List.getElem?_eq_some_iff.1 (by simpa using hq2 : l[q]? = some z)
          rw [hq4]
        have b13 : ((z : Int) == 13) = false := by rw [beq_eq_false_iff_ne]; exact h13
        have b10 : ((z : Int) == 10) = false := by rw [beq_eq_false_iff_ne]; exact h10
        clear hcz hle hln hq2
        go_wp2_with fail
        have hq9 : ¬ ((p : Int) < (q : Int) + 1) := by omega
        have hq8 : ¬ (p < q + 1) := by omega
        have hq7 : ¬ (p ≤ q) := by omega
        have hq6 : q < p := by omega
        go_quiet (fail)
        go_wp2_with fail
        go_roundw
        case rel => exact ⟨k + 1, by omega, by go_num, below_drewN' hb _⟩
        case measure => simp [intOf]; omega
    · have hBr := hB5.trans (hb.mono hB5.size)
      go_wp2_with fail
      refine (copiedRunes_any A n c w.heap.size zs _ (hr.below hBr) hBr.size HL.out (by omega)).mono ?_
      rintro e w6 ⟨v6, rfl, hown6, hb6⟩
      obtain ⟨A6, c6, rfl, hn6, hm6⟩ := own_slice hown6
      have hB6 := hBr.trans (hb6.mono hBr.size)
      go_wp2_with fail
      refine (Place_any A6 n c6 w6.heap.size (-1) zs _ (Rd.of_own hown6) (Nat.le_refl _) HL.out (by omega)).mono ?_
      rintro e w7 ⟨rfl, hb7⟩
      have hB7 := hB6.trans (hb7.mono hB6.size)
      have hE6 := hb.trans (hb6.mono hb.size)
      have hE7 := hE6.trans (hb7.mono hE6.size)
      rw [show pl zs (clamp (-1) n) = (1, 1) from rfl]
      go_wp2_with fail
      have hblkA : Blk (w7.alloc (.cells #[.int .i64 1, .int .i64 1] 50)) w7.heap.size #[.int .i64 1, .int .i64 1] 50 := heap_alloc_new w7 _
      have hB7' := hB7.alloc hB7.size (.cells #[.int .i64 1, .int .i64 1] 50)
      have hE7' := hE7.alloc hE7.size (.cells #[.int .i64 1, .int .i64 1] 50)
      obtain ⟨g1, hg1⟩ : ∃ g, w7.heap.size = g := ⟨_, rfl⟩
      generalize w7.alloc (.cells #[.int .i64 1, .int .i64 1] 50) = w7' at hblkA hB7' hE7' ⊢
      rw [hg1] at hblkA ⊢
      refine (copiedRunes_any A n c w.heap.size zs _ (hr.below hB7') hB7'.size HL.out (by omega)).mono ?_
      rintro e w8 ⟨v8, rfl, hown8, hb8⟩
      obtain ⟨A8, c8, rfl, hn8, hm8⟩ := own_slice hown8
      have hB8 := hB7'.trans (hb8.mono hB7'.size)
      have hblkA8 := blk_below hblkA hb8
      go_wp2_with fail
      refine (Place_any A8 n c8 w8.heap.size ((n : Int) + 1) zs _ (Rd.of_own hown8) (Nat.le_refl _) HL.out (by omega)).mono ?_
      rintro e w9 ⟨rfl, hb9⟩
      have hB9 := hB8.trans (hb9.mono hB8.size)
      have hE8 := hE7'.trans (hb8.mono hE7'.size)
      have hE9 := hE8.trans (hb9.mono hE8.size)
      have hblkA9 := blk_below hblkA8 hb9
      rw [show clamp ((n : Int) + 1) n = n by unfold clamp; rw [if_neg (by omega)]; omega]
      clear hown6 hown8 hb6 hb7 hb8 hb9 hblkA hblkA8
      go_wp2_with fail
      have hblkB : Blk (w9.alloc (.cells #[.int .i64 (pl zs n).1, .int .i64 (pl zs n).2] 50)) w9.heap.size #[.int .i64 (pl zs n).1, .int .i64 (pl zs n).2] 50 := heap_alloc_new w9 _
      have hB9' := hB9.alloc hB9.size (.cells #[.int .i64 (pl zs n).1, .int .i64 (pl zs n).2] 50)
      have hblkA9' := blk_alloc hblkA9 (.cells #[.int .i64 (pl zs n).1, .int .i64 (pl zs n).2] 50)
      have hE9' := hE9.alloc hE9.size (.cells #[.int .i64 (pl zs n).1, .int .i64 (pl zs n).2] 50)
      obtain ⟨g2, hg2⟩ : ∃ g, w9.heap.size = g := ⟨_, rfl⟩
      generalize w9.alloc (.cells #[.int .i64 (pl zs n).1, .int .i64 (pl zs n).2] 50) = w9' at hblkA9' hblkB hB9' hE9' ⊢
      rw [hg2] at hblkB ⊢
      refine (copiedRunes_any A n c w.heap.size zs _ (hr.below hB9') hB9'.size HL.out (by omega)).mono ?_
      rintro e w10 ⟨v10, rfl, hown10, hb10⟩
      obtain ⟨A10, c10, rfl, hn10, hm10⟩ := own_slice hown10
      have hB10 := hB9'.trans (hb10.mono hB9'.size)
      have hblkA10 := blk_below hblkA9' hb10
      have hblkB10 := blk_below hblkB hb10
      go_wp2_with fail
      refine (Place_any A10 n c10 w10.heap.size ((n : Int) / 2) zs _ (Rd.of_own hown10) (Nat.le_refl _) HL.out (by omega)).mono ?_
      rintro e w11 ⟨rfl, hb11⟩
      have hB11 := hB10.trans (hb11.mono hB10.size)
      have hblkA11 := blk_below hblkA10 hb11
      have hblkB11 := blk_below hblkB10 hb11
      rw [show clamp ((n : Int) / 2) n = n / 2 by unfold clamp; rw [if_neg (by omega)]; omega]
      have hE10 := hE9'.trans (hb10.mono hE9'.size)
      have hE11 := hE10.trans (hb11.mono hE10.size)
      obtain ⟨x, hx⟩ : ∃ x, n / 2 = x := ⟨_, rfl⟩
      have hxn : x ≤ n := by omega
      rw [hx]
      have hxi : ((n : Int) / 2) = (x : Int) := by omega
      obtain ⟨wz, hwz⟩ : ∃ wz, w11.alloc (.cells #[.int .i64 (pl zs x).1, .int .i64 (pl zs x).2] 50) = wz := ⟨_, rfl⟩
      have hblkC : Blk wz w11.heap.size #[.int .i64 (pl zs x).1, .int .i64 (pl zs x).2] 50 := by rw [← hwz]; exact heap_alloc_new w11 _
      have hblkAz : Blk wz g1 #[.int .i64 1, .int .i64 1] 50 := by rw [← hwz]; exact blk_alloc hblkA11 _
      have hblkBz : Blk wz g2 #[.int .i64 (pl zs n).1, .int .i64 (pl zs n).2] 50 := by rw [← hwz]; exact blk_alloc hblkB11 _
      have hEz : Below w5.heap.size w5 wz := by rw [← hwz]; exact hE11.alloc hE11.size _
      have hBz : Below w.heap.size w wz := by rw [← hwz]; exact hB11.alloc hB11.size _
      clear hown10 hb10 hb11 hblkA9' hblkB hblkA10 hblkB10 hblkA9 hblkA11 hblkB11 hE6 hE7 hE7' hE8 hE9 hE9' hE10 hE11 hB6 hB7 hB7' hB8 hB9 hB9' hB10 hB11
      have rdz := rd3.below' hEz z35
      obtain ⟨a0, ea, _, p01, p02⟩ := rd_place rdz (k := 0) (by omega)
      injection ea with ea
      subst ea
      obtain ⟨a0, ea, _, p11, p12⟩ := rd_place rdz (k := n) (by omega)
      injection ea with ea
      subst ea
      obtain ⟨a0, ea, _, p21, p22⟩ := rd_place rdz (k := x) (by omega)
      injection ea with ea
      subst ea
      rw [add_zero] at p01 p02
      have p01' : wz.cell? ad3 = some (.int .i64 1) := p01
      have p02' : wz.cell? ⟨ad3.block, ad3.off + 1, none⟩ = some (.int .i64 1) := p02
      have hA0 : wz.cell? ⟨g1, 0, none⟩ = some (.int .i64 1) := blk_cell hblkAz 0
      have hA1 : wz.cell? ⟨g1, 1, none⟩ = some (.int .i64 1) := blk_cell hblkAz 1
      have hB0 : wz.cell? ⟨g2, 0, none⟩ = some (.int .i64 (pl zs n).1) := blk_cell hblkBz 0
      have hB1 : wz.cell? ⟨g2, 1, none⟩ = some (.int .i64 (pl zs n).2) := blk_cell hblkBz 1
      have hC0 : wz.cell? ⟨w11.heap.size, 0, none⟩ = some (.int .i64 (pl zs x).1) := blk_cell hblkC 0
      have hC1 : wz.cell? ⟨w11.heap.size, 1, none⟩ = some (.int .i64 (pl zs x).2) := blk_cell hblkC 1
      clear p01 p02 hblkAz hblkBz hblkC
      go_wp2_with fail
      go_quiet (fail)
      go_wp2_with fail
      go_ret
      exact ⟨rfl, below_drewN' hBz _⟩

/-! the frame -/
theorem cells_rune : Tryd.prog.cellsOf 21 = 1 := by kernel_rfl
theorem cells_byte : Tryd.prog.cellsOf 5 = 1 := by kernel_rfl
theorem cells_int : Tryd.prog.cellsOf 3 = 1 := by kernel_rfl
theorem cells_runes : Tryd.prog.cellsOf 26 = 1 := by kernel_rfl
theorem cells_bytes : Tryd.prog.cellsOf 24 = 1 := by kernel_rfl

/-- what the walk gives, for every argument within the bound and every world that holds the tables -/
theorem contract (H : Type) (enc : TypeId × Value → H) (W : World) (base : Nat) (args : Array Value) (ds gs : List (DataW H)) (before : List MemPlace)
    (hval : ∀ (j : Nat) t v, Tryd.f12.params[j]? = some t → args[j]? = some v → Value.okWide Tryd.prog W .any base t v)
    (hW : DataW.Whole enc Tryd.prog Tryd.f12.params.toList Rows.utfGridSpec.vars false W args.toList ds gs before) (hk : Rows.uptoSmall H (ds ++ gs) = true) (hL : laidMetH Tryd.prog tabs.laid2 W) :
    Calls Tryd.prog 12 args W fun e W' => ∃ v, e = .returned v ∧ Rows.utfGridSpec.post enc Tryd.prog Tryd.f12 false true false false W args v W' := by
  have hT : Lib.Utf8Tabs 0 1 W := tabs.tabs_of hL
  have hW' := hW
  obtain ⟨p, q, hA0, hV, rfl, hfz, hnd⟩ := hW
  have hA : DataW.TrodAll enc Tryd.prog W 0 (fun _ => true) true Tryd.f12.params.toList args.toList ds p := hA0
  rw [Tryd.params12] at hA hval
  obtain ⟨v0, vs0, d0, ds0, p0, q0, hargs, rfl, rfl, h0, r0⟩ := trodAll_cons hA
  obtain ⟨rfl, rfl, rfl⟩ := trodAll_nil r0
  obtain rfl : args = #[v0] := by cases args; simp_all
  obtain ⟨rfl, rfl⟩ := trodVars_none hV
  have hbulk := tabs.bound hk
  simp only [List.append_nil, Rows.uptoBulkAll] at hbulk
  clear hk
  have fin : ∀ (e : Ending) (W' : World), (e = .returned (.bool true) ∧ Below W.heap.size W W') → ∃ v, e = .returned v ∧ Rows.utfGridSpec.post enc Tryd.prog Tryd.f12 false true false false W #[v0] v W' := fun e W' ⟨he, hb⟩ => by
    subst he
    refine ⟨_, rfl, law_post rfl rfl rfl rfl tabs.laidOut ?_ (by kernel_rfl) Tryd.underlying4 hW' hb⟩
    rw [Tryd.params12]
    intro t ht
    simp only [List.mem_cons, List.mem_nil_iff, or_false] at ht
    subst ht
    exact ⟨by kernel_rfl, of_decide_eq_true (by kernel_rfl)⟩
  obtain ⟨A, n, c, zs, rfl, hl0, hn0, hm0, hr0, hw0, hd0⟩ := rd_ints Tryd.underlying26 Tryd.underlying21 cells_rune (hval 0 26 v0 rfl rfl) h0
  have hs0 : n ≤ 1048576 := by
    rcases hd0 with ⟨_, h⟩ | ⟨r, hd, _⟩
    · omega
    · have i1 := tabs.slice_le (lits (H := H) .i32 zs) (lits .i32 r)
      rw [hd] at hbulk
      have e1 : (lits (H := H) .i32 zs).length = zs.length := by simp [lits]
      have e2 : (lits (H := H) .i32 r).length = r.length := by simp [lits]
      omega
  exact (walk A n c zs W hr0 hl0 hs0 hT).mono fin

theorem reads (os : Os) {H : Type} (enc : TypeId × Value → H) : ∃ places, DataW.whole enc Tryd.prog ((tabs.laidWorld os).forCall (fun _ _ => 0) ⟨#[], #[.slice none 0 0], []⟩).memory Tryd.f12.params.toList Rows.utfGridSpec.vars false (#[.slice none 0 0] : Array Value).toList 8 = some ([.nil], [], places) :=
  ⟨[], by kernel_rfl⟩

set_option maxRecDepth 100000 in
theorem lifted (os : Os) (started : os.Started) (H : Type) (enc : TypeId × Value → H) (F : Stop.Interp) :
    ReturnsInHanded {} Tryd.checked os 12 .any ((Rows.OpenSpec.upto Rows.utfGridSpec).preRow enc Tryd.prog Tryd.f12 Rows.utfGridUptoRow.domain false Rows.utfGridUptoRow.laid) (((Rows.OpenSpec.upto Rows.utfGridSpec).at F).post enc Tryd.prog Tryd.f12 false true false false) := by
  obtain ⟨places, hx⟩ := reads os enc
  refine returnsInHanded_of_row (C := Tryd.checked) (s := Rows.OpenSpec.upto Rows.utfGridSpec) tabs.own started (by kernel_rfl) Tryd.func12
    (witness_row_at (enc := enc) (C := Tryd.checked) false (tabs.laidWorld os) #[.slice none 0 0] rfl (by kernel_rfl) (by kernel_rfl) (by kernel_rfl)
      (OpenSpec.preRow_of_cond 8 hx (by kernel_rfl) (fun k hk => by cases hk; kernel_rfl) (by kernel_rfl) (tabs.laid_met os _))) ?_
  intro W base args ds gs before hval hW _ hcond _ hL _ _
  exact contract H enc W base args ds gs before hval hW (hcond _ rfl) hL

theorem saidUpto : Rows.UtfGridUptoSaid :=
  OpenClaim.holds_of_cond 12 Tryd.f12 rfl rfl rfl rfl rfl rfl rfl ⟨rfl, rfl, rfl, rfl, rfl⟩ rfl rfl rfl rfl rfl (by kernel_rfl) Tryd.func12 (by kernel_rfl)
    (of_decide_eq_true (by kernel_rfl)) (by unfold Func.isWrapper; first | (rw [if_pos (by decide +kernel)]; kernel_rfl) | (rw [if_neg (by decide +kernel)]; exact ⟨rfl, rfl⟩))
    (fun os started H enc _ F => by rw [OpenClaim.pre_eq_preRow]; exact lifted os started H enc F)

theorem plain (f : FuncId) (fn : Func) (hf : Tryd.pinned.checked.prog.funcNamed Rows.utfGridUptoRow.func = some f) (hfn : Tryd.pinned.checked.prog.funcs[f]? = some fn) :
    false = Tryd.pinned.checked.prog.looks [] ∧ ∀ (j : Nat) t, fn.params[j]? = some t → Tryd.pinned.checked.prog.wantsStandIn t = false := by
  obtain rfl : f = 12 := Option.some.inj ((show Tryd.prog.funcNamed Rows.utfGridUptoRow.func = some 12 by kernel_rfl).symm.trans hf) |>.symm
  obtain rfl : fn = Tryd.f12 := (Option.some.inj (Tryd.func12.symm.trans hfn)).symm
  refine ⟨by kernel_rfl, fun j t ht => ?_⟩
  rw [Tryd.params12] at ht
  have hm := Array.mem_of_getElem? ht
  simp only [List.mem_toArray, List.mem_cons, List.mem_nil_iff, or_false] at hm
  subst hm
  exact (show Tryd.prog.wantsStandIn _ = false by kernel_rfl)

/-- the statement: the second form's card -/
theorem card : Rows.UtfGridUptoCardSaid :=
  Claim7.holds_tied_plain_at .later [] _ _ _ _ saidUpto (fun _ h => by cases h) (by kernel_rfl) (fun _ h => by cases h) utfGridUpto_row_tie rfl ⟨rfl, rfl⟩ (by kernel_rfl) rfl plain (by kernel_rfl)
#print axioms card
end Go.Proofs.YtomkkagopjpfkaaDoor.utfGrid
