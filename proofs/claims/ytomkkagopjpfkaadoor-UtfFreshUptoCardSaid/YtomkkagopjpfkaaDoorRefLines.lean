/-
  The walks of the reference's Starts and Lines, each once.
-/
import Derived.Test.YtomkkagopjpfkaaDoorLines
namespace Go.Proofs.YtomkkagopjpfkaaDoor.lines
open Go.RowKit
open Go.Proofs.YtomkkagopjpfkaaDoor.words Go.Proofs.YtomkkagopjpfkaaDoor.enc Go.Proofs.YtomkkagopjpfkaaDoor.dec Go.Proofs.YtomkkagopjpfkaaDoor.ref Go.Proofs.YtomkkagopjpfkaaDoor.ln
set_option linter.unusedVariables false

theorem int_info : (Tryd.prog.info? 3).map (fun i => (i.zero, i.size, i.bytes)) = some (some (.int .i64 0), 1, 8) := by kernel_rfl

/-- a row that a literal made -/
theorem own_new {B : Nat} (w : World) (cs : List Value) (t : TypeId) (hB : B ≤ w.heap.size) (hm : cs.length ≤ maxLen) :
    (w.alloc (.cells cs.toArray t)).ownsRow B t 1 (.slice (some ⟨w.heap.size, 0, none⟩) cs.length cs.length) cs.length cs :=
  ⟨by simp, .inr ⟨w.heap.size, cs.length, cs.toArray, rfl, hB, heap_alloc_new w _, Nat.le_refl _, hm, by simp, by simp⟩⟩

def icells (l : List Nat) : List Value := l.map fun x : Nat => Value.int .i64 (x : Int)
theorem icells_len (l : List Nat) : (icells l).length = l.length := by simp [icells]
theorem icells_one (l : List Nat) : ∀ u ∈ icells l, u.oneCell' = true := by
  intro u hu; unfold icells at hu; rw [List.mem_map] at hu; obtain ⟨x, _, rfl⟩ := hu; rfl
theorem rd_nat {w : World} {B : Nat} {A : Option Addr} {l : List Nat} {k x : Nat} (h : Rd w B A (icells l)) (hx : l[k]? = some x) :
    ∃ ad, A = some ad ∧ ad.block < B ∧ w.cell? (ad.add k) = some (.int .i64 (x : Int)) := by
  obtain ⟨hk, rfl⟩ := List.getElem?_eq_some_iff.1 hx
  obtain ⟨ad, e, hb, hc⟩ := h.at (k := k) (by rw [icells_len]; exact hk)
  exact ⟨ad, e, hb, by rw [hc]; simp [icells]⟩
theorem one_i64 (x : Int) : ∀ u ∈ [Value.int .i64 x], u.oneCell' = true := by intro u hu; simp at hu; subst hu; rfl
theorem rd_int (w : World) (B : Nat) (x : Int) (hB : w.heap.size < B) : Rd (w.alloc (.cells #[.int .i64 x] 3)) B (some ⟨w.heap.size, 0, none⟩) [.int .i64 x] :=
  rd_new w [.int .i64 x] 3 hB


/-- the beginnings of the lines -/
theorem Starts_any (A : Option Addr) (n c B : Nat) (zs : List Int) (w : World) (hr : Rd w B A (zs.map (Value.int .i32))) (hB : B ≤ w.heap.size) (hl : zs.length = n) (hn : n ≤ 4194304) :
    Calls Tryd.prog 43 #[.slice A n c] w fun e w' => ∃ v, e = .returned v ∧ w'.ownsRow w.heap.size 3 1 v (starts zs n).length (icells (starts zs n)) ∧ Below w.heap.size w w' := by
  obtain ⟨i0, hi0, hz0, hz1, hz2⟩ := info_parts int_info
  have HL := hide hl
  clear hl
  have hnew := own_new w [.int .i64 0] 3 (Nat.le_refl _) (by simp [maxLen])
  go_enter Tryd.func43, Tryd.ntmps43
  go_wp2
  go_loopw [3, 4] (fun v i wr => ∃ k : Nat, k ≤ n ∧ i = .int .i64 k ∧ wr.ownsRow w.heap.size 3 1 v (starts zs k).length (icells (starts zs k)) ∧ Below w.heap.size w wr) (fun _ i _ => n - (intOf i).toNat)
  case atStart => exact ⟨0, Nat.zero_le _, rfl, hnew, (Below.refl _ _).alloc (Nat.le_refl _) _⟩
  case round =>
    obtain ⟨k, hk, rfl, hown, hb⟩ := hrel
    obtain ⟨Av, cv, rfl, _, _⟩ := own_slice hown
    clear hnew
    by_cases hlt : k < n
    · have hrr := hr.below' hb hB
      obtain ⟨ad, z, rfl, hz, had, hc⟩ := hrr.i32 (k := k) (by rw [HL.out]; exact hlt)
      have hsl := starts_len zs k
      have HC := hide (ch_of hz)
      clear hz
      by_cases h10 : z = 10
      · subst h10
        have HS := hide (starts_end (zs := zs) (k := k) (endAt_lf HC.out))
        go_wp2_with (at_builtin; refine wpList_append_rd _ rfl _ _ 41 rfl w.heap.size 3 i0 (.int .i64 0) 1 8 Tryd.underlying41 hi0 hz0 hz1 hz2 rfl (by decide) _ _ _ rfl (hown.alloc _) _ _ 1 1 _ rfl (by rfl) (rd_int _ _ _ (Nat.lt_succ_self _)) (one_i64 _) ?c3 ?c4 ?c5 ?_)
        case c3 => simp only [maxLen]; omega
        case c4 => omega
        case c5 => exact Nat.le_trans hb.size (by simp)
        intro v2 w2 hown2 hg2 hat2
        have hb2 := below_append (hb.alloc hb.size _) (hown.alloc _) (Nat.le_refl _) hg2 (Nat.le_trans hb.size (by simp))
        go_wp2_with fail
        go_roundw
        case rel =>
          refine ⟨k + 1, by omega, by go_num, ?_, hb2⟩
          rw [HS.out, List.length_append]
          have e : icells (starts zs k ++ [k + 1]) = icells (starts zs k) ++ [.int .i64 ((k : Int) + 1)] := by simp [icells]
          rw [e]
          exact hown2
        case measure => simp [intOf]; omega
      have b10 : ((z : Int) == 10) = false := by rw [beq_eq_false_iff_ne]; exact h10
      have n10 : ((z : Int) != 10) = true := by rw [bne, b10]; rfl
      by_cases h13 : z = 13
      · subst h13
        by_cases h3 : k + 1 < n
        · obtain ⟨ad', y, ea, hy, had', hc'⟩ := hrr.i32 (k := k + 1) (by rw [HL.out]; omega)
          injection ea with ea
          subst ea
          rw [add_succ] at hc'
          have HC' := hide (ch_of hy)
          clear hy
          by_cases h4 : y = 10
          · subst h4
            have HS := hide (starts_same (zs := zs) (k := k) (endAt_crlf HC.out (by rw [HL.out]; exact h3) HC'.out))
            go_wp2_with fail
            go_roundw
            case rel => exact ⟨k + 1, by omega, by go_num, by rw [HS.out]; exact hown, hb⟩
            case measure => simp [intOf]; omega
          · have y10 : ((y : Int) == 10) = false := by rw [beq_eq_false_iff_ne]; exact h4
            have HS := hide (starts_end (zs := zs) (k := k) (endAt_cr HC.out (by rw [HC'.out]; intro hh; exact h4 hh.2)))
            go_wp2_with (at_builtin; refine wpList_append_rd _ rfl _ _ 41 rfl w.heap.size 3 i0 (.int .i64 0) 1 8 Tryd.underlying41 hi0 hz0 hz1 hz2 rfl (by decide) _ _ _ rfl (hown.alloc _) _ _ 1 1 _ rfl (by rfl) (rd_int _ _ _ (Nat.lt_succ_self _)) (one_i64 _) ?c3 ?c4 ?c5 ?_)
            case c3 => simp only [maxLen]; omega
            case c4 => omega
            case c5 => exact Nat.le_trans hb.size (by simp)
            intro v2 w2 hown2 hg2 hat2
            have hb2 := below_append (hb.alloc hb.size _) (hown.alloc _) (Nat.le_refl _) hg2 (Nat.le_trans hb.size (by simp))
            go_wp2_with fail
            go_roundw
            case rel =>
              refine ⟨k + 1, by omega, by go_num, ?_, hb2⟩
              rw [HS.out, List.length_append]
              have e : icells (starts zs k ++ [k + 1]) = icells (starts zs k) ++ [.int .i64 ((k : Int) + 1)] := by simp [icells]
              rw [e]
              exact hown2
            case measure => simp [intOf]; omega
        · have hk3 : ¬ ((k : Int) + 1 < (n : Int)) := by omega
          have HS := hide (starts_end (zs := zs) (k := k) (endAt_cr HC.out (by rw [HL.out]; omega)))
          go_wp2_with (at_builtin; refine wpList_append_rd _ rfl _ _ 41 rfl w.heap.size 3 i0 (.int .i64 0) 1 8 Tryd.underlying41 hi0 hz0 hz1 hz2 rfl (by decide) _ _ _ rfl (hown.alloc _) _ _ 1 1 _ rfl (by rfl) (rd_int _ _ _ (Nat.lt_succ_self _)) (one_i64 _) ?c3 ?c4 ?c5 ?_)
          case c3 => simp only [maxLen]; omega
          case c4 => omega
          case c5 => exact Nat.le_trans hb.size (by simp)
          intro v2 w2 hown2 hg2 hat2
          have hb2 := below_append (hb.alloc hb.size _) (hown.alloc _) (Nat.le_refl _) hg2 (Nat.le_trans hb.size (by simp))
          go_wp2_with fail
          go_roundw
          case rel =>
            refine ⟨k + 1, by omega, by go_num, ?_, hb2⟩
            rw [HS.out, List.length_append]
            have e : icells (starts zs k ++ [k + 1]) = icells (starts zs k) ++ [.int .i64 ((k : Int) + 1)] := by simp [icells]
            rw [e]
            exact hown2
          case measure => simp [intOf]; omega
      · have b13 : ((z : Int) == 13) = false := by rw [beq_eq_false_iff_ne]; exact h13
        have n13 : ((z : Int) != 13) = true := by rw [bne, b13]; rfl
        have HS := hide (starts_same (zs := zs) (k := k) (endAt_other (by rw [HC.out]; exact h10) (by rw [HC.out]; exact h13)))
        go_wp2_with fail
        go_roundw
        case rel => exact ⟨k + 1, by omega, by go_num, by rw [HS.out]; exact hown, hb⟩
        case measure => simp [intOf]; omega
    · have hkn : k = n := by omega
      subst hkn
      go_wp2_with fail
      go_ret
      exact ⟨_, rfl, hown, hb⟩

theorem bytes_4 {i : TypeInfo} {n : Nat} (h : i.bytes = 4) (hn : n ≤ 4194304) : i.bytes * n ≤ 281474976710656 := by rw [h]; omega
theorem one_slice (A : Option Addr) (n c : Nat) : ∀ u ∈ [Value.slice A n c], u.oneCell' = true := by intro u hu; simp at hu; subst hu; rfl
theorem rows_fresh {w : World} {B : Nat} {cs : List Value} {L : List (List Int)} {v : Value} (h : RowsOwn w B cs L) (hv : ∀ g, v.ownBlock = some g → w.heap.size ≤ g) : ∀ u ∈ cs, u.ownBlock = none ∨ u.ownBlock ≠ v.ownBlock := by
  intro u hu
  obtain ⟨l, hl⟩ := rows_of_mem h hu
  by_cases h0 : u.ownBlock = none
  · exact .inl h0
  · refine .inr fun e => ?_
    obtain ⟨g, hg⟩ := Option.ne_none_iff_exists'.1 h0
    have h1 := (hl.lt g hg).2
    have h2 := hv g (by rw [← e]; exact hg)
    omega
theorem rows_more {w : World} {B B' : Nat} {cs : List Value} {L : List (List Int)} (h : RowsOwn w B cs L) (hB : B' ≤ B) : RowsOwn w B' cs L :=
  ⟨h.len, fun j l hl => let ⟨v, hv, ho⟩ := h.rows j l hl; ⟨v, hv, own_more ho hB⟩, h.apart⟩
theorem cut_cells (zs : List Int) (a b : Nat) : (cut zs a b).map (Value.int .i32) = ((zs.map (Value.int .i32)).take b).drop a := by simp [cut, List.map_drop, List.map_take]
theorem segEnd_cr {zs : List Int} {a e : Nat} (h1 : ch zs (e + 1) = 10) (h2 : a < e + 1) (h3 : ch zs e = 13) : segEnd zs a (e + 2) = e := by
  unfold segEnd; rw [if_pos ⟨h1, h2, h3⟩]; omega
theorem segEnd_a {zs : List Int} {a e : Nat} (h : ¬ (ch zs e = 10 ∧ a < e ∧ ch zs (e - 1) = 13)) : segEnd zs a (e + 1) = e := by
  unfold segEnd; rw [if_neg]; · omega
  · rintro ⟨h1, h2, h3⟩; exact h ⟨by simpa using h1, by omega, by rw [show e - 1 = e + 1 - 2 by omega]; exact h3⟩

set_option maxHeartbeats 2000000 in
/-- the reference's Lines -/
theorem RefLines_any (A : Option Addr) (n c B : Nat) (zs : List Int) (w : World) (hr : Rd w B A (zs.map (Value.int .i32))) (hB : B ≤ w.heap.size) (hl : zs.length = n) (hnc : n ≤ c) (hcm : c ≤ maxLen) (hn : n ≤ 4194304) :
    Calls Tryd.prog 16 #[.slice A n c] w (LinesPost zs w) := by
  obtain ⟨i0, hi0, hz0, hz1, hz2⟩ := info_parts rune_info
  obtain ⟨i1, hi1, hz3, hz4, hz5⟩ := info_parts slice_info
  unfold maxLen at hcm
  have HL := hide hl
  clear hl
  have hm1 := starts_pos zs n
  have hm2 := starts_len zs n
  go_enter Tryd.func16, Tryd.ntmps16
  go_wp2_with fail
  refine (Starts_any A n c B zs _ hr hB HL.out hn).mono ?_
  rintro e w1 ⟨vs, rfl, howns, hb1⟩
  obtain ⟨As, cS, rfl, _, _⟩ := own_slice howns
  obtain ⟨m, hm⟩ : ∃ m, (starts zs n).length = m := ⟨_, rfl⟩
  have hs := Rd.of_own howns
  rw [hm] at hm1 hm2 ⊢
  have HM := hide hm
  clear hm howns
  have hr1 := hr.below' hb1 hB
  have hB1 : B ≤ w1.heap.size := Nat.le_trans hB hb1.size
  clear hr
  go_wp2_with fail
  go_loopw [3, 5] (fun vo i wr => ∃ (j : Nat) (cs : List Value), j ≤ m ∧ i = .int .i64 j ∧ cs.length = j ∧ wr.ownsRow w1.heap.size 26 1 vo cs.length cs ∧ RowsOwn wr w1.heap.size cs ((linesOf zs).take j) ∧ Below w1.heap.size w1 wr) (fun _ i _ => m - (intOf i).toNat)
  case atStart => exact ⟨0, [], Nat.zero_le _, rfl, rfl, World.ownsRow_nil _ _ _ _, rows_nil _ _, Below.refl _ _⟩
  case round =>
    obtain ⟨j, cs, hj, rfl, hcsl, howno, hrows, hb⟩ := hrel
    obtain ⟨Ao, co, rfl, _, _⟩ := own_slice howno
    have HCL := hide hcsl
    rw [hcsl] at howno ⊢
    clear hcsl
    by_cases hlt : j < m
    · obtain ⟨a, ha⟩ : ∃ a, (starts zs n)[j]? = some a := ⟨(starts zs n)[j]'(by rw [HM.out]; exact hlt), List.getElem?_eq_getElem _⟩
      have han := starts_at_le zs n j a ha
      obtain ⟨ads, rfl, _, hca⟩ := rd_nat (hs.below' hb (Nat.le_refl _)) ha
      by_cases hlast : j + 1 < m
      · obtain ⟨b, hb0⟩ : ∃ b, (starts zs n)[j + 1]? = some b := ⟨(starts zs n)[j + 1]'(by rw [HM.out]; exact hlast), List.getElem?_eq_getElem _⟩
        have hab := starts_rise zs n j a b ha hb0
        have hbn := starts_at_le zs n (j + 1) b hb0
        obtain ⟨e, rfl⟩ : ∃ e, b = e + 1 := ⟨b - 1, by omega⟩
        have hfact := line_mid (zs := zs) (j := j) (a := a) (b := e + 1) (by rw [HL.out]; exact ha) (by rw [HL.out]; exact hb0)
        obtain ⟨ads', eas, _, hcb⟩ := rd_nat (hs.below' hb (Nat.le_refl _)) hb0
        injection eas with eas
        subst eas
        rw [add_succ] at hcb
        have hcb' : wr.cell? ⟨ads.block, ads.off + (j + 1), none⟩ = some (.int .i64 ((e : Int) + 1)) := hcb
        clear hcb hb0
        have hrw := hr1.below' hb hB1
        obtain ⟨ad, y, rfl, hy, had, hce⟩ := hrw.i32 (k := e) (by rw [HL.out]; omega)
        have hchy := ch_of hy
        have HY := hide hchy
        have HF := hide hfact
        clear hy hchy hfact
        by_cases h10 : y = 10
        · subst h10
          by_cases hae : a < e
          · obtain ⟨f, rfl⟩ : ∃ f, e = f + 1 := ⟨e - 1, by omega⟩
            have hcb2 : wr.cell? ⟨ads.block, ads.off + (j + 1), none⟩ = some (.int .i64 ((f : Int) + 1 + 1)) := hcb'
            rw [add_succ] at hce
            clear hcb'
            obtain ⟨ad', x, ea, hx, had', hcx⟩ := hrw.i32 (k := f) (by rw [HL.out]; omega)
            injection ea with ea
            subst ea
            have HX := hide (ch_of hx)
            clear hx
            by_cases h13 : x = 13
            · subst h13
              have hfact : (linesOf zs)[j]? = some (cut zs a f) := by rw [HF.out, segEnd_cr HY.out (by omega) HX.out]
              have hrr : Rd w1 B (some (ad.add a)) ((cut zs a f).map (Value.int .i32)) := by rw [cut_cells]; exact (hr1.take f).drop a
              clear HF
              have HLINE := hide hfact
              have hml : (cut zs a f).length = f - a := (cut_len (by rw [HL.out]; omega)).trans (by omega)
              have HML := hide hml
              clear hml
              go_wp2_with (at_make; refine wpList_make_own _ rfl _ _ 26 rfl w1.heap.size 21 i0 (.int .i32 0) 1 Tryd.underlying26 hi0 hz0 hz1 _ _ _ (f - a) rfl rfl (by omega) (bytes_4 hz2 (by omega)) (by simp only [maxLen]; omega) hb.size ?_)
              intro w2 hown2 hg2
              have hb2 : Below wr.heap.size wr w2 := (Below.refl _ _).grown hg2 (Nat.le_refl _) (fun k hk => by cases hk)
              have hbb2 := hb.trans (hb2.mono hb.size)
              have hcs2 := (hs.below' hbb2 (Nat.le_refl _))
              obtain ⟨ads2, eas2, _, hca2⟩ := rd_nat hcs2 ha
              injection eas2 with eas2
              subst eas2
              have hr2 := hrr.below' hbb2 hB1
              go_wp2_with (at_builtin; refine wpList_append_rd _ rfl _ _ 26 rfl w1.heap.size 21 i0 (.int .i32 0) 1 4 Tryd.underlying26 hi0 hz0 hz1 hz2 rfl (by decide) _ 0 [] rfl hown2 B _ _ _ _ rfl ?c1 hr2 (one_i32 _) ?c3 ?c4 hbb2.size ?_)
              case c1 => rw [List.length_map, HML.out, Nat.mul_one]
              case c3 => simp only [maxLen]; omega
              case c4 => omega
              intro v3 w3 hown3 hg3 hat3
              have hb3 : Below wr.heap.size wr w3 := hb2.grown hg3 hb2.size (fun k hk => by simp [Value.ownBlock] at hk; omega)
              have hfr : ∀ u ∈ cs, u.ownBlock = none ∨ u.ownBlock ≠ v3.ownBlock := rows_fresh hrows (fun g hg => by
                rcases hat3 with h | h
                · rw [h] at hg; simp [Value.ownBlock] at hg; omega
                · rw [h] at hg; injection hg with hg; have := hb2.size; omega)
              obtain ⟨A3, c3, rfl, _, _⟩ := own_slice hown3
              have hown3' : w3.ownsRow w1.heap.size 21 1 (.slice A3 (f - a) c3) (cut zs a f).length ((cut zs a f).map (Value.int .i32)) := by rw [HML.out]; exact hown3
              have hrows3 := rows_push (rows_below hrows hb3) hown3' hfr
              have howno3 := own_below howno hb3
              have hbb3 := hb.trans (hb3.mono hb.size)
              have hrows4 := rows_kept hrows3 (World.grownBy_alloc _ (.cells #[.slice A3 (f - a) c3] 26) none) (fun v _ => by cases v.ownBlock <;> simp)
              have HFR := hide hfr
              clear hfr hown3 hown3' hat3 hown2 hr2 hca2
              go_wp2_with (at_builtin; refine wpList_append_rd _ rfl _ _ 28 rfl w1.heap.size 26 i1 (.slice none 0 0) 1 24 Tryd.underlying28 hi1 hz3 hz4 hz5 rfl (by decide) _ _ _ rfl (howno3.alloc _) _ _ 1 1 _ rfl (by rfl) (rd_slice _ _ _ (Nat.lt_succ_self _)) (one_slice _ _ _) ?c5 ?c6 ?c7 ?_)
              case c5 => simp only [maxLen]; omega
              case c6 => omega
              case c7 => exact Nat.le_trans hbb3.size (by simp)
              intro v5 w5 hown5 hg5 hat5
              have hrows5 := rows_kept hrows4 hg5 (fun v hv => by
                obtain ⟨l, hl⟩ := rows_of_mem hrows4 hv
                exact own_types hl (howno3.alloc _) (by decide))
              have hb5 := below_append (hbb3.alloc hbb3.size _) (howno3.alloc _) (Nat.le_refl _) hg5 (Nat.le_trans hbb3.size (by simp))
              go_wp2_with fail
              go_roundw
              case rel =>
                refine ⟨j + 1, cs ++ [.slice A3 (f - a) c3], by omega, by go_num, by rw [List.length_append, HCL.out]; rfl, ?_, ?_, hb5⟩
                · rw [List.length_append, HCL.out]; exact hown5
                · rw [take_snoc HLINE.out]; exact hrows5
              case measure => simp [intOf]; omega
            · have x13 : ((x : Int) == 13) = false := by rw [beq_eq_false_iff_ne]; exact h13
              have hfact : (linesOf zs)[j]? = some (cut zs a (f + 1)) := by rw [HF.out, segEnd_a (by rw [Nat.add_sub_cancel, HX.out]; intro hh; exact h13 hh.2.2)]
              have hrr : Rd w1 B (some (ad.add a)) ((cut zs a (f + 1)).map (Value.int .i32)) := by rw [cut_cells]; exact (hr1.take (f + 1)).drop a
              clear HF h13
              have HLINE := hide hfact
              have hml : (cut zs a (f + 1)).length = (f + 1) - a := (cut_len (by rw [HL.out]; omega)).trans (by omega)
              have HML := hide hml
              clear hml
              go_wp2_with (at_make; refine wpList_make_own _ rfl _ _ 26 rfl w1.heap.size 21 i0 (.int .i32 0) 1 Tryd.underlying26 hi0 hz0 hz1 _ _ _ ((f + 1) - a) rfl rfl (by omega) (bytes_4 hz2 (by omega)) (by simp only [maxLen]; omega) hb.size ?_)
              intro w2 hown2 hg2
              have hb2 : Below wr.heap.size wr w2 := (Below.refl _ _).grown hg2 (Nat.le_refl _) (fun k hk => by cases hk)
              have hbb2 := hb.trans (hb2.mono hb.size)
              have hcs2 := (hs.below' hbb2 (Nat.le_refl _))
              obtain ⟨ads2, eas2, _, hca2⟩ := rd_nat hcs2 ha
              injection eas2 with eas2
              subst eas2
              have hr2 := hrr.below' hbb2 hB1
              go_wp2_with (at_builtin; refine wpList_append_rd _ rfl _ _ 26 rfl w1.heap.size 21 i0 (.int .i32 0) 1 4 Tryd.underlying26 hi0 hz0 hz1 hz2 rfl (by decide) _ 0 [] rfl hown2 B _ _ _ _ rfl ?c1 hr2 (one_i32 _) ?c3 ?c4 hbb2.size ?_)
              case c1 => rw [List.length_map, HML.out, Nat.mul_one]
              case c3 => simp only [maxLen]; omega
              case c4 => omega
              intro v3 w3 hown3 hg3 hat3
              have hb3 : Below wr.heap.size wr w3 := hb2.grown hg3 hb2.size (fun k hk => by simp [Value.ownBlock] at hk; omega)
              have hfr : ∀ u ∈ cs, u.ownBlock = none ∨ u.ownBlock ≠ v3.ownBlock := rows_fresh hrows (fun g hg => by
                rcases hat3 with h | h
                · rw [h] at hg; simp [Value.ownBlock] at hg; omega
                · rw [h] at hg; injection hg with hg; have := hb2.size; omega)
              obtain ⟨A3, c3, rfl, _, _⟩ := own_slice hown3
              have hown3' : w3.ownsRow w1.heap.size 21 1 (.slice A3 ((f + 1) - a) c3) (cut zs a (f + 1)).length ((cut zs a (f + 1)).map (Value.int .i32)) := by rw [HML.out]; exact hown3
              have hrows3 := rows_push (rows_below hrows hb3) hown3' hfr
              have howno3 := own_below howno hb3
              have hbb3 := hb.trans (hb3.mono hb.size)
              have hrows4 := rows_kept hrows3 (World.grownBy_alloc _ (.cells #[.slice A3 ((f + 1) - a) c3] 26) none) (fun v _ => by cases v.ownBlock <;> simp)
              have HFR := hide hfr
              clear hfr hown3 hown3' hat3 hown2 hr2 hca2
              go_wp2_with (at_builtin; refine wpList_append_rd _ rfl _ _ 28 rfl w1.heap.size 26 i1 (.slice none 0 0) 1 24 Tryd.underlying28 hi1 hz3 hz4 hz5 rfl (by decide) _ _ _ rfl (howno3.alloc _) _ _ 1 1 _ rfl (by rfl) (rd_slice _ _ _ (Nat.lt_succ_self _)) (one_slice _ _ _) ?c5 ?c6 ?c7 ?_)
              case c5 => simp only [maxLen]; omega
              case c6 => omega
              case c7 => exact Nat.le_trans hbb3.size (by simp)
              intro v5 w5 hown5 hg5 hat5
              have hrows5 := rows_kept hrows4 hg5 (fun v hv => by
                obtain ⟨l, hl⟩ := rows_of_mem hrows4 hv
                exact own_types hl (howno3.alloc _) (by decide))
              have hb5 := below_append (hbb3.alloc hbb3.size _) (howno3.alloc _) (Nat.le_refl _) hg5 (Nat.le_trans hbb3.size (by simp))
              go_wp2_with fail
              go_roundw
              case rel =>
                refine ⟨j + 1, cs ++ [.slice A3 ((f + 1) - a) c3], by omega, by go_num, by rw [List.length_append, HCL.out]; rfl, ?_, ?_, hb5⟩
                · rw [List.length_append, HCL.out]; exact hown5
                · rw [take_snoc HLINE.out]; exact hrows5
              case measure => simp [intOf]; omega
          · have hfact : (linesOf zs)[j]? = some (cut zs a e) := by rw [HF.out, segEnd_a (by intro hh; exact hae hh.2.1)]
            have hrr : Rd w1 B (some (ad.add a)) ((cut zs a e).map (Value.int .i32)) := by rw [cut_cells]; exact (hr1.take e).drop a
            have hae' : ¬ ((a : Int) < (e : Int)) := by omega
            clear HF
            have HLINE := hide hfact
            have hml : (cut zs a e).length = e - a := (cut_len (by rw [HL.out]; omega)).trans (by omega)
            have HML := hide hml
            clear hml
            go_wp2_with (at_make; refine wpList_make_own _ rfl _ _ 26 rfl w1.heap.size 21 i0 (.int .i32 0) 1 Tryd.underlying26 hi0 hz0 hz1 _ _ _ (e - a) rfl rfl (by omega) (bytes_4 hz2 (by omega)) (by simp only [maxLen]; omega) hb.size ?_)
            intro w2 hown2 hg2
            have hb2 : Below wr.heap.size wr w2 := (Below.refl _ _).grown hg2 (Nat.le_refl _) (fun k hk => by cases hk)
            have hbb2 := hb.trans (hb2.mono hb.size)
            have hcs2 := (hs.below' hbb2 (Nat.le_refl _))
            obtain ⟨ads2, eas2, _, hca2⟩ := rd_nat hcs2 ha
            injection eas2 with eas2
            subst eas2
            have hr2 := hrr.below' hbb2 hB1
            go_wp2_with (at_builtin; refine wpList_append_rd _ rfl _ _ 26 rfl w1.heap.size 21 i0 (.int .i32 0) 1 4 Tryd.underlying26 hi0 hz0 hz1 hz2 rfl (by decide) _ 0 [] rfl hown2 B _ _ _ _ rfl ?c1 hr2 (one_i32 _) ?c3 ?c4 hbb2.size ?_)
            case c1 => rw [List.length_map, HML.out, Nat.mul_one]
            case c3 => simp only [maxLen]; omega
            case c4 => omega
            intro v3 w3 hown3 hg3 hat3
            have hb3 : Below wr.heap.size wr w3 := hb2.grown hg3 hb2.size (fun k hk => by simp [Value.ownBlock] at hk; omega)
            have hfr : ∀ u ∈ cs, u.ownBlock = none ∨ u.ownBlock ≠ v3.ownBlock := rows_fresh hrows (fun g hg => by
              rcases hat3 with h | h
              · rw [h] at hg; simp [Value.ownBlock] at hg; omega
              · rw [h] at hg; injection hg with hg; have := hb2.size; omega)
            obtain ⟨A3, c3, rfl, _, _⟩ := own_slice hown3
            have hown3' : w3.ownsRow w1.heap.size 21 1 (.slice A3 (e - a) c3) (cut zs a e).length ((cut zs a e).map (Value.int .i32)) := by rw [HML.out]; exact hown3
            have hrows3 := rows_push (rows_below hrows hb3) hown3' hfr
            have howno3 := own_below howno hb3
            have hbb3 := hb.trans (hb3.mono hb.size)
            have hrows4 := rows_kept hrows3 (World.grownBy_alloc _ (.cells #[.slice A3 (e - a) c3] 26) none) (fun v _ => by cases v.ownBlock <;> simp)
            have HFR := hide hfr
            clear hfr hown3 hown3' hat3 hown2 hr2 hca2
            go_wp2_with (at_builtin; refine wpList_append_rd _ rfl _ _ 28 rfl w1.heap.size 26 i1 (.slice none 0 0) 1 24 Tryd.underlying28 hi1 hz3 hz4 hz5 rfl (by decide) _ _ _ rfl (howno3.alloc _) _ _ 1 1 _ rfl (by rfl) (rd_slice _ _ _ (Nat.lt_succ_self _)) (one_slice _ _ _) ?c5 ?c6 ?c7 ?_)
            case c5 => simp only [maxLen]; omega
            case c6 => omega
            case c7 => exact Nat.le_trans hbb3.size (by simp)
            intro v5 w5 hown5 hg5 hat5
            have hrows5 := rows_kept hrows4 hg5 (fun v hv => by
              obtain ⟨l, hl⟩ := rows_of_mem hrows4 hv
              exact own_types hl (howno3.alloc _) (by decide))
            have hb5 := below_append (hbb3.alloc hbb3.size _) (howno3.alloc _) (Nat.le_refl _) hg5 (Nat.le_trans hbb3.size (by simp))
            go_wp2_with fail
            go_roundw
            case rel =>
              refine ⟨j + 1, cs ++ [.slice A3 (e - a) c3], by omega, by go_num, by rw [List.length_append, HCL.out]; rfl, ?_, ?_, hb5⟩
              · rw [List.length_append, HCL.out]; exact hown5
              · rw [take_snoc HLINE.out]; exact hrows5
            case measure => simp [intOf]; omega
        · have y10 : ((y : Int) == 10) = false := by rw [beq_eq_false_iff_ne]; exact h10
          have hfact : (linesOf zs)[j]? = some (cut zs a e) := by rw [HF.out, segEnd_a (by rw [HY.out]; intro hh; exact h10 hh.1)]
          have hrr : Rd w1 B (some (ad.add a)) ((cut zs a e).map (Value.int .i32)) := by rw [cut_cells]; exact (hr1.take e).drop a
          clear HF h10
          have HLINE := hide hfact
          have hml : (cut zs a e).length = e - a := (cut_len (by rw [HL.out]; omega)).trans (by omega)
          have HML := hide hml
          clear hml
          go_wp2_with (at_make; refine wpList_make_own _ rfl _ _ 26 rfl w1.heap.size 21 i0 (.int .i32 0) 1 Tryd.underlying26 hi0 hz0 hz1 _ _ _ (e - a) rfl rfl (by omega) (bytes_4 hz2 (by omega)) (by simp only [maxLen]; omega) hb.size ?_)
          intro w2 hown2 hg2
          have hb2 : Below wr.heap.size wr w2 := (Below.refl _ _).grown hg2 (Nat.le_refl _) (fun k hk => by cases hk)
          have hbb2 := hb.trans (hb2.mono hb.size)
          have hcs2 := (hs.below' hbb2 (Nat.le_refl _))
          obtain ⟨ads2, eas2, _, hca2⟩ := rd_nat hcs2 ha
          injection eas2 with eas2
          subst eas2
          have hr2 := hrr.below' hbb2 hB1
          go_wp2_with (at_builtin; refine wpList_append_rd _ rfl _ _ 26 rfl w1.heap.size 21 i0 (.int .i32 0) 1 4 Tryd.underlying26 hi0 hz0 hz1 hz2 rfl (by decide) _ 0 [] rfl hown2 B _ _ _ _ rfl ?c1 hr2 (one_i32 _) ?c3 ?c4 hbb2.size ?_)
          case c1 => rw [List.length_map, HML.out, Nat.mul_one]
          case c3 => simp only [maxLen]; omega
          case c4 => omega
          intro v3 w3 hown3 hg3 hat3
          have hb3 : Below wr.heap.size wr w3 := hb2.grown hg3 hb2.size (fun k hk => by simp [Value.ownBlock] at hk; omega)
          have hfr : ∀ u ∈ cs, u.ownBlock = none ∨ u.ownBlock ≠ v3.ownBlock := rows_fresh hrows (fun g hg => by
            rcases hat3 with h | h
            · rw [h] at hg; simp [Value.ownBlock] at hg; omega
            · rw [h] at hg; injection hg with hg; have := hb2.size; omega)
          obtain ⟨A3, c3, rfl, _, _⟩ := own_slice hown3
          have hown3' : w3.ownsRow w1.heap.size 21 1 (.slice A3 (e - a) c3) (cut zs a e).length ((cut zs a e).map (Value.int .i32)) := by rw [HML.out]; exact hown3
          have hrows3 := rows_push (rows_below hrows hb3) hown3' hfr
          have howno3 := own_below howno hb3
          have hbb3 := hb.trans (hb3.mono hb.size)
          have hrows4 := rows_kept hrows3 (World.grownBy_alloc _ (.cells #[.slice A3 (e - a) c3] 26) none) (fun v _ => by cases v.ownBlock <;> simp)
          have HFR := hide hfr
          clear hfr hown3 hown3' hat3 hown2 hr2 hca2
          go_wp2_with (at_builtin; refine wpList_append_rd _ rfl _ _ 28 rfl w1.heap.size 26 i1 (.slice none 0 0) 1 24 Tryd.underlying28 hi1 hz3 hz4 hz5 rfl (by decide) _ _ _ rfl (howno3.alloc _) _ _ 1 1 _ rfl (by rfl) (rd_slice _ _ _ (Nat.lt_succ_self _)) (one_slice _ _ _) ?c5 ?c6 ?c7 ?_)
          case c5 => simp only [maxLen]; omega
          case c6 => omega
          case c7 => exact Nat.le_trans hbb3.size (by simp)
          intro v5 w5 hown5 hg5 hat5
          have hrows5 := rows_kept hrows4 hg5 (fun v hv => by
            obtain ⟨l, hl⟩ := rows_of_mem hrows4 hv
            exact own_types hl (howno3.alloc _) (by decide))
          have hb5 := below_append (hbb3.alloc hbb3.size _) (howno3.alloc _) (Nat.le_refl _) hg5 (Nat.le_trans hbb3.size (by simp))
          go_wp2_with fail
          go_roundw
          case rel =>
            refine ⟨j + 1, cs ++ [.slice A3 (e - a) c3], by omega, by go_num, by rw [List.length_append, HCL.out]; rfl, ?_, ?_, hb5⟩
            · rw [List.length_append, HCL.out]; exact hown5
            · rw [take_snoc HLINE.out]; exact hrows5
          case measure => simp [intOf]; omega
      · have hfact := line_end (zs := zs) (j := j) (a := a) (by rw [HL.out]; exact ha) (by rw [HL.out, HM.out]; exact hlast)
        rw [HL.out] at hfact
        have hjl : ¬ ((j : Int) + 1 < (m : Int)) := by omega
        by_cases hca0 : c = a
        · obtain rfl : n = c := by omega
          obtain rfl : a = n := by omega
          have hrr : Rd w1 B A ((cut zs a a).map (Value.int .i32)) := by rw [cut_nil]; exact Rd.nil
          clear hca0 hnc han
          have HLINE := hide hfact
          have hml : (cut zs a a).length = 0 := (cut_len (by rw [HL.out]; omega)).trans (by omega)
          have HML := hide hml
          clear hml
          go_wp2_with (at_make; refine wpList_make_own _ rfl _ _ 26 rfl w1.heap.size 21 i0 (.int .i32 0) 1 Tryd.underlying26 hi0 hz0 hz1 _ _ _ (0) rfl rfl (by omega) (bytes_4 hz2 (by omega)) (by simp only [maxLen]; omega) hb.size ?_)
          intro w2 hown2 hg2
          have hb2 : Below wr.heap.size wr w2 := (Below.refl _ _).grown hg2 (Nat.le_refl _) (fun k hk => by cases hk)
          have hbb2 := hb.trans (hb2.mono hb.size)
          have hcs2 := (hs.below' hbb2 (Nat.le_refl _))
          obtain ⟨ads2, eas2, _, hca2⟩ := rd_nat hcs2 ha
          injection eas2 with eas2
          subst eas2
          have hr2 := hrr.below' hbb2 hB1
          go_wp2_with (at_builtin; refine wpList_append_rd _ rfl _ _ 26 rfl w1.heap.size 21 i0 (.int .i32 0) 1 4 Tryd.underlying26 hi0 hz0 hz1 hz2 rfl (by decide) _ 0 [] rfl hown2 B _ _ _ _ rfl ?c1 hr2 (one_i32 _) ?c3 ?c4 hbb2.size ?_)
          case c1 => rw [List.length_map, HML.out, Nat.mul_one]
          case c3 => simp only [maxLen]; omega
          case c4 => omega
          intro v3 w3 hown3 hg3 hat3
          have hb3 : Below wr.heap.size wr w3 := hb2.grown hg3 hb2.size (fun k hk => by simp [Value.ownBlock] at hk; omega)
          have hfr : ∀ u ∈ cs, u.ownBlock = none ∨ u.ownBlock ≠ v3.ownBlock := rows_fresh hrows (fun g hg => by
            rcases hat3 with h | h
            · rw [h] at hg; simp [Value.ownBlock] at hg; omega
            · rw [h] at hg; injection hg with hg; have := hb2.size; omega)
          obtain ⟨A3, c3, rfl, _, _⟩ := own_slice hown3
          have hown3' : w3.ownsRow w1.heap.size 21 1 (.slice A3 (0) c3) (cut zs a a).length ((cut zs a a).map (Value.int .i32)) := by rw [HML.out]; exact hown3
          have hrows3 := rows_push (rows_below hrows hb3) hown3' hfr
          have howno3 := own_below howno hb3
          have hbb3 := hb.trans (hb3.mono hb.size)
          have hrows4 := rows_kept hrows3 (World.grownBy_alloc _ (.cells #[.slice A3 (0) c3] 26) none) (fun v _ => by cases v.ownBlock <;> simp)
          have HFR := hide hfr
          clear hfr hown3 hown3' hat3 hown2 hr2 hca2
          go_wp2_with (at_builtin; refine wpList_append_rd _ rfl _ _ 28 rfl w1.heap.size 26 i1 (.slice none 0 0) 1 24 Tryd.underlying28 hi1 hz3 hz4 hz5 rfl (by decide) _ _ _ rfl (howno3.alloc _) _ _ 1 1 _ rfl (by rfl) (rd_slice _ _ _ (Nat.lt_succ_self _)) (one_slice _ _ _) ?c5 ?c6 ?c7 ?_)
          case c5 => simp only [maxLen]; omega
          case c6 => omega
          case c7 => exact Nat.le_trans hbb3.size (by simp)
          intro v5 w5 hown5 hg5 hat5
          have hrows5 := rows_kept hrows4 hg5 (fun v hv => by
            obtain ⟨l, hl⟩ := rows_of_mem hrows4 hv
            exact own_types hl (howno3.alloc _) (by decide))
          have hb5 := below_append (hbb3.alloc hbb3.size _) (howno3.alloc _) (Nat.le_refl _) hg5 (Nat.le_trans hbb3.size (by simp))
          go_wp2_with fail
          go_roundw
          case rel =>
            refine ⟨j + 1, cs ++ [.slice A3 (0) c3], by omega, by go_num, by rw [List.length_append, HCL.out]; rfl, ?_, ?_, hb5⟩
            · rw [List.length_append, HCL.out]; exact hown5
            · rw [take_snoc HLINE.out]; exact hrows5
          case measure => simp [intOf]; omega
        · have hrr : Rd w1 B (A.map (·.add a)) ((cut zs a n).map (Value.int .i32)) := by rw [cut_cells]; exact (hr1.take n).drop a
          have HLINE := hide hfact
          have hml : (cut zs a n).length = n - a := (cut_len (by rw [HL.out]; omega)).trans (by omega)
          have HML := hide hml
          clear hml
          go_wp2_with (at_make; refine wpList_make_own _ rfl _ _ 26 rfl w1.heap.size 21 i0 (.int .i32 0) 1 Tryd.underlying26 hi0 hz0 hz1 _ _ _ (n - a) rfl rfl (by omega) (bytes_4 hz2 (by omega)) (by simp only [maxLen]; omega) hb.size ?_)
          intro w2 hown2 hg2
          have hb2 : Below wr.heap.size wr w2 := (Below.refl _ _).grown hg2 (Nat.le_refl _) (fun k hk => by cases hk)
          have hbb2 := hb.trans (hb2.mono hb.size)
          have hcs2 := (hs.below' hbb2 (Nat.le_refl _))
          obtain ⟨ads2, eas2, _, hca2⟩ := rd_nat hcs2 ha
          injection eas2 with eas2
          subst eas2
          have hr2 := hrr.below' hbb2 hB1
          go_wp2_with (at_builtin; refine wpList_append_rd _ rfl _ _ 26 rfl w1.heap.size 21 i0 (.int .i32 0) 1 4 Tryd.underlying26 hi0 hz0 hz1 hz2 rfl (by decide) _ 0 [] rfl hown2 B _ _ _ _ rfl ?c1 hr2 (one_i32 _) ?c3 ?c4 hbb2.size ?_)
          case c1 => rw [List.length_map, HML.out, Nat.mul_one]
          case c3 => simp only [maxLen]; omega
          case c4 => omega
          intro v3 w3 hown3 hg3 hat3
          have hb3 : Below wr.heap.size wr w3 := hb2.grown hg3 hb2.size (fun k hk => by simp [Value.ownBlock] at hk; omega)
          have hfr : ∀ u ∈ cs, u.ownBlock = none ∨ u.ownBlock ≠ v3.ownBlock := rows_fresh hrows (fun g hg => by
            rcases hat3 with h | h
            · rw [h] at hg; simp [Value.ownBlock] at hg; omega
            · rw [h] at hg; injection hg with hg; have := hb2.size; omega)
          obtain ⟨A3, c3, rfl, _, _⟩ := own_slice hown3
          have hown3' : w3.ownsRow w1.heap.size 21 1 (.slice A3 (n - a) c3) (cut zs a n).length ((cut zs a n).map (Value.int .i32)) := by rw [HML.out]; exact hown3
          have hrows3 := rows_push (rows_below hrows hb3) hown3' hfr
          have howno3 := own_below howno hb3
          have hbb3 := hb.trans (hb3.mono hb.size)
          have hrows4 := rows_kept hrows3 (World.grownBy_alloc _ (.cells #[.slice A3 (n - a) c3] 26) none) (fun v _ => by cases v.ownBlock <;> simp)
          have HFR := hide hfr
          clear hfr hown3 hown3' hat3 hown2 hr2 hca2
          go_wp2_with (at_builtin; refine wpList_append_rd _ rfl _ _ 28 rfl w1.heap.size 26 i1 (.slice none 0 0) 1 24 Tryd.underlying28 hi1 hz3 hz4 hz5 rfl (by decide) _ _ _ rfl (howno3.alloc _) _ _ 1 1 _ rfl (by rfl) (rd_slice _ _ _ (Nat.lt_succ_self _)) (one_slice _ _ _) ?c5 ?c6 ?c7 ?_)
          case c5 => simp only [maxLen]; omega
          case c6 => omega
          case c7 => exact Nat.le_trans hbb3.size (by simp)
          intro v5 w5 hown5 hg5 hat5
          have hrows5 := rows_kept hrows4 hg5 (fun v hv => by
            obtain ⟨l, hl⟩ := rows_of_mem hrows4 hv
            exact own_types hl (howno3.alloc _) (by decide))
          have hb5 := below_append (hbb3.alloc hbb3.size _) (howno3.alloc _) (Nat.le_refl _) hg5 (Nat.le_trans hbb3.size (by simp))
          go_wp2_with fail
          go_roundw
          case rel =>
            refine ⟨j + 1, cs ++ [.slice A3 (n - a) c3], by omega, by go_num, by rw [List.length_append, HCL.out]; rfl, ?_, ?_, hb5⟩
            · rw [List.length_append, HCL.out]; exact hown5
            · rw [take_snoc HLINE.out]; exact hrows5
          case measure => simp [intOf]; omega
    · have hjm : j = m := by omega
      subst hjm
      have hfin : (linesOf zs).take j = linesOf zs := List.take_of_length_le (by rw [lines_len, HL.out, HM.out]; exact Nat.le_refl _)
      rw [hfin] at hrows
      go_wp2_with fail
      go_ret
      exact ⟨_, cs, rfl, by rw [HCL.out]; exact own_more howno hb1.size, rows_more hrows hb1.size, hb1.trans (hb.mono hb1.size)⟩
end Go.Proofs.YtomkkagopjpfkaaDoor.lines
