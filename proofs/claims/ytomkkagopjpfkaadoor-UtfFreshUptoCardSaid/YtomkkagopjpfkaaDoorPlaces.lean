/-
  The walks of Place and Places of the program, each once.
-/
import Derived.Test.YtomkkagopjpfkaaDoorLines
import Derived.Test.YtomkkagopjpfkaaDoorPl
namespace Go.Proofs.YtomkkagopjpfkaaDoor.lines
open Go.RowKit
open Go.Proofs.YtomkkagopjpfkaaDoor.words Go.Proofs.YtomkkagopjpfkaaDoor.enc Go.Proofs.YtomkkagopjpfkaaDoor.dec Go.Proofs.YtomkkagopjpfkaaDoor.ref Go.Proofs.YtomkkagopjpfkaaDoor.ln
set_option linter.unusedVariables false

theorem pos_info : (Tryd.prog.info? 50).map (fun i => (i.zero, i.size, i.bytes)) = some (some (.agg #[.int .i64 0, .int .i64 0]), 2, 16) := by kernel_rfl

abbrev posV (p : Nat × Nat) : Value := .agg #[.int .i64 (p.1 : Int), .int .i64 (p.2 : Int)]

/-- the place behind number k -/
theorem next_any (A : Option Addr) (n c B k : Nat) (zs : List Int) (w : World) (hr : Rd w B A (zs.map (Value.int .i32))) (hB : B ≤ w.heap.size) (hl : zs.length = n) (hk : k < n) (hn : n ≤ 4194304) :
    Calls Tryd.prog 51 #[.slice A n c, .int .i64 k, .agg #[.int .i64 (pl zs k).1, .int .i64 (pl zs k).2]] w fun e w' => e = .returned (.agg #[.int .i64 (pl zs (k + 1)).1, .int .i64 (pl zs (k + 1)).2]) ∧ Below w.heap.size w w' := by
  have hp := pl_le zs k
  obtain ⟨x, hx⟩ : ∃ x, (pl zs k).1 = x := ⟨_, rfl⟩
  obtain ⟨y, hy⟩ : ∃ y, (pl zs k).2 = y := ⟨_, rfl⟩
  rw [hx, hy] at hp ⊢
  have hkk : k < 4194304 := by omega
  cases he : endAt zs k with
  | true =>
    have hv : pl zs (k + 1) = (x + 1, 1) := by rw [pl_end he, hx]
    rw [hv]
    have HE := hide he
    clear hv hx hy he
    go_enter Tryd.func51, Tryd.ntmps51
    go_wp2_with (go_at_call 44; refine (ends_any A n c B k zs _ ((hr.alloc hB _).alloc (Nat.le_trans hB (by simp)) _) hl hk hn).mono ?_; rintro e w' ⟨rfl, rfl⟩; rw [HE.out])
    exact bodyPost_ret (v := .agg #[.int .i64 (((x + 1 : Nat) : Nat) : Int), .int .i64 ((1 : Nat) : Int)]) (by simp [results, Tryd.results51, go_sem]) rfl ⟨rfl, ((Below.refl _ _).alloc (Nat.le_refl _) _).alloc (by simp) _⟩
  | false =>
    have hv : pl zs (k + 1) = (x, y + 1) := by rw [pl_same he, hx, hy]
    rw [hv]
    have HE := hide he
    clear hv hx hy he
    go_enter Tryd.func51, Tryd.ntmps51
    go_wp2_with (go_at_call 44; refine (ends_any A n c B k zs _ ((hr.alloc hB _).alloc (Nat.le_trans hB (by simp)) _) hl hk hn).mono ?_; rintro e w' ⟨rfl, rfl⟩; rw [HE.out])
    exact bodyPost_ret (v := .agg #[.int .i64 (x : Int), .int .i64 (((y + 1 : Nat) : Nat) : Int)]) (by simp [results, Tryd.results51, go_sem]) rfl ⟨rfl, ((Below.refl _ _).alloc (Nat.le_refl _) _).alloc (by simp) _⟩

def pcells (l : List (Nat × Nat)) : List Value := l.flatMap fun p => [Value.int .i64 (p.1 : Int), Value.int .i64 (p.2 : Int)]
theorem pcells_len (l : List (Nat × Nat)) : (pcells l).length = l.length * 2 := by
  induction l with
  | nil => rfl
  | cons p l ih =>
    have : pcells (p :: l) = [Value.int .i64 (p.1 : Int), Value.int .i64 (p.2 : Int)] ++ pcells l := rfl
    rw [this, List.length_append, ih]
    simp
    omega
theorem pcells_snoc (l : List (Nat × Nat)) (p : Nat × Nat) : pcells (l ++ [p]) = pcells l ++ [Value.int .i64 (p.1 : Int), Value.int .i64 (p.2 : Int)] := by simp [pcells]
theorem one_pos (x y : Int) : ∀ u ∈ [Value.int .i64 x, Value.int .i64 y], u.oneCell' = true := by
  intro u hu
  simp at hu
  rcases hu with rfl | rfl <;> rfl
theorem rd_pos (w : World) (B : Nat) (x y : Int) (hB : w.heap.size < B) : Rd (w.alloc (.cells #[.int .i64 x, .int .i64 y] 50)) B (some ⟨w.heap.size, 0, none⟩) [.int .i64 x, .int .i64 y] :=
  rd_new w [.int .i64 x, .int .i64 y] 50 hB

/-- a block that is known whole -/
def Blk (w : World) (g : Nat) (cs : Array Value) (t : TypeId) : Prop := w.heap[g]? = some (.cells cs t (0, 0))
theorem blk_lt {w : World} {g : Nat} {cs : Array Value} {t : TypeId} (h : Blk w g cs t) : g < w.heap.size := (Array.getElem?_eq_some_iff.1 h).1
theorem blk_cell {w : World} {g : Nat} {cs : Array Value} {t : TypeId} (h : Blk w g cs t) (i : Nat) : w.cell? ⟨g, i, none⟩ = cs[i]? := cell_of_row w g i cs t (0, 0) h
theorem blk_free {w : World} {g : Nat} {cs : Array Value} {t : TypeId} (h : Blk w g cs t) (i : Nat) : w.frozen? ⟨g, i, none⟩ = false := by unfold Blk at h; simp [World.frozen?, h]
theorem blk_alloc {w : World} {g : Nat} {cs : Array Value} {t : TypeId} (h : Blk w g cs t) (o : Obj) : Blk (w.alloc o) g cs t := (Below.heap_alloc w o g (blk_lt h)).trans h
theorem blk_below {w w' : World} {g : Nat} {cs : Array Value} {t : TypeId} (h : Blk w g cs t) (hb : Below w.heap.size w w') : Blk w' g cs t := (hb.block g (blk_lt h)).trans h
theorem blk_grown {w w' : World} {g : Nat} {cs : Array Value} {t : TypeId} {row : Option Nat} (h : Blk w g cs t) (hg : w.grownBy w' row) (hne : row ≠ some g) : Blk w' g cs t := (hg.block g (blk_lt h) (fun e => hne e.symm)).trans h
theorem blk_set {w : World} {g : Nat} {cs : Array Value} {t : TypeId} (h : Blk w g cs t) (i : Nat) (u : Value) : Blk (w.setCell ⟨g, i, none⟩ u) g (cs.setIfInBounds i u) t := by
  unfold Blk at h ⊢
  simp [World.setCell, Array.getElem?_modify, h]

theorem grown_set (w : World) (p : Addr) (u : Value) : w.grownBy (w.setCell p u) (some p.block) :=
  ⟨rfl, rfl, rfl, by simp [World.setCell], fun k hk hne => Below.heap_setCell w p u k (fun e => hne (by rw [e]))⟩
theorem own_set {w : World} {B e size n g i : Nat} {v : Value} {xs : List Value} (h : w.ownsRow B e size v n xs) (hne : v.ownBlock ≠ some g) (u : Value) : (w.setCell ⟨g, i, none⟩ u).ownsRow B e size v n xs :=
  h.kept (grown_set w ⟨g, i, none⟩ u) (.inr hne)

set_option maxHeartbeats 1000000 in
/-- the program's Places -/
theorem Places_any (A : Option Addr) (n c B : Nat) (zs : List Int) (w : World) (hr : Rd w B A (zs.map (Value.int .i32))) (hB : B ≤ w.heap.size) (hl : zs.length = n) (hn : n ≤ 4194304) :
    Calls Tryd.prog 35 #[.slice A n c] w fun e w' => ∃ v, e = .returned v ∧ w'.ownsRow w.heap.size 50 2 v (n + 1) (pcells (places zs (n + 1))) ∧ Below w.heap.size w w' := by
  obtain ⟨i0, hi0, hz0, hz1, hz2⟩ := info_parts pos_info
  have HL := hide hl
  clear hl
  go_enter Tryd.func35, Tryd.ntmps35
  go_wp2_with (at_make; refine wpList_make_own _ rfl _ _ 47 rfl w.heap.size 50 i0 (.agg #[.int .i64 0, .int .i64 0]) 2 Tryd.underlying47 hi0 hz0 hz1 _ _ _ (n + 1) rfl rfl (by omega) (by rw [hz2]; omega) (by simp only [maxLen]; omega) (Nat.le_refl _) ?_)
  intro w1 hown1 hg1
  have hb1 : Below w.heap.size w w1 := (Below.refl _ _).grown hg1 (Nat.le_refl _) (fun k hk => by cases hk)
  have hgt : w.heap.size < w1.heap.size := (hown1.lt w.heap.size rfl).2
  go_wp2_with fail
  go_loopw [3, 13] (fun v i wr => ∃ k : Nat, k ≤ n ∧ i = .int .i64 k ∧ wr.ownsRow w.heap.size 50 2 v k (pcells (places zs k)) ∧ Blk wr w1.heap.size #[.int .i64 (pl zs k).1, .int .i64 (pl zs k).2] 50 ∧ Hid (v.ownBlock ≠ some w1.heap.size) ∧ Below w.heap.size w wr) (fun _ i _ => n - (intOf i).toNat)
  case atStart =>
    refine ⟨0, Nat.zero_le _, rfl, hown1.alloc _, heap_alloc_new w1 _, ?_, hb1.alloc hb1.size _⟩
    show some w.heap.size ≠ some w1.heap.size
    intro e
    injection e with e
    omega
  case round =>
    obtain ⟨k, hk, rfl, hown, hblk, hne, hb⟩ := hrel
    obtain ⟨Av, cv, rfl, _, _⟩ := own_slice hown
    have hp := pl_le zs k
    have c0 := blk_cell hblk 0
    have c1 := blk_cell hblk 1
    have hsz := blk_lt hblk
    by_cases hlt : k < n
    · go_wp2_with (at_builtin; refine wpList_append_rd _ rfl _ _ 47 rfl w.heap.size 50 i0 (.agg #[.int .i64 0, .int .i64 0]) 2 16 Tryd.underlying47 hi0 hz0 hz1 hz2 rfl (by decide) _ _ _ rfl (hown.alloc _) _ _ 1 1 _ rfl (by rfl) (rd_pos _ _ _ _ (Nat.lt_succ_self _)) (one_pos _ _) ?c3 ?c4 ?c5 ?_)
      case c3 => simp only [maxLen]; omega
      case c4 => omega
      case c5 => exact Nat.le_trans hb.size (by simp)
      intro v2 w2 hown2 hg2 hat2
      have hb2 := below_append (hb.alloc hb.size _) (hown.alloc _) (Nat.le_refl _) hg2 (Nat.le_trans hb.size (by simp))
      have hblk2 := blk_grown (blk_alloc hblk _) hg2 hne.out
      have hne2 : Hid (v2.ownBlock ≠ some w1.heap.size) := by
        rcases hat2 with h | h
        · rw [h]; exact hne
        · rw [h]
          intro e
          injection e with e
          omega
      have d0 := blk_cell hblk2 0
      have d1 := blk_cell hblk2 1
      clear c0 c1
      go_wp2_with fail
      refine (next_any A n c B k zs _ (hr.below' hb2 hB) (Nat.le_trans hB hb2.size) HL.out hlt hn).mono ?_
      rintro e w3 ⟨rfl, hb3⟩
      have hb13 := hb2.trans (hb3.mono hb2.size)
      have hblk3 := blk_below hblk2 hb3
      have hown3 := own_below hown2 hb3
      have d0 := blk_cell hblk3 0
      have d1 := blk_cell hblk3 1
      have f0 := blk_free hblk3 0
      have f1 := blk_free hblk3 1
      go_wp2_with fail
      go_roundw
      case rel =>
        refine ⟨k + 1, by omega, by go_num, ?_, ?_, hne2, (hb13.setCell (by have := hb1.size; exact this) _).setCell (by have := hb1.size; exact this) _⟩
        · rw [places_snoc, pcells_snoc]
          exact own_set (own_set hown3 hne2.out _) hne2.out _
        · exact blk_set (blk_set hblk3 0 _) 1 _
      case measure => simp [intOf]; omega
    · have hkn : k = n := by omega
      subst hkn
      go_wp2_with (at_builtin; refine wpList_append_rd _ rfl _ _ 47 rfl w.heap.size 50 i0 (.agg #[.int .i64 0, .int .i64 0]) 2 16 Tryd.underlying47 hi0 hz0 hz1 hz2 rfl (by decide) _ _ _ rfl (hown.alloc _) _ _ 1 1 _ rfl (by rfl) (rd_pos _ _ _ _ (Nat.lt_succ_self _)) (one_pos _ _) ?c3 ?c4 ?c5 ?_)
      case c3 => simp only [maxLen]; omega
      case c4 => omega
      case c5 => exact Nat.le_trans hb.size (by simp)
      intro v2 w2 hown2 hg2 hat2
      have hb2 := below_append (hb.alloc hb.size _) (hown.alloc _) (Nat.le_refl _) hg2 (Nat.le_trans hb.size (by simp))
      go_wp2_with fail
      go_ret
      refine ⟨_, rfl, ?_, hb2⟩
      rw [places_snoc, pcells_snoc]
      exact hown2
end Go.Proofs.YtomkkagopjpfkaaDoor.lines
