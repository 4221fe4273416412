/-
  Lists of characters in slices of the call's own, no two in one block; the walk of Lines.
-/
import Derived.Test.YtomkkagopjpfkaaDoorRef
import Derived.Test.YtomkkagopjpfkaaDoorLn
namespace Go.Proofs.YtomkkagopjpfkaaDoor.lines
open Go.RowKit
open Go.Proofs.YtomkkagopjpfkaaDoor.words Go.Proofs.YtomkkagopjpfkaaDoor.enc Go.Proofs.YtomkkagopjpfkaaDoor.dec Go.Proofs.YtomkkagopjpfkaaDoor.ref Go.Proofs.YtomkkagopjpfkaaDoor.ln
set_option linter.unusedVariables false

/-- the lists L lie in slices of the call's own, no two in one block -/
structure RowsOwn (w : World) (B : Nat) (cs : List Value) (L : List (List Int)) : Prop where
  len : cs.length = L.length
  rows : ∀ (j : Nat) (l : List Int), L[j]? = some l → ∃ v, cs[j]? = some v ∧ w.ownsRow B 21 1 v l.length (l.map (Value.int .i32))
  apart : ∀ (i j : Nat) (u v : Value), cs[i]? = some u → cs[j]? = some v → i ≠ j → u.ownBlock = none ∨ u.ownBlock ≠ v.ownBlock

theorem rows_of_mem {w : World} {B : Nat} {cs : List Value} {L : List (List Int)} (h : RowsOwn w B cs L) {v : Value} (hv : v ∈ cs) : ∃ l : List Int, w.ownsRow B 21 1 v l.length (l.map (Value.int .i32)) := by
  obtain ⟨j, hj, rfl⟩ := List.getElem_of_mem hv
  obtain ⟨u, hu, ho⟩ := h.rows j (L[j]'(by rw [← h.len]; exact hj)) (List.getElem?_eq_getElem _)
  rw [List.getElem?_eq_getElem hj] at hu
  injection hu with hu
  subst hu
  exact ⟨_, ho⟩
theorem rows_nil (w : World) (B : Nat) : RowsOwn w B [] [] := ⟨rfl, fun j l h => by simp at h, fun i j u v h => by simp at h⟩
theorem rows_kept {w w' : World} {B : Nat} {cs : List Value} {L : List (List Int)} {row : Option Nat} (h : RowsOwn w B cs L) (hg : w.grownBy w' row) (hne : ∀ v ∈ cs, v.ownBlock = none ∨ v.ownBlock ≠ row) : RowsOwn w' B cs L :=
  ⟨h.len, fun j l hl => by
    obtain ⟨v, hv, ho⟩ := h.rows j l hl
    exact ⟨v, hv, ho.kept hg (hne v (List.mem_of_getElem? hv))⟩, h.apart⟩
theorem grown_of_below {w w' : World} (hb : Below w.heap.size w w') (row : Option Nat) : w.grownBy w' row := ⟨hb.os, hb.tape, hb.output, hb.size, fun i hi _ => hb.block i hi⟩
theorem rows_below {w w' : World} {B : Nat} {cs : List Value} {L : List (List Int)} (h : RowsOwn w B cs L) (hb : Below w.heap.size w w') : RowsOwn w' B cs L :=
  rows_kept h (grown_of_below hb none) fun v _ => by cases v.ownBlock <;> simp
theorem rows_push {w : World} {B : Nat} {cs : List Value} {L : List (List Int)} {v : Value} {l : List Int} (h : RowsOwn w B cs L) (hv : w.ownsRow B 21 1 v l.length (l.map (Value.int .i32)))
    (hap : ∀ u ∈ cs, u.ownBlock = none ∨ u.ownBlock ≠ v.ownBlock) : RowsOwn w B (cs ++ [v]) (L ++ [l]) := by
  have hlen := h.len
  refine ⟨by simp [hlen], fun j x hx => ?_, fun i j a b ha hb hij => ?_⟩
  · rw [List.getElem?_append] at hx
    split at hx
    · rename_i hj
      obtain ⟨u, hu, ho⟩ := h.rows j x hx
      exact ⟨u, by rw [List.getElem?_append, if_pos (by omega)]; exact hu, ho⟩
    · rename_i hj
      have hx' := List.mem_of_getElem? hx
      have hj1 := (List.getElem?_eq_some_iff.1 hx).1
      simp at hx' hj1
      subst hx'
      exact ⟨v, by rw [List.getElem?_append, if_neg (by omega), show j - cs.length = 0 by omega]; rfl, hv⟩
  · rw [List.getElem?_append] at ha hb
    by_cases hi : i < cs.length
    · rw [if_pos hi] at ha
      by_cases hj : j < cs.length
      · rw [if_pos hj] at hb
        exact h.apart i j a b ha hb hij
      · rw [if_neg hj] at hb
        have := List.mem_of_getElem? hb
        simp at this
        subst this
        exact hap a (List.mem_of_getElem? ha)
    · rw [if_neg hi] at ha
      have h1 := List.mem_of_getElem? ha
      have h2 := (List.getElem?_eq_some_iff.1 ha).1
      simp at h1 h2
      subst h1
      by_cases hj : j < cs.length
      · rw [if_pos hj] at hb
        rcases hap b (List.mem_of_getElem? hb) with h3 | h3
        · by_cases h4 : a.ownBlock = none
          · exact .inl h4
          · exact .inr (by rw [h3]; exact h4)
        · exact .inr (fun e => h3 e.symm)
      · rw [if_neg hj] at hb
        have h3 := (List.getElem?_eq_some_iff.1 hb).1
        simp at h3
        omega

/-- rows of two kinds never share a block -/
theorem own_types {w : World} {B B' e e' s s' n n' : Nat} {v v' : Value} {xs xs' : List Value} (h : w.ownsRow B e s v n xs) (h' : w.ownsRow B' e' s' v' n' xs') (hne : e ≠ e') : v.ownBlock = none ∨ v.ownBlock ≠ v'.ownBlock := by
  rcases h.2 with ⟨rfl, _⟩ | ⟨g, cap, cur, rfl, _, hg, _⟩
  · exact .inl rfl
  · rcases h'.2 with ⟨rfl, _⟩ | ⟨g', cap', cur', rfl, _, hg', _⟩
    · exact .inr (by simp [Value.ownBlock])
    · refine .inr fun ee => ?_
      have : g = g' := by simpa [Value.ownBlock] using ee
      subst this
      rw [hg] at hg'
      injection hg' with hg'
      injection hg' with _ ht
      exact hne ht

/-- behind an append onto v: what else was apart stays so -/
theorem apart_append {w : World} {v v' u : Value} {B e s n : Nat} {xs : List Value} (hu : w.ownsRow B e s u n xs) (h : u.ownBlock = none ∨ u.ownBlock ≠ v.ownBlock) (hv : v'.ownBlock = v.ownBlock ∨ v'.ownBlock = some w.heap.size) :
    u.ownBlock = none ∨ u.ownBlock ≠ v'.ownBlock := by
  rcases hv with hv | hv
  · rw [hv]; exact h
  · by_cases h0 : u.ownBlock = none
    · exact .inl h0
    · refine .inr fun e => ?_
      have := (hu.lt _ (e.trans hv)).2
      omega

theorem slice_info : (Tryd.prog.info? 26).map (fun i => (i.zero, i.size, i.bytes)) = some (some (.slice none 0 0), 1, 24) := by kernel_rfl

/-- does a line end behind number k? -/
theorem ends_any (A : Option Addr) (n c B k : Nat) (zs : List Int) (w : World) (hr : Rd w B A (zs.map (Value.int .i32))) (hl : zs.length = n) (hk : k < n) (hn : n ≤ 4194304) :
    Calls Tryd.prog 44 #[.slice A n c, .int .i64 k] w fun e w' => e = .returned (.bool (endAt zs k)) ∧ w = w' := by
  have HL := hide hl
  clear hl
  obtain ⟨ad, z, rfl, hz, had, hc⟩ := hr.i32 (k := k) (by rw [HL.out]; exact hk)
  have hch := ch_of hz
  have HC := hide hch
  clear hz hch
  by_cases h1 : z = 10
  · subst h1
    have HE := hide (endAt_lf HC.out)
    go_enter Tryd.func44, Tryd.ntmps44
    go_wp2
    go_ret
    exact ⟨ret_bool HE.out.symm, rfl⟩
  by_cases h2 : z = 13
  · subst h2
    by_cases h3 : k + 1 = n
    · have HE := hide (endAt_cr HC.out (by rw [HL.out]; omega))
      have hke : (((k : Nat) : Int) + 1 == (n : Int)) = true := by rw [beq_iff_eq]; omega
      clear h3
      go_enter Tryd.func44, Tryd.ntmps44
      go_wp2
      go_ret
      exact ⟨ret_bool HE.out.symm, rfl⟩
    · obtain ⟨ad', y, ea, hy, had', hc'⟩ := hr.i32 (k := k + 1) (by rw [HL.out]; omega)
      injection ea with ea
      subst ea
      rw [add_succ] at hc'
      have hch' := ch_of hy
      have HC' := hide hch'
      clear hy hch'
      have hke : (((k : Nat) : Int) + 1 == (n : Int)) = false := by rw [beq_eq_false_iff_ne]; omega
      have hk1 : k + 1 < n := by omega
      clear h3
      by_cases h4 : y = 10
      · subst h4
        have HE := hide (endAt_crlf HC.out (by rw [HL.out]; omega) HC'.out)
        go_enter Tryd.func44, Tryd.ntmps44
        go_wp2
        go_ret
        exact ⟨ret_bool HE.out.symm, rfl⟩
      · have HE := hide (endAt_cr HC.out (by rw [HC'.out]; intro hh; exact h4 hh.2))
        have hy1 : ((y : Int) == 10) = false := by rw [beq_eq_false_iff_ne]; exact h4
        have hy2 : ((y : Int) != 10) = true := by rw [bne, hy1]; rfl
        clear h4
        go_enter Tryd.func44, Tryd.ntmps44
        go_wp2
        go_ret
        exact ⟨ret_bool HE.out.symm, rfl⟩
  · have HE := hide (endAt_other (zs := zs) (i := k) (by rw [HC.out]; exact h1) (by rw [HC.out]; exact h2))
    have b1 : ((z : Int) == 10) = false := by rw [beq_eq_false_iff_ne]; exact h1
    have b2 : ((z : Int) == 13) = false := by rw [beq_eq_false_iff_ne]; exact h2
    clear h1 h2
    go_enter Tryd.func44, Tryd.ntmps44
    go_wp2
    go_ret
    exact ⟨ret_bool HE.out.symm, rfl⟩

theorem rd_slice (w : World) (B : Nat) (v : Value) (hB : w.heap.size < B) : Rd (w.alloc (.cells #[v] 26)) B (some ⟨w.heap.size, 0, none⟩) [v] :=
  rd_new w [v] 26 hB

/-- what Lines answers: each line in new memory, no two in one block -/
def LinesPost (zs : List Int) (w : World) (e : Ending) (w' : World) : Prop :=
  ∃ v cs, e = .returned v ∧ w'.ownsRow w.heap.size 26 1 v cs.length cs ∧ RowsOwn w' w.heap.size cs (linesOf zs) ∧ Below w.heap.size w w'

theorem Lines_any (A : Option Addr) (n c B : Nat) (zs : List Int) (w : World) (hr : Rd w B A (zs.map (Value.int .i32))) (hB : B ≤ w.heap.size) (hl : zs.length = n) (hn : n ≤ 4194304) :
    Calls Tryd.prog 18 #[.slice A n c] w (LinesPost zs w) := by
  obtain ⟨i0, hi0, hz0, hz1, hz2⟩ := info_parts rune_info
  obtain ⟨i1, hi1, hz3, hz4, hz5⟩ := info_parts slice_info
  have HL := hide hl
  clear hl
  go_enter Tryd.func18, Tryd.ntmps18
  go_wp2
  go_loopw [3, 4, 9] (fun va vl i wr => ∃ (k : Nat) (cs : List Value), k ≤ n ∧ i = .int .i64 k ∧ cs.length ≤ k ∧ wr.ownsRow w.heap.size 26 1 va cs.length cs ∧ RowsOwn wr w.heap.size cs (done zs k) ∧
      wr.ownsRow w.heap.size 21 1 vl (cur zs k).length ((cur zs k).map (Value.int .i32)) ∧ Hid (∀ u ∈ cs, u.ownBlock = none ∨ u.ownBlock ≠ vl.ownBlock) ∧ Below w.heap.size w wr) (fun _ _ i _ => n - (intOf i).toNat)
  case atStart =>
    have e0 : cur zs 0 = [] := rfl
    refine ⟨0, [], Nat.zero_le _, rfl, Nat.le_refl _, World.ownsRow_nil _ _ _ _, rows_nil _ _, by rw [e0]; exact World.ownsRow_nil _ _ _ _, ?_, Below.refl _ _⟩
    intro u hu
    cases hu
  case round =>
    obtain ⟨k, cs, hk, rfl, hck, howna, hrows, hownl, hap, hb⟩ := hrel
    obtain ⟨Aa, ca, rfl, _, _⟩ := own_slice howna
    obtain ⟨Al, cl, rfl, _, _⟩ := own_slice hownl
    by_cases hlt : k < n
    · have hrr := hr.below' hb hB
      obtain ⟨ad, z, rfl, hz, had, hc⟩ := hrr.i32 (k := k) (by rw [HL.out]; exact hlt)
      have hch := ch_of hz
      have HC := hide hch
      clear hz hch
      cases he : endAt zs k with
      | true =>
        obtain ⟨e1, e2⟩ := done_end he
        have E1 := hide e1
        have E2 := hide e2
        clear e1 e2
        go_wp2_with (first
          | (go_at_call 44; refine (ends_any _ n c B k zs _ hrr HL.out hlt hn).mono ?_; rintro e w' ⟨rfl, rfl⟩)
          | (at_builtin; refine wpList_append_rd _ rfl _ _ 28 rfl w.heap.size 26 i1 (.slice none 0 0) 1 24 Tryd.underlying28 hi1 hz3 hz4 hz5 rfl (by decide) _ _ _ rfl (howna.alloc _) _ _ 1 1 _ rfl ?c1 (rd_slice _ _ _ (Nat.lt_succ_self _)) ?c2 ?c3 ?c4 ?c5 ?_))
        case c1 => rfl
        case c2 => intro u hu; simp at hu; subst hu; rfl
        case c3 => simp only [maxLen]; omega
        case c4 => omega
        case c5 => exact Nat.le_trans hb.size (by simp)
        intro v2 w2 hown2 hg2 hat2
        have hrows1 := rows_kept (rows_push hrows hownl hap.out) (World.grownBy_alloc _ (.cells #[.slice Al (cur zs k).length cl] 26) none) (fun v _ => by cases v.ownBlock <;> simp)
        have hrows2 := rows_kept hrows1 hg2 (fun v hv => by
          obtain ⟨l, hl⟩ := rows_of_mem hrows1 hv
          exact own_types hl (howna.alloc _) (by decide))
        have hb2 := below_append (hb.alloc hb.size _) (howna.alloc _) (Nat.le_refl _) hg2 (Nat.le_trans hb.size (by simp))
        go_wp2_with fail
        go_roundw
        case rel =>
          refine ⟨k + 1, _, by omega, by go_num, ?_, ?_, by rw [E1.out]; exact hrows2, ?_, ?_, hb2⟩
          · rw [List.length_append, List.length_singleton]; omega
          · rw [List.length_append]; exact hown2
          · rw [E2.out]; exact World.ownsRow_nil _ _ _ _
          · intro u _
            show u.ownBlock = none ∨ u.ownBlock ≠ none
            cases u.ownBlock <;> simp
        case measure => simp [intOf]; omega
      | false =>
        by_cases h13 : z = 13
        · subst h13
          obtain ⟨e1, e2⟩ := cur_cr he HC.out
          have E1 := hide e1
          have E2 := hide e2
          clear e1 e2
          go_wp2_with (go_at_call 44; refine (ends_any _ n c B k zs _ hrr HL.out hlt hn).mono ?_; rintro e w' ⟨rfl, rfl⟩)
          go_roundw
          case rel => exact ⟨k + 1, cs, by omega, by go_num, by omega, howna, by rw [E1.out]; exact hrows, by rw [E2.out]; exact ⟨hownl, hap, hb⟩⟩
          case measure => simp [intOf]; omega
        · have b13 : ((z : Int) == 13) = false := by rw [beq_eq_false_iff_ne]; exact h13
          obtain ⟨e1, e2⟩ := cur_ch (by rw [HL.out]; exact hlt) he (by rw [HC.out]; exact h13)
          rw [HC.out] at e2
          have E1 := hide e1
          have E2 := hide e2
          clear e1 e2 h13
          have hle : (cur zs k).length ≤ k := by
            have h1 := st_le zs k
            unfold cur
            split <;> rw [cut_len (by rw [HL.out]; omega)] <;> omega
          go_wp2_with (first
            | (go_at_call 44; refine (ends_any _ n c B k zs _ hrr HL.out hlt hn).mono ?_; rintro e w' ⟨rfl, rfl⟩)
            | (at_builtin; refine wpList_append_rd _ rfl _ _ 26 rfl w.heap.size 21 i0 (.int .i32 0) 1 4 Tryd.underlying26 hi0 hz0 hz1 hz2 rfl (by decide) _ _ _ rfl (hownl.alloc _) _ _ 1 1 _ rfl ?c1 (rd_one _ _ _ (Nat.lt_succ_self _)) (one_i32 _) ?c3 ?c4 ?c5 ?_))
          case c1 => rfl
          case c3 => simp only [maxLen]; omega
          case c4 => omega
          case c5 => exact Nat.le_trans hb.size (by simp)
          intro v2 w2 hown2 hg2 hat2
          have hrows1 := rows_kept hrows (World.grownBy_alloc _ (.cells #[.int .i32 z] 21) none) (fun v _ => by cases v.ownBlock <;> simp)
          have hrows2 := rows_kept hrows1 hg2 hap.out
          have howna2 := (howna.alloc (.cells #[.int .i32 z] 21)).kept hg2 (own_types howna hownl (by decide))
          have hb2 := below_append (hb.alloc hb.size _) (hownl.alloc _) (Nat.le_refl _) hg2 (Nat.le_trans hb.size (by simp))
          have hap2 : Hid (∀ u ∈ cs, u.ownBlock = none ∨ u.ownBlock ≠ v2.ownBlock) := fun u hu => by
            obtain ⟨l, hl⟩ := rows_of_mem hrows1 hu
            exact apart_append hl (hap.out u hu) (hat2.imp id fun e => e.trans (by simp))
          go_wp2_with fail
          go_roundw
          case rel =>
            refine ⟨k + 1, cs, by omega, by go_num, by omega, howna2, by rw [E1.out]; exact hrows2, ?_, hap2, hb2⟩
            rw [E2.out, List.length_append, List.map_append]
            exact hown2
          case measure => simp [intOf]; omega
    · have hkn : k = n := by omega
      subst hkn
      have hlin : linesOf zs = done zs k ++ [cur zs k] := by rw [linesOf_eq, HL.out]
      have HLN := hide hlin
      clear hlin
      go_wp2_with (at_builtin; refine wpList_append_rd _ rfl _ _ 28 rfl w.heap.size 26 i1 (.slice none 0 0) 1 24 Tryd.underlying28 hi1 hz3 hz4 hz5 rfl (by decide) _ _ _ rfl (howna.alloc _) _ _ 1 1 _ rfl ?c1 (rd_slice _ _ _ (Nat.lt_succ_self _)) ?c2 ?c3 ?c4 ?c5 ?_)
      case c1 => rfl
      case c2 => intro u hu; simp at hu; subst hu; rfl
      case c3 => simp only [maxLen]; omega
      case c4 => omega
      case c5 => exact Nat.le_trans hb.size (by simp)
      intro v2 w2 hown2 hg2 hat2
      have hrows1 := rows_kept (rows_push hrows hownl hap.out) (World.grownBy_alloc _ (.cells #[.slice Al (cur zs k).length cl] 26) none) (fun v _ => by cases v.ownBlock <;> simp)
      have hrows2 := rows_kept hrows1 hg2 (fun v hv => by
        obtain ⟨l, hl⟩ := rows_of_mem hrows1 hv
        exact own_types hl (howna.alloc _) (by decide))
      have hb2 := below_append (hb.alloc hb.size _) (howna.alloc _) (Nat.le_refl _) hg2 (Nat.le_trans hb.size (by simp))
      go_wp2_with fail
      go_ret
      exact ⟨_, _, rfl, by rw [List.length_append]; exact hown2, by rw [HLN.out]; exact hrows2, hb2⟩
end Go.Proofs.YtomkkagopjpfkaaDoor.lines
