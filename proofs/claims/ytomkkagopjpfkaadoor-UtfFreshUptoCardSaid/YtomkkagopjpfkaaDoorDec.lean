/-
  The walks of Decode and Clean at their four types, and of the reference's Decode, each once.
-/
import Derived.Test.YtomkkagopjpfkaaDoorEnc
import Derived.Test.YtomkkagopjpfkaaDoorUtf
import Derived.WalkSmall
import Derived.Lib.OthersKept
import Derived.Lib.RuneCountTail
namespace Go.Proofs.YtomkkagopjpfkaaDoor.dec
open Go.RowKit
open Go.Proofs.YtomkkagopjpfkaaDoor.words Go.Proofs.YtomkkagopjpfkaaDoor.enc Go.Proofs.YtomkkagopjpfkaaDoor.utf
set_option linter.unusedVariables false

theorem own_more {w : World} {B B' e size n : Nat} {v : Value} {xs : List Value} (h : w.ownsRow B e size v n xs) (hB : B' ≤ B) : w.ownsRow B' e size v n xs := by
  refine ⟨h.1, ?_⟩
  rcases h.2 with h2 | ⟨g, cap, cur, hv, hg, r⟩
  · exact .inl h2
  · exact .inr ⟨g, cap, cur, hv, by omega, r⟩
theorem own_below {w w' : World} {B e size n : Nat} {v : Value} {xs : List Value} (h : w.ownsRow B e size v n xs) (hb : Below w.heap.size w w') : w'.ownsRow B e size v n xs :=
  h.kept (row := none) ⟨hb.os, hb.tape, hb.output, hb.size, fun i hi _ => hb.block i hi⟩ (by cases v.ownBlock <;> simp)

/-- the place of the loop: what has been read, and what is left -/
def At (l : List UInt8) (pos : Nat) (acc : List Int) : Prop := pos ≤ l.length ∧ decF l = (acc ++ (decF (l.drop pos)).1, pos + (decF (l.drop pos)).2) ∧ acc.length ≤ pos
theorem at_start (l : List UInt8) : At l 0 [] := ⟨by omega, by simp, by simp⟩
theorem at_bad {l : List UInt8} {pos : Nat} {acc : List Int} (h : At l pos acc) (hb : Bad (l.drop pos)) : decF l = (acc, pos) := by
  rw [h.2.1, decF_bad hb]; simp
theorem at_end {l : List UInt8} {pos : Nat} {acc : List Int} (h : At l pos acc) (hp : ¬ pos < l.length) : decF l = (acc, l.length) := by
  have e : pos = l.length := by have := h.1; omega
  rw [h.2.1, e, List.drop_length]; simp [decF_nil]
theorem at_good {l : List UInt8} {pos : Nat} {acc : List Int} (h : At l pos acc) (hp : pos < l.length) (hb : ¬ Bad (l.drop pos)) :
    At l (pos + (Lib.decodeL (l.drop pos)).2) (acc ++ [((Lib.decodeL (l.drop pos)).1 : Int)]) := by
  have hne : l.drop pos ≠ [] := by intro e; have := congrArg List.length e; rw [List.length_drop, List.length_nil] at this; omega
  have hle := Lib.decodeL_le (l.drop pos) hne
  have hw := Lib.decodeL_width (l.drop pos)
  rw [List.length_drop] at hle
  refine ⟨by omega, ?_, by rw [List.length_append, List.length_singleton]; have := h.2.2; omega⟩
  rw [h.2.1, decF_good hne hb, List.drop_drop]
  simp only [List.append_assoc, List.singleton_append, Nat.add_assoc]

/-- what Decode answers -/
def DecPost (l : List UInt8) (w : World) (e : Ending) (w' : World) : Prop :=
  ∃ v, e = .returned (.tuple #[v, .int .i64 (decF l).2]) ∧ w'.ownsRow w.heap.size 21 1 v (decF l).1.length ((decF l).1.map (Value.int .i32)) ∧ Below w.heap.size w w'

theorem rd_one (w : World) (B : Nat) (z : Int) (hB : w.heap.size < B) : Rd (w.alloc (.cells #[.int .i32 z] 21)) B (some ⟨w.heap.size, 0, none⟩) ([z].map (Value.int .i32)) :=
  rd_new w ([z].map (Value.int .i32)) 21 hB

theorem iter_stays {w w' : World} {N pos : Nat} {s : ByteArray} (h : w.heap[N]? = some (.stringIter s pos)) (hb : Below w.heap.size w w') : w'.heap[N]? = some (.stringIter s pos) :=
  (hb.block N (Array.getElem?_eq_some_iff.1 h).1).trans h

theorem iter_append {w w' : World} {N pos e size n : Nat} {s : ByteArray} {v : Value} {xs : List Value} (h : w.heap[N]? = some (.stringIter s pos)) (hown : w.ownsRow (N + 1) e size v n xs) (hg : w.grownBy w' v.ownBlock) : w'.heap[N]? = some (.stringIter s pos) :=
  (hg.block N (Array.getElem?_eq_some_iff.1 h).1 (fun e => by have := (hown.lt N e.symm).1; omega)).trans h

theorem decodeGo_cut (s : ByteArray) (pos : Nat) (h : pos < s.size) : Lib.decodeGo (s.extract pos s.size) = Utf8.decode s pos := by
  unfold Lib.decodeGo
  rw [if_neg (by rw [ByteArray.size_extract]; omega), Lib.tail_decode, Nat.add_zero]

/-- bytes in memory make the string of those bytes -/
theorem str_bytes {P : Program} {w : World} {B : Nat} {A : Option Addr} {n c : Nat} {s : ByteArray} (src e dst : TypeId) (hs : P.underlying src = some (.slice e)) (he : P.underlying e = some (.int .u8)) (hd : P.underlying dst = some .string)
    (hl : s.size = n) (h : Rd w B A (Lib.byteCells s.data.toList)) : (convert src dst (.slice A n c)).run P w = .ok (.string s) w := by
  have e1 : Lib.byteCells s.data.toList = (ints s.data.toList).map (Value.int .u8) := by simp [Lib.byteCells, ints]
  rw [e1] at h
  rw [str_rd src e dst hs he hd (by simp [ints, hl]) h]
  have e2 : strOfNums (ints s.data.toList) = s := by
    unfold strOfNums ints
    rw [List.map_map]
    have : ((fun n : Int => UInt8.ofNat n.toNat) ∘ fun b : UInt8 => (b.toNat : Int)) = id := by funext b; simp
    rw [this, List.map_id]
  rw [e2]

/-- numbers that are bytes are those of a text -/
theorem string_of {zs : List Int} (h : ∀ z ∈ zs, (Lit.int .u8 z).wf = true) : ∃ s : ByteArray, ints s.data.toList = zs := by
  refine ⟨⟨(zs.map fun z => z.toNat.toUInt8).toArray⟩, ?_⟩
  show ints (zs.map fun z => z.toNat.toUInt8) = zs
  unfold ints
  rw [List.map_map]
  have e : ∀ z ∈ zs, ((fun b : UInt8 => (b.toNat : Int)) ∘ fun z : Int => z.toNat.toUInt8) z = id z := fun z hz => by
    have hb : 0 ≤ z ∧ z ≤ 255 := by simpa [Lit.wf, IntKind.min, IntKind.max, IntKind.signed, IntKind.bits] using h z hz
    exact byte_of z hb.1 (by omega)
  rw [List.map_congr_left e, List.map_id]

theorem Decode_string (s : ByteArray) (w : World) (hs : s.size ≤ 35184372088832) (hT : Lib.Utf8Tabs 0 1 w) :
    Calls Tryd.prog 22 #[.string s] w (DecPost s.data.toList w) := by
  obtain ⟨i0, hi0, hz0, hz1, hz2⟩ := info_parts rune_info
  have HT := hide hT
  clear hT
  go_enter Tryd.func22, Tryd.ntmps22
  go_wp2
  go_loopw [5] (fun v wr => ∃ (pos : Nat) (acc : List Int), wr.heap[w.heap.size]? = some (.stringIter s pos) ∧ wr.ownsRow (w.heap.size + 1) 21 1 v acc.length (acc.map (Value.int .i32)) ∧ Below w.heap.size w wr ∧ Hid (At s.data.toList pos acc)) (fun _ wr => s.size - wr.iterPos w.heap.size)
  case atStart => exact ⟨0, [], World.iter_heap _ _ _, World.ownsRow_nil _ _ _ _, (Below.refl _ _).alloc (Nat.le_refl _) _, at_start _⟩
  case round =>
    obtain ⟨pos, acc, hit, hown, hb, hat⟩ := hrel
    obtain ⟨Av, cv, rfl, _, _⟩ := own_slice hown
    by_cases hlt : pos < s.size
    · have hnx := fun ty => Lib.run_next_any_at (P := Tryd.prog) _ w.heap.size s pos ty hit hlt
      have hla := hat.out.2.2
      have hcut := decodeGo_cut s pos hlt
      have hdl := Lib.decodeL_drop s pos
      obtain ⟨r, n, hd⟩ : ∃ r n, Utf8.decode s pos = (r, n) := ⟨_, _, rfl⟩
      have hr := Lib.decodeL_rune (s.data.toList.drop pos)
      rw [hdl, hd] at hr
      rw [hd] at hnx hcut hdl
      dsimp only at hnx hr
      have HCUT := hide hcut
      have HDL := hide hdl
      clear hcut hdl hd
      have hsz : w.heap.size + 1 ≤ wr.heap.size := (Array.getElem?_eq_some_iff.1 hit).1
      have hb1 := Lib.below_iterAt hb (k := w.heap.size) (Nat.le_refl _) s (pos + n)
      have hit1   := Lib.iterAt_heap _ _ _ _ (pos + n) hit
      have hown0 := ownsRow_iterAt hown (k := w.heap.size) (by omega) s (pos + n)
      by_cases h1 : r = 65533
      · subst h1
        go_wp2_with fail
        refine (Tryd.utf8_DecodeRuneInString _ _ (Utf8Tabs_below HT.out hb1)).mono ?_
        rintro e w3 ⟨rfl, hb3⟩
        rw [HCUT.out]
        dsimp only
        have hb13 := hb1.trans (hb3.mono hb1.size)
        have hown3 := own_below hown0 hb3
        have hit3 := iter_stays hit1 hb3
        have hsz3 : w.heap.size + 1 ≤ w3.heap.size := (Array.getElem?_eq_some_iff.1 hit3).1
        by_cases h2 : n = 1
        · subst h2
          go_wp2_with fail
          go_ret2
          have hbad := at_bad hat.out ⟨by rw [HDL.out], by rw [HDL.out]⟩
          refine ⟨.slice Av acc.length cv, by rw [hbad]; rfl, ?_, hb13⟩
          rw [hbad]
          exact own_more hown3 (by omega)
        · have hn2 : (((n : Nat) : Int) == 1) = false := by rw [beq_eq_false_iff_ne]; omega
          have hown1 := hown3.alloc (.cells #[.int .i32 65533] 21)
          go_wp2_with (at_builtin; refine wpList_append_rd _ rfl _ _ 26 rfl (w.heap.size + 1) 21 i0 (.int .i32 0) 1 4 Tryd.underlying26 hi0 hz0 hz1 hz2 rfl (by decide) _ _ _ rfl hown1 _ _ 1 1 _ rfl ?c1 (rd_one _ _ _ (Nat.lt_succ_self _)) (one_i32 _) ?c2 ?c3 ?c4 ?_)
          case c1 => rfl
          case c2 => simp only [maxLen]; omega
          case c3 => omega
          case c4 => exact Nat.le_trans hsz3 (by simp)
          intro v2 w2 hown2 hg2 _
          have hb4 := below_append (hb13.alloc hb13.size _) hown1 (Nat.le_succ _) hg2 (Nat.le_trans hb13.size (by simp))
          have hit4 := iter_append (iter_stays hit3 ((Below.refl _ _).alloc (Nat.le_refl _) _)) hown1 hg2
          go_wp2_with fail
          go_roundw
          case rel =>
            refine ⟨pos + n, acc ++ [65533], hit4, ?_, hb4, ?_⟩
            · rw [List.length_append, List.map_append]
              exact hown2
            · have := at_good hat.out (by simpa using hlt) (by unfold Bad; rw [HDL.out]; intro hh; exact h2 hh.2)
              rw [HDL.out] at this
              exact this
          case measure => rw [iterPos_of hit, iterPos_of hit4]; have hw := Lib.decodeL_width (s.data.toList.drop pos); rw [HDL.out] at hw; dsimp only at hw; omega
      · have hne : (((r : Nat) : Int) == 65533) = false := by rw [beq_eq_false_iff_ne]; omega
        have hown1 := hown0.alloc (.cells #[.int .i32 r] 21)
        go_wp2_with (at_builtin; refine wpList_append_rd _ rfl _ _ 26 rfl (w.heap.size + 1) 21 i0 (.int .i32 0) 1 4 Tryd.underlying26 hi0 hz0 hz1 hz2 rfl (by decide) _ _ _ rfl hown1 _ _ 1 1 _ rfl ?c1 (rd_one _ _ _ (Nat.lt_succ_self _)) (one_i32 _) ?c2 ?c3 ?c4 ?_)
        case c1 => rfl
        case c2 => simp only [maxLen]; omega
        case c3 => omega
        case c4 => exact Nat.le_trans hsz (by simp [Lib.iterAt_size])
        intro v2 w2 hown2 hg2 _
        have hb4 := below_append (hb1.alloc hb1.size _) hown1 (Nat.le_succ _) hg2 (Nat.le_trans hb1.size (by simp))
        have hit4 := iter_append (iter_stays hit1 ((Below.refl _ _).alloc (Nat.le_refl _) _)) hown1 hg2
        go_wp2_with fail
        go_roundw
        case rel =>
          refine ⟨pos + n, acc ++ [(r : Int)], hit4, ?_, hb4, ?_⟩
          · rw [List.length_append, List.map_append]
            exact hown2
          · have := at_good hat.out (by simpa using hlt) (by unfold Bad; rw [HDL.out]; intro hh; exact h1 hh.1)
            rw [HDL.out] at this
            exact this
        case measure => rw [iterPos_of hit, iterPos_of hit4]; have hw := Lib.decodeL_width (s.data.toList.drop pos); rw [HDL.out] at hw; dsimp only at hw; omega
    · have hnx := fun ty => Lib.run_next_end_at (P := Tryd.prog) _ w.heap.size s pos ty hit hlt
      go_wp2
      go_ret2
      have hend := at_end hat.out (by simpa using hlt)
      have hsl : s.data.toList.length = s.size := by simp
      refine ⟨.slice Av acc.length cv, by rw [hend, hsl]; rfl, ?_, hb⟩
      rw [hend]
      exact own_more hown (by omega)

/-! variants -/
theorem Decode_bytes (A : Option Addr) (na c B : Nat) (s : ByteArray) (w : World) (hrd : Rd w B A (Lib.byteCells s.data.toList)) (hsn : s.size = na) (hs : s.size ≤ 35184372088832) (hT : Lib.Utf8Tabs 0 1 w) :
    Calls Tryd.prog 24 #[.slice A na c] w (DecPost s.data.toList w) := by
  obtain ⟨i0, hi0, hz0, hz1, hz2⟩ := info_parts rune_info
  have hcv := str_bytes (P := Tryd.prog) (c := c) 24 5 9 Tryd.underlying24 Tryd.underlying5 Tryd.underlying9 hsn hrd
  clear hsn
  have HT := hide hT
  clear hT
  go_enter Tryd.func24, Tryd.ntmps24
  go_wp2
  go_loopw [5] (fun v wr => ∃ (pos : Nat) (acc : List Int), wr.heap[w.heap.size]? = some (.stringIter s pos) ∧ wr.ownsRow (w.heap.size + 1) 21 1 v acc.length (acc.map (Value.int .i32)) ∧ Below w.heap.size w wr ∧ Hid (At s.data.toList pos acc)) (fun _ wr => s.size - wr.iterPos w.heap.size)
  case atStart => exact ⟨0, [], World.iter_heap _ _ _, World.ownsRow_nil _ _ _ _, (Below.refl _ _).alloc (Nat.le_refl _) _, at_start _⟩
  case round =>
    obtain ⟨pos, acc, hit, hown, hb, hat⟩ := hrel
    obtain ⟨Av, cv, rfl, _, _⟩ := own_slice hown
    by_cases hlt : pos < s.size
    · have hnx := fun ty => Lib.run_next_any_at (P := Tryd.prog) _ w.heap.size s pos ty hit hlt
      have hla := hat.out.2.2
      have hcut := decodeGo_cut s pos hlt
      have hdl := Lib.decodeL_drop s pos
      obtain ⟨r, n, hd⟩ : ∃ r n, Utf8.decode s pos = (r, n) := ⟨_, _, rfl⟩
      have hr := Lib.decodeL_rune (s.data.toList.drop pos)
      rw [hdl, hd] at hr
      rw [hd] at hnx hcut hdl
      dsimp only at hnx hr
      have HCUT := hide hcut
      have HDL := hide hdl
      clear hcut hdl hd
      have hsz : w.heap.size + 1 ≤ wr.heap.size := (Array.getElem?_eq_some_iff.1 hit).1
      have hb1 := Lib.below_iterAt hb (k := w.heap.size) (Nat.le_refl _) s (pos + n)
      have hit1   := Lib.iterAt_heap _ _ _ _ (pos + n) hit
      have hown0 := ownsRow_iterAt hown (k := w.heap.size) (by omega) s (pos + n)
      by_cases h1 : r = 65533
      · subst h1
        go_wp2_with fail
        refine (Tryd.utf8_DecodeRuneInString _ _ (Utf8Tabs_below HT.out hb1)).mono ?_
        rintro e w3 ⟨rfl, hb3⟩
        rw [HCUT.out]
        dsimp only
        have hb13 := hb1.trans (hb3.mono hb1.size)
        have hown3 := own_below hown0 hb3
        have hit3 := iter_stays hit1 hb3
        have hsz3 : w.heap.size + 1 ≤ w3.heap.size := (Array.getElem?_eq_some_iff.1 hit3).1
        by_cases h2 : n = 1
        · subst h2
          go_wp2_with fail
          go_ret2
          have hbad := at_bad hat.out ⟨by rw [HDL.out], by rw [HDL.out]⟩
          refine ⟨.slice Av acc.length cv, by rw [hbad]; rfl, ?_, hb13⟩
          rw [hbad]
          exact own_more hown3 (by omega)
        · have hn2 : (((n : Nat) : Int) == 1) = false := by rw [beq_eq_false_iff_ne]; omega
          have hown1 := hown3.alloc (.cells #[.int .i32 65533] 21)
          go_wp2_with (at_builtin; refine wpList_append_rd _ rfl _ _ 26 rfl (w.heap.size + 1) 21 i0 (.int .i32 0) 1 4 Tryd.underlying26 hi0 hz0 hz1 hz2 rfl (by decide) _ _ _ rfl hown1 _ _ 1 1 _ rfl ?c1 (rd_one _ _ _ (Nat.lt_succ_self _)) (one_i32 _) ?c2 ?c3 ?c4 ?_)
          case c1 => rfl
          case c2 => simp only [maxLen]; omega
          case c3 => omega
          case c4 => exact Nat.le_trans hsz3 (by simp)
          intro v2 w2 hown2 hg2 _
          have hb4 := below_append (hb13.alloc hb13.size _) hown1 (Nat.le_succ _) hg2 (Nat.le_trans hb13.size (by simp))
          have hit4 := iter_append (iter_stays hit3 ((Below.refl _ _).alloc (Nat.le_refl _) _)) hown1 hg2
          go_wp2_with fail
          go_roundw
          case rel =>
            refine ⟨pos + n, acc ++ [65533], hit4, ?_, hb4, ?_⟩
            · rw [List.length_append, List.map_append]
              exact hown2
            · have := at_good hat.out (by simpa using hlt) (by unfold Bad; rw [HDL.out]; intro hh; exact h2 hh.2)
              rw [HDL.out] at this
              exact this
          case measure => rw [iterPos_of hit, iterPos_of hit4]; have hw := Lib.decodeL_width (s.data.toList.drop pos); rw [HDL.out] at hw; dsimp only at hw; omega
      · have hne : (((r : Nat) : Int) == 65533) = false := by rw [beq_eq_false_iff_ne]; omega
        have hown1 := hown0.alloc (.cells #[.int .i32 r] 21)
        go_wp2_with (at_builtin; refine wpList_append_rd _ rfl _ _ 26 rfl (w.heap.size + 1) 21 i0 (.int .i32 0) 1 4 Tryd.underlying26 hi0 hz0 hz1 hz2 rfl (by decide) _ _ _ rfl hown1 _ _ 1 1 _ rfl ?c1 (rd_one _ _ _ (Nat.lt_succ_self _)) (one_i32 _) ?c2 ?c3 ?c4 ?_)
        case c1 => rfl
        case c2 => simp only [maxLen]; omega
        case c3 => omega
        case c4 => exact Nat.le_trans hsz (by simp [Lib.iterAt_size])
        intro v2 w2 hown2 hg2 _
        have hb4 := below_append (hb1.alloc hb1.size _) hown1 (Nat.le_succ _) hg2 (Nat.le_trans hb1.size (by simp))
        have hit4 := iter_append (iter_stays hit1 ((Below.refl _ _).alloc (Nat.le_refl _) _)) hown1 hg2
        go_wp2_with fail
        go_roundw
        case rel =>
          refine ⟨pos + n, acc ++ [(r : Int)], hit4, ?_, hb4, ?_⟩
          · rw [List.length_append, List.map_append]
            exact hown2
          · have := at_good hat.out (by simpa using hlt) (by unfold Bad; rw [HDL.out]; intro hh; exact h1 hh.1)
            rw [HDL.out] at this
            exact this
        case measure => rw [iterPos_of hit, iterPos_of hit4]; have hw := Lib.decodeL_width (s.data.toList.drop pos); rw [HDL.out] at hw; dsimp only at hw; omega
    · have hnx := fun ty => Lib.run_next_end_at (P := Tryd.prog) _ w.heap.size s pos ty hit hlt
      go_wp2
      go_ret2
      have hend := at_end hat.out (by simpa using hlt)
      have hsl : s.data.toList.length = s.size := by simp
      refine ⟨.slice Av acc.length cv, by rw [hend, hsl]; rfl, ?_, hb⟩
      rw [hend]
      exact own_more hown (by omega)

theorem Decode_octets (A : Option Addr) (na c B : Nat) (s : ByteArray) (w : World) (hrd : Rd w B A (Lib.byteCells s.data.toList)) (hsn : s.size = na) (hs : s.size ≤ 35184372088832) (hT : Lib.Utf8Tabs 0 1 w) :
    Calls Tryd.prog 40 #[.slice A na c] w (DecPost s.data.toList w) := by
  obtain ⟨i0, hi0, hz0, hz1, hz2⟩ := info_parts rune_info
  have hcv := str_bytes (P := Tryd.prog) (c := c) 57 5 9 Tryd.underlying57 Tryd.underlying5 Tryd.underlying9 hsn hrd
  clear hsn
  have HT := hide hT
  clear hT
  go_enter Tryd.func40, Tryd.ntmps40
  go_wp2
  go_loopw [5] (fun v wr => ∃ (pos : Nat) (acc : List Int), wr.heap[w.heap.size]? = some (.stringIter s pos) ∧ wr.ownsRow (w.heap.size + 1) 21 1 v acc.length (acc.map (Value.int .i32)) ∧ Below w.heap.size w wr ∧ Hid (At s.data.toList pos acc)) (fun _ wr => s.size - wr.iterPos w.heap.size)
  case atStart => exact ⟨0, [], World.iter_heap _ _ _, World.ownsRow_nil _ _ _ _, (Below.refl _ _).alloc (Nat.le_refl _) _, at_start _⟩
  case round =>
    obtain ⟨pos, acc, hit, hown, hb, hat⟩ := hrel
    obtain ⟨Av, cv, rfl, _, _⟩ := own_slice hown
    by_cases hlt : pos < s.size
    · have hnx := fun ty => Lib.run_next_any_at (P := Tryd.prog) _ w.heap.size s pos ty hit hlt
      have hla := hat.out.2.2
      have hcut := decodeGo_cut s pos hlt
      have hdl := Lib.decodeL_drop s pos
      obtain ⟨r, n, hd⟩ : ∃ r n, Utf8.decode s pos = (r, n) := ⟨_, _, rfl⟩
      have hr := Lib.decodeL_rune (s.data.toList.drop pos)
      rw [hdl, hd] at hr
      rw [hd] at hnx hcut hdl
      dsimp only at hnx hr
      have HCUT := hide hcut
      have HDL := hide hdl
      clear hcut hdl hd
      have hsz : w.heap.size + 1 ≤ wr.heap.size := (Array.getElem?_eq_some_iff.1 hit).1
      have hb1 := Lib.below_iterAt hb (k := w.heap.size) (Nat.le_refl _) s (pos + n)
      have hit1   := Lib.iterAt_heap _ _ _ _ (pos + n) hit
      have hown0 := ownsRow_iterAt hown (k := w.heap.size) (by omega) s (pos + n)
      by_cases h1 : r = 65533
      · subst h1
        go_wp2_with fail
        refine (Tryd.utf8_DecodeRuneInString _ _ (Utf8Tabs_below HT.out hb1)).mono ?_
        rintro e w3 ⟨rfl, hb3⟩
        rw [HCUT.out]
        dsimp only
        have hb13 := hb1.trans (hb3.mono hb1.size)
        have hown3 := own_below hown0 hb3
        have hit3 := iter_stays hit1 hb3
        have hsz3 : w.heap.size + 1 ≤ w3.heap.size := (Array.getElem?_eq_some_iff.1 hit3).1
        by_cases h2 : n = 1
        · subst h2
          go_wp2_with fail
          go_ret2
          have hbad := at_bad hat.out ⟨by rw [HDL.out], by rw [HDL.out]⟩
          refine ⟨.slice Av acc.length cv, by rw [hbad]; rfl, ?_, hb13⟩
          rw [hbad]
          exact own_more hown3 (by omega)
        · have hn2 : (((n : Nat) : Int) == 1) = false := by rw [beq_eq_false_iff_ne]; omega
          have hown1 := hown3.alloc (.cells #[.int .i32 65533] 21)
          go_wp2_with (at_builtin; refine wpList_append_rd _ rfl _ _ 26 rfl (w.heap.size + 1) 21 i0 (.int .i32 0) 1 4 Tryd.underlying26 hi0 hz0 hz1 hz2 rfl (by decide) _ _ _ rfl hown1 _ _ 1 1 _ rfl ?c1 (rd_one _ _ _ (Nat.lt_succ_self _)) (one_i32 _) ?c2 ?c3 ?c4 ?_)
          case c1 => rfl
          case c2 => simp only [maxLen]; omega
          case c3 => omega
          case c4 => exact Nat.le_trans hsz3 (by simp)
          intro v2 w2 hown2 hg2 _
          have hb4 := below_append (hb13.alloc hb13.size _) hown1 (Nat.le_succ _) hg2 (Nat.le_trans hb13.size (by simp))
          have hit4 := iter_append (iter_stays hit3 ((Below.refl _ _).alloc (Nat.le_refl _) _)) hown1 hg2
          go_wp2_with fail
          go_roundw
          case rel =>
            refine ⟨pos + n, acc ++ [65533], hit4, ?_, hb4, ?_⟩
            · rw [List.length_append, List.map_append]
              exact hown2
            · have := at_good hat.out (by simpa using hlt) (by unfold Bad; rw [HDL.out]; intro hh; exact h2 hh.2)
              rw [HDL.out] at this
              exact this
          case measure => rw [iterPos_of hit, iterPos_of hit4]; have hw := Lib.decodeL_width (s.data.toList.drop pos); rw [HDL.out] at hw; dsimp only at hw; omega
      · have hne : (((r : Nat) : Int) == 65533) = false := by rw [beq_eq_false_iff_ne]; omega
        have hown1 := hown0.alloc (.cells #[.int .i32 r] 21)
        go_wp2_with (at_builtin; refine wpList_append_rd _ rfl _ _ 26 rfl (w.heap.size + 1) 21 i0 (.int .i32 0) 1 4 Tryd.underlying26 hi0 hz0 hz1 hz2 rfl (by decide) _ _ _ rfl hown1 _ _ 1 1 _ rfl ?c1 (rd_one _ _ _ (Nat.lt_succ_self _)) (one_i32 _) ?c2 ?c3 ?c4 ?_)
        case c1 => rfl
        case c2 => simp only [maxLen]; omega
        case c3 => omega
        case c4 => exact Nat.le_trans hsz (by simp [Lib.iterAt_size])
        intro v2 w2 hown2 hg2 _
        have hb4 := below_append (hb1.alloc hb1.size _) hown1 (Nat.le_succ _) hg2 (Nat.le_trans hb1.size (by simp))
        have hit4 := iter_append (iter_stays hit1 ((Below.refl _ _).alloc (Nat.le_refl _) _)) hown1 hg2
        go_wp2_with fail
        go_roundw
        case rel =>
          refine ⟨pos + n, acc ++ [(r : Int)], hit4, ?_, hb4, ?_⟩
          · rw [List.length_append, List.map_append]
            exact hown2
          · have := at_good hat.out (by simpa using hlt) (by unfold Bad; rw [HDL.out]; intro hh; exact h1 hh.1)
            rw [HDL.out] at this
            exact this
        case measure => rw [iterPos_of hit, iterPos_of hit4]; have hw := Lib.decodeL_width (s.data.toList.drop pos); rw [HDL.out] at hw; dsimp only at hw; omega
    · have hnx := fun ty => Lib.run_next_end_at (P := Tryd.prog) _ w.heap.size s pos ty hit hlt
      go_wp2
      go_ret2
      have hend := at_end hat.out (by simpa using hlt)
      have hsl : s.data.toList.length = s.size := by simp
      refine ⟨.slice Av acc.length cv, by rw [hend, hsl]; rfl, ?_, hb⟩
      rw [hend]
      exact own_more hown (by omega)

theorem Decode_text (s : ByteArray) (w : World) (hs : s.size ≤ 35184372088832) (hT : Lib.Utf8Tabs 0 1 w) :
    Calls Tryd.prog 39 #[.string s] w (DecPost s.data.toList w) := by
  obtain ⟨i0, hi0, hz0, hz1, hz2⟩ := info_parts rune_info
  have HT := hide hT
  clear hT
  go_enter Tryd.func39, Tryd.ntmps39
  go_wp2
  go_loopw [5] (fun v wr => ∃ (pos : Nat) (acc : List Int), wr.heap[w.heap.size]? = some (.stringIter s pos) ∧ wr.ownsRow (w.heap.size + 1) 21 1 v acc.length (acc.map (Value.int .i32)) ∧ Below w.heap.size w wr ∧ Hid (At s.data.toList pos acc)) (fun _ wr => s.size - wr.iterPos w.heap.size)
  case atStart => exact ⟨0, [], World.iter_heap _ _ _, World.ownsRow_nil _ _ _ _, (Below.refl _ _).alloc (Nat.le_refl _) _, at_start _⟩
  case round =>
    obtain ⟨pos, acc, hit, hown, hb, hat⟩ := hrel
    obtain ⟨Av, cv, rfl, _, _⟩ := own_slice hown
    by_cases hlt : pos < s.size
    · have hnx := fun ty => Lib.run_next_any_at (P := Tryd.prog) _ w.heap.size s pos ty hit hlt
      have hla := hat.out.2.2
      have hcut := decodeGo_cut s pos hlt
      have hdl := Lib.decodeL_drop s pos
      obtain ⟨r, n, hd⟩ : ∃ r n, Utf8.decode s pos = (r, n) := ⟨_, _, rfl⟩
      have hr := Lib.decodeL_rune (s.data.toList.drop pos)
      rw [hdl, hd] at hr
      rw [hd] at hnx hcut hdl
      dsimp only at hnx hr
      have HCUT := hide hcut
      have HDL := hide hdl
      clear hcut hdl hd
      have hsz : w.heap.size + 1 ≤ wr.heap.size := (Array.getElem?_eq_some_iff.1 hit).1
      have hb1 := Lib.below_iterAt hb (k := w.heap.size) (Nat.le_refl _) s (pos + n)
      have hit1   := Lib.iterAt_heap _ _ _ _ (pos + n) hit
      have hown0 := ownsRow_iterAt hown (k := w.heap.size) (by omega) s (pos + n)
      by_cases h1 : r = 65533
      · subst h1
        go_wp2_with fail
        refine (Tryd.utf8_DecodeRuneInString _ _ (Utf8Tabs_below HT.out hb1)).mono ?_
        rintro e w3 ⟨rfl, hb3⟩
        rw [HCUT.out]
        dsimp only
        have hb13 := hb1.trans (hb3.mono hb1.size)
        have hown3 := own_below hown0 hb3
        have hit3 := iter_stays hit1 hb3
        have hsz3 : w.heap.size + 1 ≤ w3.heap.size := (Array.getElem?_eq_some_iff.1 hit3).1
        by_cases h2 : n = 1
        · subst h2
          go_wp2_with fail
          go_ret2
          have hbad := at_bad hat.out ⟨by rw [HDL.out], by rw [HDL.out]⟩
          refine ⟨.slice Av acc.length cv, by rw [hbad]; rfl, ?_, hb13⟩
          rw [hbad]
          exact own_more hown3 (by omega)
        · have hn2 : (((n : Nat) : Int) == 1) = false := by rw [beq_eq_false_iff_ne]; omega
          have hown1 := hown3.alloc (.cells #[.int .i32 65533] 21)
          go_wp2_with (at_builtin; refine wpList_append_rd _ rfl _ _ 26 rfl (w.heap.size + 1) 21 i0 (.int .i32 0) 1 4 Tryd.underlying26 hi0 hz0 hz1 hz2 rfl (by decide) _ _ _ rfl hown1 _ _ 1 1 _ rfl ?c1 (rd_one _ _ _ (Nat.lt_succ_self _)) (one_i32 _) ?c2 ?c3 ?c4 ?_)
          case c1 => rfl
          case c2 => simp only [maxLen]; omega
          case c3 => omega
          case c4 => exact Nat.le_trans hsz3 (by simp)
          intro v2 w2 hown2 hg2 _
          have hb4 := below_append (hb13.alloc hb13.size _) hown1 (Nat.le_succ _) hg2 (Nat.le_trans hb13.size (by simp))
          have hit4 := iter_append (iter_stays hit3 ((Below.refl _ _).alloc (Nat.le_refl _) _)) hown1 hg2
          go_wp2_with fail
          go_roundw
          case rel =>
            refine ⟨pos + n, acc ++ [65533], hit4, ?_, hb4, ?_⟩
            · rw [List.length_append, List.map_append]
              exact hown2
            · have := at_good hat.out (by simpa using hlt) (by unfold Bad; rw [HDL.out]; intro hh; exact h2 hh.2)
              rw [HDL.out] at this
              exact this
          case measure => rw [iterPos_of hit, iterPos_of hit4]; have hw := Lib.decodeL_width (s.data.toList.drop pos); rw [HDL.out] at hw; dsimp only at hw; omega
      · have hne : (((r : Nat) : Int) == 65533) = false := by rw [beq_eq_false_iff_ne]; omega
        have hown1 := hown0.alloc (.cells #[.int .i32 r] 21)
        go_wp2_with (at_builtin; refine wpList_append_rd _ rfl _ _ 26 rfl (w.heap.size + 1) 21 i0 (.int .i32 0) 1 4 Tryd.underlying26 hi0 hz0 hz1 hz2 rfl (by decide) _ _ _ rfl hown1 _ _ 1 1 _ rfl ?c1 (rd_one _ _ _ (Nat.lt_succ_self _)) (one_i32 _) ?c2 ?c3 ?c4 ?_)
        case c1 => rfl
        case c2 => simp only [maxLen]; omega
        case c3 => omega
        case c4 => exact Nat.le_trans hsz (by simp [Lib.iterAt_size])
        intro v2 w2 hown2 hg2 _
        have hb4 := below_append (hb1.alloc hb1.size _) hown1 (Nat.le_succ _) hg2 (Nat.le_trans hb1.size (by simp))
        have hit4 := iter_append (iter_stays hit1 ((Below.refl _ _).alloc (Nat.le_refl _) _)) hown1 hg2
        go_wp2_with fail
        go_roundw
        case rel =>
          refine ⟨pos + n, acc ++ [(r : Int)], hit4, ?_, hb4, ?_⟩
          · rw [List.length_append, List.map_append]
            exact hown2
          · have := at_good hat.out (by simpa using hlt) (by unfold Bad; rw [HDL.out]; intro hh; exact h1 hh.1)
            rw [HDL.out] at this
            exact this
        case measure => rw [iterPos_of hit, iterPos_of hit4]; have hw := Lib.decodeL_width (s.data.toList.drop pos); rw [HDL.out] at hw; dsimp only at hw; omega
    · have hnx := fun ty => Lib.run_next_end_at (P := Tryd.prog) _ w.heap.size s pos ty hit hlt
      go_wp2
      go_ret2
      have hend := at_end hat.out (by simpa using hlt)
      have hsl : s.data.toList.length = s.size := by simp
      refine ⟨.slice Av acc.length cv, by rw [hend, hsl]; rfl, ?_, hb⟩
      rw [hend]
      exact own_more hown (by omega)
end Go.Proofs.YtomkkagopjpfkaaDoor.dec
