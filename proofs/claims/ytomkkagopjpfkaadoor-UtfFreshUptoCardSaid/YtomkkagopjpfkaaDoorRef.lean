/-
  The walks of the laws' helpers and of the reference's Decode, each once.
-/
import Derived.Test.YtomkkagopjpfkaaDoorDec
import Derived.Deep.QuietTactic
import Derived.BigQuiet
namespace Go.Proofs.YtomkkagopjpfkaaDoor.ref
open Go.RowKit
open Go.Proofs.YtomkkagopjpfkaaDoor.words Go.Proofs.YtomkkagopjpfkaaDoor.enc Go.Proofs.YtomkkagopjpfkaaDoor.utf Go.Proofs.YtomkkagopjpfkaaDoor.dec
set_option linter.unusedVariables false

theorem bytes_one (l : List UInt8) : ∀ u ∈ Lib.byteCells l, u.oneCell' = true := by
  intro u hu; unfold Lib.byteCells at hu; rw [List.mem_map] at hu; obtain ⟨x, _, rfl⟩ := hu; rfl
theorem bytes_len (l : List UInt8) : (Lib.byteCells l).length = l.length := by simp [Lib.byteCells]
theorem rd_byte {w : World} {B : Nat} {A : Option Addr} {l : List UInt8} {k : Nat} (h : Rd w B A (Lib.byteCells l)) (hk : k < l.length) :
    ∃ ad b, A = some ad ∧ l[k]? = some b ∧ ad.block < B ∧ w.cell? (ad.add k) = some (.int .u8 (b.toNat : Int)) := by
  obtain ⟨ad, e, hb, hc⟩ := h.at (k := k) (by rw [bytes_len]; exact hk)
  exact ⟨ad, l[k], e, List.getElem?_eq_getElem hk, hb, by rw [hc]; simp [Lib.byteCells]⟩

/-- a copy in new memory -/
theorem copied_any (A : Option Addr) (n c B : Nat) (l : List UInt8) (w : World) (hr : Rd w B A (Lib.byteCells l)) (hB : B ≤ w.heap.size) (hl : l.length = n) (hn : n ≤ 140737488355328) :
    Calls Tryd.prog 25 #[.slice A n c] w fun e w' => ∃ v, e = .returned v ∧ w'.ownsRow w.heap.size 5 1 v n (Lib.byteCells l) ∧ Below w.heap.size w w' := by
  obtain ⟨i0, hi0, hz0, hz1, hz2⟩ := info_parts byte_info
  have HL := hide hl
  clear hl
  go_enter Tryd.func25, Tryd.ntmps25
  go_wp2_with (at_make; refine wpList_make_own _ rfl _ _ 24 rfl w.heap.size 5 i0 (.int .u8 0) 1 Tryd.underlying24 hi0 hz0 hz1 _ _ _ n rfl rfl (by omega) ?b2 ?b3 (Nat.le_refl _) ?_)
  case b2 => rw [hz2]; omega
  case b3 => simp only [maxLen]; omega
  intro w1 hown1 hg1
  have hb1 : Below w.heap.size w w1 := (Below.refl _ _).grown hg1 (Nat.le_refl _) (fun k hk => by cases hk)
  have hr1 := hr.below' hb1 hB
  go_wp2_with (at_builtin; refine wpList_append_rd _ rfl _ _ 24 rfl w.heap.size 5 i0 (.int .u8 0) 1 1 Tryd.underlying24 hi0 hz0 hz1 hz2 rfl (by decide) _ 0 [] rfl hown1 B A n c (Lib.byteCells l) rfl ?c1 hr1 (bytes_one l) ?c2 ?c3 hb1.size ?_)
  case c1 => rw [bytes_len, HL.out, Nat.mul_one]
  case c2 => simp only [maxLen]; omega
  case c3 => omega
  intro v2 w2 hown2 hg2 _
  go_wp2
  go_ret
  exact ⟨_, rfl, by simpa using hown2, below_append hb1 hown1 (Nat.le_refl _) hg2 hb1.size⟩

theorem below_drewN' {B : Nat} {a w : World} (h : Below B a w) (n : Nat) : Below B a (w.drewN n) := below_drewN h n

/-- lists that are alike -/
theorem alike_yes (A A' : Option Addr) (n c c' B B' : Nat) (zs : List Int) (w : World) (hr : Rd w B A (zs.map (Value.int .i32))) (hr' : Rd w B' A' (zs.map (Value.int .i32))) (hl : zs.length = n) (hn : n ≤ maxLen) :
    Calls Tryd.prog 19 #[.slice A n c, .slice A' n c'] w fun e w' => e = .returned (.bool true) ∧ ∃ k, w' = w.drewN k := by
  unfold maxLen at hn
  have HL := hide hl
  clear hl
  go_enter Tryd.func19, Tryd.ntmps19
  go_wp2
  go_loopw [5] (fun i wr => ∃ k : Nat, k ≤ n ∧ i = .int .i64 k ∧ ∃ m, wr = w.drewN m) (fun i _ => n - (intOf i).toNat)
  case atStart => exact ⟨0, Nat.zero_le _, rfl, 0, rfl⟩
  case round =>
    obtain ⟨k, hk, rfl, m, rfl⟩ := hrel
    by_cases hlt : k < n
    · obtain ⟨ad, z, rfl, hz, had, hc⟩ := hr.i32 (k := k) (by rw [HL.out]; exact hlt)
      obtain ⟨ad', z', rfl, hz', had', hc'⟩ := hr'.i32 (k := k) (by rw [HL.out]; exact hlt)
      obtain rfl : z' = z := by rw [hz] at hz'; exact (Option.some.inj hz').symm
      clear hz hz'
      have hkI : (k : Int) < (n : Int) := by omega
      go_wp2_with fail
      go_quiet (fail)
      go_wp2_with fail
      go_roundw
      case rel => exact ⟨k + 1, by omega, by go_num, _, rfl⟩
      case measure => simp [intOf]; omega
    · go_wp2
      go_ret
      exact ⟨rfl, _, rfl⟩

theorem alike_b (A A' : Option Addr) (n c c' B B' : Nat) (zs : List Int) (w : World) (hr : Rd w B A (zs.map (Value.int .i32))) (hr' : Rd w B' A' (zs.map (Value.int .i32))) (hl : zs.length = n) (hn : n ≤ maxLen) :
    Calls Tryd.prog 19 #[.slice A n c, .slice A' n c'] w fun e w' => e = .returned (.bool true) ∧ Below w.heap.size w w' :=
  (alike_yes A A' n c c' B B' zs w hr hr' hl hn).mono fun _ _ ⟨he, m, hw⟩ => ⟨he, by rw [hw]; exact below_drewN (Below.refl _ _) _⟩

def sameB (l l' : List UInt8) : Bool := decide (l = l')
theorem ret_bool {a b : Bool} (h : a = b) : Ending.returned (.bool a) = .returned (.bool b) := by rw [h]
theorem take_snoc {α : Type} {l : List α} {k : Nat} {x : α} (h : l[k]? = some x) : l.take (k + 1) = l.take k ++ [x] := by
  obtain ⟨hk, rfl⟩ := List.getElem?_eq_some_iff.1 h
  exact List.take_succ_eq_append_getElem hk

/-- the same bytes, at lists of one length -/
theorem same_any (A A' : Option Addr) (n c c' B B' : Nat) (l l' : List UInt8) (w : World) (hr : Rd w B A (Lib.byteCells l)) (hr' : Rd w B' A' (Lib.byteCells l')) (hl : l.length = n) (hl' : l'.length = n) (hn : n ≤ maxLen) :
    Calls Tryd.prog 57 #[.slice A n c, .slice A' n c'] w fun e w' => e = .returned (.bool (sameB l l')) ∧ ∃ k, w' = w.drewN k := by
  unfold maxLen at hn
  have HL := hide hl
  have HL' := hide hl'
  clear hl hl'
  go_enter Tryd.func57, Tryd.ntmps57
  go_wp2
  go_loopw [5] (fun i wr => ∃ k : Nat, k ≤ n ∧ i = .int .i64 k ∧ Hid (l.take k = l'.take k) ∧ ∃ m, wr = w.drewN m) (fun i _ => n - (intOf i).toNat)
  case atStart => exact ⟨0, Nat.zero_le _, rfl, rfl, 0, rfl⟩
  case round =>
    obtain ⟨k, hk, rfl, heq, m, rfl⟩ := hrel
    by_cases hlt : k < n
    · obtain ⟨ad, z, rfl, hz, had, hc⟩ := rd_byte hr (k := k) (by rw [HL.out]; exact hlt)
      obtain ⟨ad', z', rfl, hz', had', hc'⟩ := rd_byte hr' (k := k) (by rw [HL'.out]; exact hlt)
      have HZ := hide hz
      have HZ' := hide hz'
      clear hz hz'
      have hkI : (k : Int) < (n : Int) := by omega
      by_cases hzz : z = z'
      · subst hzz
        go_wp2_with fail
        go_quiet (fail)
        go_wp2_with fail
        go_roundw
        case rel => exact ⟨k + 1, by omega, by go_num, (by show l.take (k + 1) = l'.take (k + 1); rw [take_snoc HZ.out, take_snoc HZ'.out, heq.out]), _, rfl⟩
        case measure => simp [intOf]; omega
      · have hne : ((z.toNat : Int) == (z'.toNat : Int)) = false := by
          rw [beq_eq_false_iff_ne]
          intro e
          exact hzz (UInt8.toNat_inj.1 (by omega))
        have hne' : ((z.toNat : Int) != (z'.toNat : Int)) = true := by rw [bne, hne]; rfl
        have hf : sameB l l' = false := decide_eq_false (fun e => hzz (by subst e; have h1 := HZ.out; rw [HZ'.out] at h1; exact (Option.some.inj h1).symm))
        have HF := hide hf
        clear hf hzz
        go_wp2_with fail
        go_quiet (fail)
        go_wp2_with fail
        go_ret
        exact ⟨ret_bool HF.out.symm, _, World.drewN_drewN _ _ _⟩
    · have ht : sameB l l' = true := decide_eq_true (by
        have := heq.out
        rw [List.take_of_length_le (by rw [HL.out]; omega), List.take_of_length_le (by rw [HL'.out]; omega)] at this
        exact this)
      have HT := hide ht
      clear ht
      go_wp2
      go_ret
      exact ⟨ret_bool HT.out.symm, _, rfl⟩

/-- are all of them scalar values? -/
theorem scalars_any (A : Option Addr) (n c B : Nat) (zs : List Int) (w : World) (hr : Rd w B A (zs.map (Value.int .i32))) (hl : zs.length = n) (hn : n ≤ maxLen) :
    Calls Tryd.prog 21 #[.slice A n c] w fun e w' => e = .returned (.bool (okL zs)) ∧ w = w' := by
  unfold maxLen at hn
  have HL := hide hl
  clear hl
  go_enter Tryd.func21, Tryd.ntmps21
  go_wp2
  go_loop [3] (fun i => ∃ k : Nat, k ≤ n ∧ i = .int .i64 k ∧ Hid (okL (zs.take k) = true)) (fun i => n - (intOf i).toNat)
  case atStart => exact ⟨0, Nat.zero_le _, rfl, rfl⟩
  case round =>
    obtain ⟨k, hk, rfl, hok⟩ := hrel
    by_cases hlt : k < n
    · obtain ⟨ad, z, rfl, hz, had, hc⟩ := hr.i32 (k := k) (by rw [HL.out]; exact hlt)
      have HZ := hide hz
      clear hz
      by_cases hv : Lib.validRune z = true
      · have hs : okL (zs.take (k + 1)) = true := by rw [okL_snoc HZ.out, hok.out, hv]; rfl
        have HS := hide hs
        have hr := runeZ z hv
        clear hs hv
        rcases hr with ⟨a1, a2⟩ | ⟨a1, a2⟩
        all_goals
          go_wp2_with fail
          go_round
          case rel => exact ⟨k + 1, by omega, by go_num, HS.out⟩
          case measure => simp [intOf]; omega
      · have hv' : Lib.validRune z = false := by simpa using hv
        have hf := hide (okL_bad HZ.out hv')
        have hr : z < 0 ∨ 1114111 < z ∨ (55296 ≤ z ∧ z ≤ 57343) := by
          have : ¬ ((0 ≤ z ∧ z < 55296) ∨ (57343 < z ∧ z ≤ 1114111)) := fun h => hv (decide_eq_true h)
          omega
        clear hv hv'
        rcases hr with a1 | a1 | ⟨a1, a2⟩
        all_goals
          go_wp2_with fail
          go_ret
          exact ⟨ret_bool hf.out.symm, rfl⟩
    · have ht : okL zs = true := by rw [← hok.out, List.take_of_length_le (by rw [HL.out]; omega)]
      have HT := hide ht
      clear ht
      go_wp2
      go_ret
      exact ⟨ret_bool HT.out.symm, rfl⟩

/-! Clean at its four types -/
theorem Clean_string (s : ByteArray) (w : World) (hs : s.size ≤ 35184372088832) (hT : Lib.Utf8Tabs 0 1 w) :
    Calls Tryd.prog 23 #[.string s] w fun e w' => e = .returned (.bool (Lib.validD s.data.toList)) ∧ Below w.heap.size w w' := by
  have HT := hide hT
  clear hT
  go_enter Tryd.func23, Tryd.ntmps23
  go_wp2_with fail
  refine (Tryd.utf8_ValidString s _ (by omega) HT.out).mono ?_
  rintro e w' ⟨rfl, hb⟩
  go_wp2
  go_ret
  exact ⟨rfl, hb⟩
theorem Clean_text (s : ByteArray) (w : World) (hs : s.size ≤ 35184372088832) (hT : Lib.Utf8Tabs 0 1 w) :
    Calls Tryd.prog 41 #[.string s] w fun e w' => e = .returned (.bool (Lib.validD s.data.toList)) ∧ Below w.heap.size w w' := by
  have HT := hide hT
  clear hT
  go_enter Tryd.func41, Tryd.ntmps41
  go_wp2_with fail
  refine (Tryd.utf8_ValidString s _ (by omega) HT.out).mono ?_
  rintro e w' ⟨rfl, hb⟩
  go_wp2
  go_ret
  exact ⟨rfl, hb⟩
theorem Clean_bytes (A : Option Addr) (n c B : Nat) (s : ByteArray) (w : World) (hrd : Rd w B A (Lib.byteCells s.data.toList)) (hsn : s.size = n) (hs : s.size ≤ 35184372088832) (hT : Lib.Utf8Tabs 0 1 w) :
    Calls Tryd.prog 26 #[.slice A n c] w fun e w' => e = .returned (.bool (Lib.validD s.data.toList)) ∧ Below w.heap.size w w' := by
  have hcv := str_bytes (P := Tryd.prog) (c := c) 24 5 9 Tryd.underlying24 Tryd.underlying5 Tryd.underlying9 hsn hrd
  have HT := hide hT
  clear hT hsn
  go_enter Tryd.func26, Tryd.ntmps26
  go_wp2_with fail
  refine (Tryd.utf8_ValidString s _ (by omega) HT.out).mono ?_
  rintro e w' ⟨rfl, hb⟩
  go_wp2
  go_ret
  exact ⟨rfl, hb⟩
theorem Clean_octets (A : Option Addr) (n c B : Nat) (s : ByteArray) (w : World) (hrd : Rd w B A (Lib.byteCells s.data.toList)) (hsn : s.size = n) (hs : s.size ≤ 35184372088832) (hT : Lib.Utf8Tabs 0 1 w) :
    Calls Tryd.prog 42 #[.slice A n c] w fun e w' => e = .returned (.bool (Lib.validD s.data.toList)) ∧ Below w.heap.size w w' := by
  have hcv := str_bytes (P := Tryd.prog) (c := c) 57 5 9 Tryd.underlying57 Tryd.underlying5 Tryd.underlying9 hsn hrd
  have HT := hide hT
  clear hT hsn
  go_enter Tryd.func42, Tryd.ntmps42
  go_wp2_with fail
  refine (Tryd.utf8_ValidString s _ (by omega) HT.out).mono ?_
  rintro e w' ⟨rfl, hb⟩
  go_wp2
  go_ret
  exact ⟨rfl, hb⟩

/-! the reference's number, One and Decode -/
def numGo (g : List Int) (k : Nat) : Int := ((g.take k).drop 1).foldl (fun n b => n * 64 + b % 64) (g.headD 0 % firstD g.length)
theorem numGo_all (g : List Int) : numGo g g.length = numL g := by unfold numGo numL; rw [List.take_length]
theorem numGo_snoc {g : List Int} {k : Nat} {b : Int} (hk : 1 ≤ k) (h : g[k]? = some b) : numGo g (k + 1) = numGo g k * 64 + b % 64 := by
  unfold numGo
  rw [take_snoc h, List.drop_append_of_le_length (by rw [List.length_take]; have := (List.getElem?_eq_some_iff.1 h).1; omega), List.foldl_append]
  rfl
theorem numGo_one {g : List Int} (h : g ≠ []) : numGo g 1 = g.headD 0 % firstD g.length := by
  cases g with
  | nil => exact absurd rfl h
  | cons x r => rfl
theorem firstD_at (n : Nat) (h1 : 1 ≤ n) (h4 : n ≤ 4) : 8 ≤ firstD n ∧ firstD n ≤ 128 := by
  have : n = 1 ∨ n = 2 ∨ n = 3 ∨ n = 4 := by omega
  rcases this with rfl | rfl | rfl | rfl <;> decide
theorem numGo_le (g : List Int) (h1 : 1 ≤ g.length) (h4 : g.length ≤ 4) : ∀ k, 1 ≤ k → k ≤ g.length → 0 ≤ numGo g k ∧ numGo g k < 128 * 64 ^ (k - 1)
  | 0, h, _ => by omega
  | 1, _, _ => by
    rw [numGo_one (by rintro rfl; simp at h1)]
    have hf := firstD_at g.length h1 h4
    have a := Int.emod_nonneg (g.headD 0) (b := firstD g.length) (by omega)
    have b := Int.emod_lt_of_pos (g.headD 0) (b := firstD g.length) (by omega)
    simp only [Nat.sub_self, Int.pow_zero]
    omega
  | k + 2, _, hk => by
    have ih := numGo_le g h1 h4 (k + 1) (by omega) (by omega)
    have hg : g[k + 1]? = some g[k + 1] := List.getElem?_eq_getElem (by omega)
    rw [numGo_snoc (by omega) hg]
    have e : (128 : Int) * 64 ^ (k + 2 - 1) = 128 * 64 ^ (k + 1 - 1) * 64 := by
      rw [show k + 2 - 1 = k + 1 from by omega, show k + 1 - 1 = k from by omega, Int.pow_succ]; omega
    rw [e]
    omega
theorem numGo_fits (g : List Int) (h1 : 1 ≤ g.length) (h4 : g.length ≤ 4) (k : Nat) (hk1 : 1 ≤ k) (hk : k ≤ g.length) : 0 ≤ numGo g k ∧ numGo g k ≤ 33554432 := by
  have h := numGo_le g h1 h4 k hk1 hk
  have : k = 1 ∨ k = 2 ∨ k = 3 ∨ k = 4 := by omega
  rcases this with rfl | rfl | rfl | rfl <;> simp at h <;> omega
theorem ints_at {l : List UInt8} {k : Nat} {b : UInt8} (h : l[k]? = some b) : (ints l)[k]? = some (b.toNat : Int) := by
  unfold ints; rw [List.getElem?_map, h]; rfl
theorem ints_len (l : List UInt8) : (ints l).length = l.length := by simp [ints]

theorem ret_i32 {a b : Int} (h : a = b) : Ending.returned (.int .i32 a) = .returned (.int .i32 b) := by rw [h]

theorem number_any (A : Option Addr) (n c B : Nat) (l : List UInt8) (w : World) (hr : Rd w B A (Lib.byteCells l)) (hl : l.length = n) (h1 : 1 ≤ n) (h4 : n ≤ 4) :
    Calls Tryd.prog 56 #[.slice A n c] w fun e w' => e = .returned (.int .i32 (numL (ints l))) ∧ Below w.heap.size w w' := by
  have HL := hide hl
  have hB : n = 1 ∨ n = 2 ∨ n = 3 ∨ n = 4 := by omega
  clear hl
  obtain ⟨ad, z, rfl, hz, had, hc⟩ := rd_byte hr (k := 0) (by rw [HL.out]; omega)
  have HZ := hide hz
  clear hz
  have hc0 : w.cell? ad = some (.int .u8 (z.toNat : Int)) := by rw [show ad.add 0 = ad by unfold Addr.add; simp] at hc; exact hc
  have hzb : (z.toNat : Int) ≤ 255 := by have := z.toNat_lt; omega
  have hc1 : ∀ o, (w.alloc o).cell? ad = some (.int .u8 (z.toNat : Int)) := fun o => (World.cell?_alloc_lt w o ad (World.block_lt_of_cell? w ad hc0)).trans hc0
  have hst : numGo (ints l) 1 = (z.toNat : Int) % firstD l.length := by
    have h0 := ints_at HZ.out
    rw [numGo_one (by rintro e; rw [e] at h0; simp at h0), ints_len]
    congr 1
    cases hh : ints l with
    | nil => rw [hh] at h0; simp at h0
    | cons x r => rw [hh] at h0; simpa using h0
  rw [HL.out] at hst
  have HST := hide hst
  clear hst
  have HG := hide (numGo_fits (ints l) (by rw [ints_len, HL.out]; exact h1) (by rw [ints_len, HL.out]; exact h4))
  rcases hB with rfl | rfl | rfl | rfl
  all_goals
    go_enter Tryd.func56, Tryd.ntmps56
    go_wp2_with fail
    go_quiet (fail)
    go_wp2_with fail
    go_loop [4, 5] (fun t i => ∃ k : Nat, 1 ≤ k ∧ k ≤ l.length ∧ i = .int .i64 k ∧ t = .int .i64 (numGo (ints l) k)) (fun _ i => 4 - (intOf i).toNat)
    case atStart => exact ⟨1, by omega, by rw [HL.out]; omega, rfl, by rw [HST.out]; rfl⟩
    case round =>
      obtain ⟨k, hk1, hk, rfl, rfl⟩ := hrel
      obtain ⟨g1, g2⟩ := HG.out k hk1 (by rw [ints_len]; exact hk)
      by_cases hlt : k < l.length
      · obtain ⟨ad', z', ea, hz', had', hc'⟩ := rd_byte hr (k := k) hlt
        injection ea with ea
        subst ea
        have hck : ∀ o, (w.alloc o).cell? (ad.add k) = some (.int .u8 (z'.toNat : Int)) := fun o => (World.cell?_alloc_lt w o _ (World.block_lt_of_cell? w _ hc')).trans hc'
        have hzb' : (z'.toNat : Int) ≤ 255 := by have := z'.toNat_lt; omega
        have HZ' := hide hz'
        have hlt' := hlt
        rw [HL.out] at hlt' hk
        clear hz' hlt hc'
        first
          | (exfalso; omega)
          | (go_wp2_with fail
             go_round
             case rel => exact ⟨k + 1, by omega, by rw [HL.out]; omega, by go_num, by rw [numGo_snoc hk1 (ints_at HZ'.out)]⟩
             case measure => simp [intOf]; omega)
      · have hfin : numGo (ints l) k = numL (ints l) := by rw [← numGo_all, ints_len]; congr 1; omega
        have HF := hide hfin
        have hge := hlt
        rw [HL.out] at hge hk
        clear hfin hlt
        go_wp2_with fail
        go_ret
        exact ⟨ret_i32 HF.out, below_drewN ((Below.refl _ _).alloc (Nat.le_refl _) _) _⟩
end Go.Proofs.YtomkkagopjpfkaaDoor.ref
