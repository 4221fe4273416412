/- Part 2 of 18 of a proof: see the last part. -/
import Derived.Test.YtbpgkkoeehopjaaGreatP1
import Derived.Deep.QuietTactic
import Derived.BigQuiet
import Derived.WalkSmall
import Derived.Deep.RegionWith
set_option linter.unusedVariables false
set_option linter.unusedSimpArgs false
namespace Go.Proofs.YtbpgkkoeehopjaaGreat.ref
open Go.RowKit Go.Proofs.YtbpgkkoeehopjaaGreat.words Go.Proofs.YtbpgkkoeehopjaaGreat.enc Go.Proofs.YtbpgkkoeehopjaaGreat.utf Go.Proofs.YtbpgkkoeehopjaaGreat.dec
theorem bytes_len (l : List UInt8) : (Lib.byteCells l).length = l.length := by simp [Lib.byteCells]
theorem rd_byte {w : World} {B : Nat} {A : Option Addr} {l : List UInt8} {k : Nat} (h : Rd w B A (Lib.byteCells l)) (hk : k < l.length) :
 ∃ ad b, A = some ad ∧ l[k]? = some b ∧ ad.block < B ∧ w.cell? (ad.add k) = some (.int .u8 (b.toNat : Int)) := by
 obtain ⟨ad, e, hb, hc⟩ := h.at (k := k) (by rw [bytes_len]; exact hk)
 exact ⟨ad, l[k], e, List.getElem?_eq_getElem hk, hb, by rw [hc]; simp [Lib.byteCells]⟩
def sameB (l l' : List UInt8) : Bool := decide (l = l')
theorem ret_bool {a b : Bool} (h : a = b) : Ending.returned (.bool a) = .returned (.bool b) := by rw [h]
theorem take_snoc {α : Type} {l : List α} {k : Nat} {x : α} (h : l[k]? = some x) : l.take (k + 1) = l.take k ++ [x] := by
 obtain ⟨hk, rfl⟩ := List.getElem?_eq_some_iff.1 h
 exact List.take_succ_eq_append_getElem hk
theorem same_any (A A' : Option Addr) (n c c' B B' : Nat) (l l' : List UInt8) (w : World) (hr : Rd w B A (Lib.byteCells l)) (hr' : Rd w B' A' (Lib.byteCells l')) (hl : l.length = n) (hl' : l'.length = n) (hn : n ≤ maxLen) :
 Calls Tryz.prog 188 #[.slice A n c, .slice A' n c'] w fun e w' => e = .returned (.bool (sameB l l')) ∧ ∃ k, w' = w.drewN k := by
 unfold maxLen at hn
 have HL := hide hl
 have HL' := hide hl'
 clear hl hl'
 go_enter Tryz.func188, Tryz.ntmps188
 go_wp2
 go_loopw [5] (fun i wr => ∃ k : Nat, k ≤ n ∧ i = .int .i64 k ∧ Hid (l.take k = l'.take k) ∧ ∃ m, wr = w.drewN m) (fun i _ => n - (intOf i).toNat)
 case atStart => exact ⟨0, Nat.zero_le _, rfl, rfl, 0, rfl⟩
 case round =>
  obtain ⟨k, hk, rfl, heq, m, rfl⟩ := hrel
  by_cases hlt : k < n
  · obtain ⟨ad, z, rfl, hz, had, hc⟩ := rd_byte hr (k := k) (by rw [HL.out]; exact hlt)
    obtain ⟨ad', z', rfl, hz', had', hc'⟩ := rd_byte hr' (k := k) (by rw [HL'.out]; exact hlt)
    have HZ := hide hz
    have HZ' := hide hz'
    clear hz hz'
    have hkI : (k : Int) < (n : Int) := by omega
    by_cases hzz : z = z'
    · subst hzz
      go_wp2_with fail
      go_quiet (fail)
      go_wp2_with fail
      go_roundw
      case rel => exact ⟨k + 1, by omega, by go_num, (by show l.take (k + 1) = l'.take (k + 1); rw [take_snoc HZ.out, take_snoc HZ'.out, heq.out]), _, rfl⟩
      case measure => simp [intOf]; omega
    · have hne : ((z.toNat : Int) == (z'.toNat : Int)) = false := by
       rw [beq_eq_false_iff_ne]
       intro e
       exact hzz (UInt8.toNat_inj.1 (by omega))
      have hne' : ((z.toNat : Int) != (z'.toNat : Int)) = true := by rw [bne, hne]; rfl
      have hf : sameB l l' = false := decide_eq_false (fun e => hzz (by subst e; have h1 := HZ.out; rw [HZ'.out] at h1; exact (Option.some.inj h1).symm))
      have HF := hide hf
      clear hf hzz
      go_wp2_with fail
      go_quiet (fail)
      go_wp2_with fail
      go_ret
      exact ⟨ret_bool HF.out.symm, _, World.drewN_drewN _ _ _⟩
  · have ht : sameB l l' = true := decide_eq_true (by
     have := heq.out
     rw [List.take_of_length_le (by rw [HL.out]; omega), List.take_of_length_le (by rw [HL'.out]; omega)] at this
     exact this)
    have HT := hide ht
    clear ht
    go_wp2
    go_ret
    exact ⟨ret_bool HT.out.symm, _, rfl⟩
def numGo (g : List Int) (k : Nat) : Int := ((g.take k).drop 1).foldl (fun n b => n * 64 + b % 64) (g.headD 0 % firstD g.length)
theorem numGo_all (g : List Int) : numGo g g.length = numL g := by unfold numGo numL; rw [List.take_length]
theorem numGo_snoc {g : List Int} {k : Nat} {b : Int} (hk : 1 ≤ k) (h : g[k]? = some b) : numGo g (k + 1) = numGo g k * 64 + b % 64 := by
 unfold numGo
 rw [take_snoc h, List.drop_append_of_le_length (by rw [List.length_take]; have := (List.getElem?_eq_some_iff.1 h).1; omega), List.foldl_append]
 rfl
theorem numGo_one {g : List Int} (h : g ≠ []) : numGo g 1 = g.headD 0 % firstD g.length := by
 cases g with
 | nil => exact absurd rfl h
 | cons x r => rfl
theorem firstD_at (n : Nat) (h1 : 1 ≤ n) (h4 : n ≤ 4) : 8 ≤ firstD n ∧ firstD n ≤ 128 := by
 have : n = 1 ∨ n = 2 ∨ n = 3 ∨ n = 4 := by omega
 rcases this with rfl | rfl | rfl | rfl <;> decide
theorem numGo_le (g : List Int) (h1 : 1 ≤ g.length) (h4 : g.length ≤ 4) : ∀ k, 1 ≤ k → k ≤ g.length → 0 ≤ numGo g k ∧ numGo g k < 128 * 64 ^ (k - 1)
 | 0, h, _ => by omega
 | 1, _, _ => by
  rw [numGo_one (by rintro rfl; simp at h1)]
  have hf := firstD_at g.length h1 h4
  have a := Int.emod_nonneg (g.headD 0) (b := firstD g.length) (by omega)
  have b := Int.emod_lt_of_pos (g.headD 0) (b := firstD g.length) (by omega)
  simp only [Nat.sub_self, Int.pow_zero]
  omega
 | k + 2, _, hk => by
  have ih := numGo_le g h1 h4 (k + 1) (by omega) (by omega)
  have hg : g[k + 1]? = some g[k + 1] := List.getElem?_eq_getElem (by omega)
  rw [numGo_snoc (by omega) hg]
  have e : (128 : Int) * 64 ^ (k + 2 - 1) = 128 * 64 ^ (k + 1 - 1) * 64 := by
   rw [show k + 2 - 1 = k + 1 from by omega, show k + 1 - 1 = k from by omega, Int.pow_succ]; omega
  rw [e]
  omega
theorem numGo_fits (g : List Int) (h1 : 1 ≤ g.length) (h4 : g.length ≤ 4) (k : Nat) (hk1 : 1 ≤ k) (hk : k ≤ g.length) : 0 ≤ numGo g k ∧ numGo g k ≤ 33554432 := by
 have h := numGo_le g h1 h4 k hk1 hk
 have : k = 1 ∨ k = 2 ∨ k = 3 ∨ k = 4 := by omega
 rcases this with rfl | rfl | rfl | rfl <;> simp at h <;> omega
theorem ints_at {l : List UInt8} {k : Nat} {b : UInt8} (h : l[k]? = some b) : (ints l)[k]? = some (b.toNat : Int) := by
 unfold ints; rw [List.getElem?_map, h]; rfl
theorem ints_len (l : List UInt8) : (ints l).length = l.length := by simp [ints]
theorem ret_i32 {a b : Int} (h : a = b) : Ending.returned (.int .i32 a) = .returned (.int .i32 b) := by rw [h]
theorem number_any (A : Option Addr) (n c B : Nat) (l : List UInt8) (w : World) (hr : Rd w B A (Lib.byteCells l)) (hl : l.length = n) (h1 : 1 ≤ n) (h4 : n ≤ 4) :
 Calls Tryz.prog 186 #[.slice A n c] w fun e w' => e = .returned (.int .i32 (numL (ints l))) ∧ Below w.heap.size w w' := by
 have HL := hide hl
 have hB : n = 1 ∨ n = 2 ∨ n = 3 ∨ n = 4 := by omega
 clear hl
 obtain ⟨ad, z, rfl, hz, had, hc⟩ := rd_byte hr (k := 0) (by rw [HL.out]; omega)
 have HZ := hide hz
 clear hz
 have hc0 : w.cell? ad = some (.int .u8 (z.toNat : Int)) := by rw [show ad.add 0 = ad by unfold Addr.add; simp] at hc; exact hc
 have hzb : (z.toNat : Int) ≤ 255 := by have := z.toNat_lt; omega
 have hc1 : ∀ o, (w.alloc o).cell? ad = some (.int .u8 (z.toNat : Int)) := fun o => (World.cell?_alloc_lt w o ad (World.block_lt_of_cell? w ad hc0)).trans hc0
 have hst : numGo (ints l) 1 = (z.toNat : Int) % firstD l.length := by
  have h0 := ints_at HZ.out
  rw [numGo_one (by rintro e; rw [e] at h0; simp at h0), ints_len]
  congr 1
  cases hh : ints l with
  | nil => rw [hh] at h0; simp at h0
  | cons x r => rw [hh] at h0; simpa using h0
 rw [HL.out] at hst
 have HST := hide hst
 clear hst
 have HG := hide (numGo_fits (ints l) (by rw [ints_len, HL.out]; exact h1) (by rw [ints_len, HL.out]; exact h4))
 rcases hB with rfl | rfl | rfl | rfl
 all_goals
  go_enter Tryz.func186, Tryz.ntmps186
  go_wp2_with fail
  go_quiet (fail)
  go_wp2_with fail
  go_loop [4, 5] (fun t i => ∃ k : Nat, 1 ≤ k ∧ k ≤ l.length ∧ i = .int .i64 k ∧ t = .int .i64 (numGo (ints l) k)) (fun _ i => 4 - (intOf i).toNat)
  case atStart => exact ⟨1, by omega, by rw [HL.out]; omega, rfl, by rw [HST.out]; rfl⟩
  case round =>
   obtain ⟨k, hk1, hk, rfl, rfl⟩ := hrel
   obtain ⟨g1, g2⟩ := HG.out k hk1 (by rw [ints_len]; exact hk)
   by_cases hlt : k < l.length
   · obtain ⟨ad', z', ea, hz', had', hc'⟩ := rd_byte hr (k := k) hlt
     injection ea with ea
     subst ea
     have hck : ∀ o, (w.alloc o).cell? (ad.add k) = some (.int .u8 (z'.toNat : Int)) := fun o => (World.cell?_alloc_lt w o _ (World.block_lt_of_cell? w _ hc')).trans hc'
     have hzb' : (z'.toNat : Int) ≤ 255 := by have := z'.toNat_lt; omega
     have HZ' := hide hz'
     have hlt' := hlt
     rw [HL.out] at hlt' hk
     clear hz' hlt hc'
     first
      | (exfalso; omega)
      | (go_wp2_with fail
         go_round
         case rel => exact ⟨k + 1, by omega, by rw [HL.out]; omega, by go_num, by rw [numGo_snoc hk1 (ints_at HZ'.out)]⟩
         case measure => simp [intOf]; omega)
   · have hfin : numGo (ints l) k = numL (ints l) := by rw [← numGo_all, ints_len]; congr 1; omega
     have HF := hide hfin
     have hge := hlt
     rw [HL.out] at hge hk
     clear hfin hlt
     go_wp2_with fail
     go_ret
     exact ⟨ret_i32 HF.out, below_drewN ((Below.refl _ _).alloc (Nat.le_refl _) _) _⟩
end Go.Proofs.YtbpgkkoeehopjaaGreat.ref
namespace Go.Proofs.YtbpgkkoeehopjaaGreat.ln
def ch (zs : List Int) (i : Nat) : Int := zs.getD i 0
theorem ch_of {zs : List Int} {i : Nat} {z : Int} (h : zs[i]? = some z) : ch zs i = z := by
 unfold ch; rw [List.getD_eq_getElem?_getD, h]; rfl
def endAt (zs : List Int) (i : Nat) : Bool := decide (ch zs i = 10 ∨ (ch zs i = 13 ∧ ¬ (i + 1 < zs.length ∧ ch zs (i + 1) = 10)))
theorem endAt_lf {zs : List Int} {i : Nat} (h : ch zs i = 10) : endAt zs i = true := decide_eq_true (.inl h)
theorem endAt_cr {zs : List Int} {i : Nat} (h : ch zs i = 13) (h' : ¬ (i + 1 < zs.length ∧ ch zs (i + 1) = 10)) : endAt zs i = true := decide_eq_true (.inr ⟨h, h'⟩)
theorem endAt_crlf {zs : List Int} {i : Nat} (h : ch zs i = 13) (h1 : i + 1 < zs.length) (h2 : ch zs (i + 1) = 10) : endAt zs i = false := decide_eq_false (by omega)
theorem endAt_other {zs : List Int} {i : Nat} (h : ch zs i ≠ 10) (h' : ch zs i ≠ 13) : endAt zs i = false := decide_eq_false (by omega)
def st (zs : List Int) : Nat → Nat
 | 0 => 0
 | k + 1 => if endAt zs k = true then k + 1 else st zs k
def starts (zs : List Int) : Nat → List Nat
 | 0 => [0]
 | k + 1 => if endAt zs k = true then starts zs k ++ [k + 1] else starts zs k
def cut (zs : List Int) (a b : Nat) : List Int := (zs.take b).drop a
def segEnd (zs : List Int) (a b : Nat) : Nat := if ch zs (b - 1) = 10 ∧ a < b - 1 ∧ ch zs (b - 2) = 13 then b - 2 else b - 1
def done (zs : List Int) : Nat → List (List Int)
 | 0 => []
 | k + 1 => if endAt zs k = true then done zs k ++ [cut zs (st zs k) (segEnd zs (st zs k) (k + 1))] else done zs k
def cur (zs : List Int) (k : Nat) : List Int := if st zs k < k ∧ ch zs (k - 1) = 13 then cut zs (st zs k) (k - 1) else cut zs (st zs k) k
def linesOf (zs : List Int) : List (List Int) := done zs zs.length ++ [cut zs (st zs zs.length) zs.length]
theorem st_end {zs : List Int} {k : Nat} (h : endAt zs k = true) : st zs (k + 1) = k + 1 := by simp [st, h]
theorem st_same {zs : List Int} {k : Nat} (h : endAt zs k = false) : st zs (k + 1) = st zs k := by simp [st, h]
theorem st_le (zs : List Int) : ∀ k, st zs k ≤ k
 | 0 => Nat.le_refl _
 | k + 1 => by
  have := st_le zs k
  unfold st
  split <;> omega
theorem starts_end {zs : List Int} {k : Nat} (h : endAt zs k = true) : starts zs (k + 1) = starts zs k ++ [k + 1] := by simp [starts, h]
theorem starts_same {zs : List Int} {k : Nat} (h : endAt zs k = false) : starts zs (k + 1) = starts zs k := by simp [starts, h]
theorem starts_pos (zs : List Int) : ∀ k, 1 ≤ (starts zs k).length
 | 0 => by simp [starts]
 | k + 1 => by
  have := starts_pos zs k
  cases he : endAt zs k with
  | true => rw [starts_end he]; simp
  | false => rw [starts_same he]; exact this
theorem starts_len (zs : List Int) : ∀ k, (starts zs k).length ≤ k + 1
 | 0 => by simp [starts]
 | k + 1 => by
  have := starts_len zs k
  cases he : endAt zs k with
  | true => rw [starts_end he]; simp; omega
  | false => rw [starts_same he]; omega
theorem starts_last (zs : List Int) : ∀ k, (starts zs k)[(starts zs k).length - 1]? = some (st zs k)
 | 0 => by simp [starts, st]
 | k + 1 => by
  cases he : endAt zs k with
  | true => rw [starts_end he, st_end he]; simp
  | false => rw [starts_same he, st_same he]; exact starts_last zs k
theorem starts_at_le (zs : List Int) : ∀ (k j s : Nat), (starts zs k)[j]? = some s → s ≤ k
 | 0, j, s, h => by
  have : s ∈ [0] := List.mem_of_getElem? h
  simp at this
  omega
 | k + 1, j, s, h => by
  cases he : endAt zs k with
  | true =>
   rw [starts_end he, List.getElem?_append] at h
   split at h
   · have := starts_at_le zs k j s h; omega
   · have : s ∈ [k + 1] := List.mem_of_getElem? h
     simp at this
     omega
  | false =>
   rw [starts_same he] at h
   have := starts_at_le zs k j s h; omega
theorem starts_rise (zs : List Int) : ∀ (k j a b : Nat), (starts zs k)[j]? = some a → (starts zs k)[j + 1]? = some b → a < b
 | 0, j, a, b, _, h => by simp [starts] at h
 | k + 1, j, a, b, h1, h2 => by
  cases he : endAt zs k with
  | true =>
   rw [starts_end he] at h1 h2
   rw [List.getElem?_append] at h1 h2
   by_cases hj : j + 1 < (starts zs k).length
   · rw [if_pos hj] at h2
     rw [if_pos (by omega)] at h1
     exact starts_rise zs k j a b h1 h2
   · rw [if_neg hj] at h2
     have hb : b ∈ [k + 1] := List.mem_of_getElem? h2
     simp at hb
     have hj2 : j + 1 - (starts zs k).length < 1 := by
      have := (List.getElem?_eq_some_iff.1 h2).1
      simpa using this
     rw [if_pos (by omega)] at h1
     have := starts_at_le zs k j a h1
     omega
  | false =>
   rw [starts_same he] at h1 h2
   exact starts_rise zs k j a b h1 h2
end Go.Proofs.YtbpgkkoeehopjaaGreat.ln
namespace Go.Proofs.YtbpgkkoeehopjaaGreat.lines
open Go.RowKit Go.Proofs.YtbpgkkoeehopjaaGreat.words Go.Proofs.YtbpgkkoeehopjaaGreat.enc Go.Proofs.YtbpgkkoeehopjaaGreat.dec Go.Proofs.YtbpgkkoeehopjaaGreat.ref Go.Proofs.YtbpgkkoeehopjaaGreat.ln
theorem own_types {w : World} {B B' e e' s s' n n' : Nat} {v v' : Value} {xs xs' : List Value} (h : w.ownsRow B e s v n xs) (h' : w.ownsRow B' e' s' v' n' xs') (hne : e ≠ e') : v.ownBlock = none ∨ v.ownBlock ≠ v'.ownBlock := by
 rcases h.2 with ⟨rfl, _⟩ | ⟨g, cap, cur, rfl, _, hg, _⟩
 · exact .inl rfl
 · rcases h'.2 with ⟨rfl, _⟩ | ⟨g', cap', cur', rfl, _, hg', _⟩
   · exact .inr (by simp [Value.ownBlock])
   · refine .inr fun ee => ?_
     have : g = g' := by simpa [Value.ownBlock] using ee
     subst this
     rw [hg] at hg'
     injection hg' with hg'
     injection hg' with _ ht
     exact hne ht
set_option maxRecDepth 100000
theorem int_info : (Tryz.prog.info? 3).map (fun i => (i.zero, i.size, i.bytes)) = some (some (.int .i64 0), 1, 8) := by kernel_rfl
theorem own_new {B : Nat} (w : World) (cs : List Value) (t : TypeId) (hB : B ≤ w.heap.size) (hm : cs.length ≤ maxLen) :
 (w.alloc (.cells cs.toArray t)).ownsRow B t 1 (.slice (some ⟨w.heap.size, 0, none⟩) cs.length cs.length) cs.length cs :=
 ⟨by simp, .inr ⟨w.heap.size, cs.length, cs.toArray, rfl, hB, heap_alloc_new w _, Nat.le_refl _, hm, by simp, by simp⟩⟩
def icells (l : List Nat) : List Value := l.map fun x : Nat => Value.int .i64 (x : Int)
theorem icells_len (l : List Nat) : (icells l).length = l.length := by simp [icells]
theorem rd_nat {w : World} {B : Nat} {A : Option Addr} {l : List Nat} {k x : Nat} (h : Rd w B A (icells l)) (hx : l[k]? = some x) :
 ∃ ad, A = some ad ∧ ad.block < B ∧ w.cell? (ad.add k) = some (.int .i64 (x : Int)) := by
 obtain ⟨hk, rfl⟩ := List.getElem?_eq_some_iff.1 hx
 obtain ⟨ad, e, hb, hc⟩ := h.at (k := k) (by rw [icells_len]; exact hk)
 exact ⟨ad, e, hb, by rw [hc]; simp [icells]⟩
theorem one_i64 (x : Int) : ∀ u ∈ [Value.int .i64 x], u.oneCell' = true := by intro u hu; simp at hu; subst hu; rfl
theorem rd_int (w : World) (B : Nat) (x : Int) (hB : w.heap.size < B) : Rd (w.alloc (.cells #[.int .i64 x] 3)) B (some ⟨w.heap.size, 0, none⟩) [.int .i64 x] :=
 rd_new w [.int .i64 x] 3 hB
theorem Starts_any (A : Option Addr) (n c B : Nat) (zs : List Int) (w : World) (hr : Rd w B A (zs.map (Value.int .i32))) (hB : B ≤ w.heap.size) (hl : zs.length = n) (hn : n ≤ 4194304) :
 Calls Tryz.prog 168 #[.slice A n c] w fun e w' => ∃ v, e = .returned v ∧ w'.ownsRow w.heap.size 3 1 v (starts zs n).length (icells (starts zs n)) ∧ Below w.heap.size w w' := by
 obtain ⟨i0, hi0, hz0, hz1, hz2⟩ := info_parts int_info
 have HL := hide hl
 clear hl
 have hnew := own_new w [.int .i64 0] 3 (Nat.le_refl _) (by simp [maxLen])
 go_enter Tryz.func168, Tryz.ntmps168
 go_wp2
 go_loopw [3, 4] (fun v i wr => ∃ k : Nat, k ≤ n ∧ i = .int .i64 k ∧ wr.ownsRow w.heap.size 3 1 v (starts zs k).length (icells (starts zs k)) ∧ Below w.heap.size w wr) (fun _ i _ => n - (intOf i).toNat)
 case atStart => exact ⟨0, Nat.zero_le _, rfl, hnew, (Below.refl _ _).alloc (Nat.le_refl _) _⟩
 case round =>
  obtain ⟨k, hk, rfl, hown, hb⟩ := hrel
  obtain ⟨Av, cv, rfl, _, _⟩ := own_slice hown
  clear hnew
  by_cases hlt : k < n
  · have hrr := hr.below' hb hB
    obtain ⟨ad, z, rfl, hz, had, hc⟩ := hrr.i32 (k := k) (by rw [HL.out]; exact hlt)
    have hsl := starts_len zs k
    have HC := hide (ch_of hz)
    clear hz
    by_cases h10 : z = 10
    · subst h10
      have HS := hide (starts_end (zs := zs) (k := k) (endAt_lf HC.out))
      go_wp2_with (at_builtin; refine wpList_append_rd _ rfl _ _ 223 rfl w.heap.size 3 i0 (.int .i64 0) 1 8 Tryz.underlying223 hi0 hz0 hz1 hz2 rfl (by decide) _ _ _ rfl (hown.alloc _) _ _ 1 1 _ rfl (by rfl) (rd_int _ _ _ (Nat.lt_succ_self _)) (one_i64 _) ?c3 ?c4 ?c5 ?_)
      case c3 => simp only [maxLen]; omega
      case c4 => omega
      case c5 => exact Nat.le_trans hb.size (by simp)
      intro v2 w2 hown2 hg2 hat2
      have hb2 := below_append (hb.alloc hb.size _) (hown.alloc _) (Nat.le_refl _) hg2 (Nat.le_trans hb.size (by simp))
      go_wp2_with fail
      go_roundw
      case rel =>
       refine ⟨k + 1, by omega, by go_num, ?_, hb2⟩
       rw [HS.out, List.length_append]
       have e : icells (starts zs k ++ [k + 1]) = icells (starts zs k) ++ [.int .i64 ((k : Int) + 1)] := by simp [icells]
       rw [e]
       exact hown2
      case measure => simp [intOf]; omega
    have b10 : ((z : Int) == 10) = false := by rw [beq_eq_false_iff_ne]; exact h10
    have n10 : ((z : Int) != 10) = true := by rw [bne, b10]; rfl
    by_cases h13 : z = 13
    · subst h13
      by_cases h3 : k + 1 < n
      · obtain ⟨ad', y, ea, hy, had', hc'⟩ := hrr.i32 (k := k + 1) (by rw [HL.out]; omega)
        injection ea with ea
        subst ea
        rw [add_succ] at hc'
        have HC' := hide (ch_of hy)
        clear hy
        by_cases h4 : y = 10
        · subst h4
          have HS := hide (starts_same (zs := zs) (k := k) (endAt_crlf HC.out (by rw [HL.out]; exact h3) HC'.out))
          go_wp2_with fail
          go_roundw
          case rel => exact ⟨k + 1, by omega, by go_num, by rw [HS.out]; exact hown, hb⟩
          case measure => simp [intOf]; omega
        · have y10 : ((y : Int) == 10) = false := by rw [beq_eq_false_iff_ne]; exact h4
          have HS := hide (starts_end (zs := zs) (k := k) (endAt_cr HC.out (by rw [HC'.out]; intro hh; exact h4 hh.2)))
          go_wp2_with (at_builtin; refine wpList_append_rd _ rfl _ _ 223 rfl w.heap.size 3 i0 (.int .i64 0) 1 8 Tryz.underlying223 hi0 hz0 hz1 hz2 rfl (by decide) _ _ _ rfl (hown.alloc _) _ _ 1 1 _ rfl (by rfl) (rd_int _ _ _ (Nat.lt_succ_self _)) (one_i64 _) ?c3 ?c4 ?c5 ?_)
          case c3 => simp only [maxLen]; omega
          case c4 => omega
          case c5 => exact Nat.le_trans hb.size (by simp)
          intro v2 w2 hown2 hg2 hat2
          have hb2 := below_append (hb.alloc hb.size _) (hown.alloc _) (Nat.le_refl _) hg2 (Nat.le_trans hb.size (by simp))
          go_wp2_with fail
          go_roundw
          case rel =>
           refine ⟨k + 1, by omega, by go_num, ?_, hb2⟩
           rw [HS.out, List.length_append]
           have e : icells (starts zs k ++ [k + 1]) = icells (starts zs k) ++ [.int .i64 ((k : Int) + 1)] := by simp [icells]
           rw [e]
           exact hown2
          case measure => simp [intOf]; omega
      · have hk3 : ¬ ((k : Int) + 1 < (n : Int)) := by omega
        have HS := hide (starts_end (zs := zs) (k := k) (endAt_cr HC.out (by rw [HL.out]; omega)))
        go_wp2_with (at_builtin; refine wpList_append_rd _ rfl _ _ 223 rfl w.heap.size 3 i0 (.int .i64 0) 1 8 Tryz.underlying223 hi0 hz0 hz1 hz2 rfl (by decide) _ _ _ rfl (hown.alloc _) _ _ 1 1 _ rfl (by rfl) (rd_int _ _ _ (Nat.lt_succ_self _)) (one_i64 _) ?c3 ?c4 ?c5 ?_)
        case c3 => simp only [maxLen]; omega
        case c4 => omega
        case c5 => exact Nat.le_trans hb.size (by simp)
        intro v2 w2 hown2 hg2 hat2
        have hb2 := below_append (hb.alloc hb.size _) (hown.alloc _) (Nat.le_refl _) hg2 (Nat.le_trans hb.size (by simp))
        go_wp2_with fail
        go_roundw
        case rel =>
         refine ⟨k + 1, by omega, by go_num, ?_, hb2⟩
         rw [HS.out, List.length_append]
         have e : icells (starts zs k ++ [k + 1]) = icells (starts zs k) ++ [.int .i64 ((k : Int) + 1)] := by simp [icells]
         rw [e]
         exact hown2
        case measure => simp [intOf]; omega
    · have b13 : ((z : Int) == 13) = false := by rw [beq_eq_false_iff_ne]; exact h13
      have n13 : ((z : Int) != 13) = true := by rw [bne, b13]; rfl
      have HS := hide (starts_same (zs := zs) (k := k) (endAt_other (by rw [HC.out]; exact h10) (by rw [HC.out]; exact h13)))
      go_wp2_with fail
      go_roundw
      case rel => exact ⟨k + 1, by omega, by go_num, by rw [HS.out]; exact hown, hb⟩
      case measure => simp [intOf]; omega
  · have hkn : k = n := by omega
    subst hkn
    go_wp2_with fail
    go_ret
    exact ⟨_, rfl, hown, hb⟩
theorem one_slice (A : Option Addr) (n c : Nat) : ∀ u ∈ [Value.slice A n c], u.oneCell' = true := by intro u hu; simp at hu; subst hu; rfl
end Go.Proofs.YtbpgkkoeehopjaaGreat.lines
namespace Go.Proofs.YtbpgkkoeehopjaaGreat.ln
def pl (zs : List Int) : Nat → Nat × Nat
 | 0 => (1, 1)
 | k + 1 => if endAt zs k = true then ((pl zs k).1 + 1, 1) else ((pl zs k).1, (pl zs k).2 + 1)
theorem pl_end {zs : List Int} {k : Nat} (h : endAt zs k = true) : pl zs (k + 1) = ((pl zs k).1 + 1, 1) := by simp [pl, h]
theorem pl_same {zs : List Int} {k : Nat} (h : endAt zs k = false) : pl zs (k + 1) = ((pl zs k).1, (pl zs k).2 + 1) := by simp [pl, h]
theorem pl_starts (zs : List Int) : ∀ k, pl zs k = ((starts zs k).length, k - st zs k + 1)
 | 0 => by simp [pl, starts, st]
 | k + 1 => by
  have ih := pl_starts zs k
  have hs := st_le zs k
  cases h : endAt zs k with
  | true => rw [pl_end h, ih, starts_end h, st_end h]; simp
  | false =>
   rw [pl_same h, ih, starts_same h, st_same h]
   dsimp only
   rw [show k + 1 - st zs k = k - st zs k + 1 by omega]
theorem starts_take (zs : List Int) (i : Nat) : ∀ k, i ≤ k → (starts zs k).take (starts zs i).length = starts zs i
 | 0, h => by
  obtain rfl : i = 0 := by omega
  exact List.take_length
 | k + 1, h => by
  by_cases hik : i = k + 1
  · subst hik; exact List.take_length
  · have ih := starts_take zs i k (by omega)
    have hl : (starts zs i).length ≤ (starts zs k).length := by
     have := congrArg List.length ih
     rw [List.length_take] at this
     omega
    cases he : endAt zs k with
    | true => rw [starts_end he, List.take_append_of_le_length hl]; exact ih
    | false => rw [starts_same he]; exact ih
theorem pl_in {zs : List Int} {n j a i : Nat} (hj : (starts zs n)[j]? = some a) (ha : a ≤ i) (hin : i ≤ n) (hb : ∀ b, (starts zs n)[j + 1]? = some b → i < b) : pl zs i = (j + 1, i - a + 1) := by
 have ht := starts_take zs i n hin
 have hpos := starts_pos zs i
 have hlen : (starts zs i).length ≤ (starts zs n).length := by
  have := congrArg List.length ht
  rw [List.length_take] at this
  omega
 have hat : ∀ q, q < (starts zs i).length → (starts zs n)[q]? = (starts zs i)[q]? := fun q hq => by
  rw [← ht, List.getElem?_take, if_pos hq]
 have h1 : j < (starts zs i).length := by
  rcases Nat.lt_or_ge j (starts zs i).length with h | h
  · exact h
  · exfalso
    have key : ∀ k, i ≤ k → ∀ q s, (starts zs i).length ≤ q → (starts zs k)[q]? = some s → i < s := by
     intro k
     induction k with
     | zero =>
      intro hk q s hq hs
      obtain rfl : i = 0 := by omega
      have := (List.getElem?_eq_some_iff.1 hs).1
      omega
     | succ k ih =>
      intro hk q s hq hs
      by_cases hik : i = k + 1
      · subst hik
        have := (List.getElem?_eq_some_iff.1 hs).1
        omega
      · cases he : endAt zs k with
        | true =>
         rw [starts_end he, List.getElem?_append] at hs
         split at hs
         · exact ih (by omega) q s hq hs
         · have : s ∈ [k + 1] := List.mem_of_getElem? hs
           simp at this
           omega
        | false =>
         rw [starts_same he] at hs
         exact ih (by omega) q s hq hs
    have := key n hin j a h hj
    omega
 have h2 : (starts zs i).length = j + 1 := by
  rcases Nat.lt_or_ge (j + 1) (starts zs i).length with h | h
  · exfalso
    have hs := hat (j + 1) h
    rw [List.getElem?_eq_getElem h] at hs
    have h3 := hb _ hs
    have h4 := starts_at_le zs i (j + 1) _ (List.getElem?_eq_getElem h)
    omega
  · omega
 have hlast := starts_last zs i
 rw [h2, Nat.add_sub_cancel, ← hat j (by omega), hj] at hlast
 injection hlast with hlast
 rw [pl_starts, h2, ← hlast]
def places (zs : List Int) (m : Nat) : List (Nat × Nat) := (List.range m).map (pl zs)
theorem places_snoc (zs : List Int) (m : Nat) : places zs (m + 1) = places zs m ++ [pl zs m] := by simp [places, List.range_succ]
theorem places_len (zs : List Int) (m : Nat) : (places zs m).length = m := by simp [places]
theorem places_at (zs : List Int) (m i : Nat) (h : i < m) : (places zs m)[i]? = some (pl zs i) := by simp [places, h]
end Go.Proofs.YtbpgkkoeehopjaaGreat.ln
namespace Go.Proofs.YtbpgkkoeehopjaaGreat.lines
open Go.RowKit Go.Proofs.YtbpgkkoeehopjaaGreat.words Go.Proofs.YtbpgkkoeehopjaaGreat.enc Go.Proofs.YtbpgkkoeehopjaaGreat.dec Go.Proofs.YtbpgkkoeehopjaaGreat.ref Go.Proofs.YtbpgkkoeehopjaaGreat.ln
theorem pos_info : (Tryz.prog.info? 41).map (fun i => (i.zero, i.size, i.bytes)) = some (some (.agg #[.int .i64 0, .int .i64 0]), 2, 16) := by kernel_rfl
def pcells (l : List (Nat × Nat)) : List Value := l.flatMap fun p => [Value.int .i64 (p.1 : Int), Value.int .i64 (p.2 : Int)]
theorem pcells_len (l : List (Nat × Nat)) : (pcells l).length = l.length * 2 := by
 induction l with
 | nil => rfl
 | cons p l ih =>
  have : pcells (p :: l) = [Value.int .i64 (p.1 : Int), Value.int .i64 (p.2 : Int)] ++ pcells l := rfl
  rw [this, List.length_append, ih]
  simp
  omega
theorem pcells_snoc (l : List (Nat × Nat)) (p : Nat × Nat) : pcells (l ++ [p]) = pcells l ++ [Value.int .i64 (p.1 : Int), Value.int .i64 (p.2 : Int)] := by simp [pcells]
theorem one_pos (x y : Int) : ∀ u ∈ [Value.int .i64 x, Value.int .i64 y], u.oneCell' = true := by
 intro u hu
 simp at hu
 rcases hu with rfl | rfl <;> rfl
theorem rd_pos (w : World) (B : Nat) (x y : Int) (hB : w.heap.size < B) : Rd (w.alloc (.cells #[.int .i64 x, .int .i64 y] 41)) B (some ⟨w.heap.size, 0, none⟩) [.int .i64 x, .int .i64 y] :=
 rd_new w [.int .i64 x, .int .i64 y] 41 hB
set_option maxRecDepth 100000
def sj (zs : List Int) (n j : Nat) : Nat := (starts zs n).getD j (n + 1)
theorem sj_at {zs : List Int} {n j a : Nat} (h : (starts zs n)[j]? = some a) : sj zs n j = a := by unfold sj; rw [List.getD_eq_getElem?_getD, h]; rfl
theorem sj_end {zs : List Int} {n j : Nat} (h : (starts zs n).length ≤ j) : sj zs n j = n + 1 := by unfold sj; rw [List.getD_eq_getElem?_getD, List.getElem?_eq_none h]; rfl
theorem starts_first (zs : List Int) (n : Nat) : (starts zs n)[0]? = some 0 := by
 have h := starts_take zs 0 n (Nat.zero_le _)
 have e : (starts zs 0) = [0] := rfl
 rw [e] at h
 have := congrArg (·[0]?) h
 simpa [List.getElem?_take] using this
theorem sj_zero (zs : List Int) (n : Nat) : sj zs n 0 = 0 := sj_at (starts_first zs n)
theorem pl_of {zs : List Int} {n j a b i : Nat} (hj : (starts zs n)[j]? = some a) (ha : a ≤ i) (hb : sj zs n (j + 1) = b) (hi : i < b) (hin : i ≤ n) : pl zs i = (j + 1, i - a + 1) :=
 pl_in hj ha hin fun b' h => by rw [sj_at h] at hb; omega
set_option maxHeartbeats 2000000 in
theorem RefPlaces_any (A : Option Addr) (n c B : Nat) (zs : List Int) (w : World) (hr : Rd w B A (zs.map (Value.int .i32))) (hB : B ≤ w.heap.size) (hl : zs.length = n) (hn : n ≤ 4194304) :
 Calls Tryz.prog 137 #[.slice A n c] w fun e w' => ∃ v, e = .returned v ∧ w'.ownsRow w.heap.size 41 2 v (n + 1) (pcells (places zs (n + 1))) ∧ Below w.heap.size w w' := by
 obtain ⟨i0, hi0, hz0, hz1, hz2⟩ := info_parts pos_info
 have HL := hide hl
 clear hl
 have hm1 := starts_pos zs n
 have hm2 := starts_len zs n
 go_enter Tryz.func137, Tryz.ntmps137
 go_wp2_with fail
 refine (Starts_any A n c B zs _ hr hB HL.out hn).mono ?_
 rintro e w1 ⟨vs, rfl, howns, hb1⟩
 obtain ⟨As, cS, rfl, _, _⟩ := own_slice howns
 obtain ⟨m, hm⟩ : ∃ m, (starts zs n).length = m := ⟨_, rfl⟩
 have hs := Rd.of_own howns
 rw [hm] at hm1 hm2 ⊢
 have HM := hide hm
 clear hm howns hr
 go_wp2_with fail
 go_loopw [3, 5] (fun vo i wr => ∃ j : Nat, j ≤ m ∧ i = .int .i64 j ∧ wr.ownsRow w1.heap.size 41 2 vo (sj zs n j) (pcells (places zs (sj zs n j))) ∧ Below w1.heap.size w1 wr) (fun _ i _ => m - (intOf i).toNat)
 case atStart => exact ⟨0, Nat.zero_le _, rfl, by rw [sj_zero]; exact World.ownsRow_nil _ _ _ _, Below.refl _ _⟩
 case round =>
  obtain ⟨j, hj, rfl, howno, hb⟩ := hrel
  obtain ⟨Ao, co, rfl, _, _⟩ := own_slice howno
  by_cases hlt : j < m
  · obtain ⟨a, ha⟩ : ∃ a, (starts zs n)[j]? = some a := ⟨(starts zs n)[j]'(by rw [HM.out]; exact hlt), List.getElem?_eq_getElem _⟩
    have han := starts_at_le zs n j a ha
    obtain ⟨ads, rfl, _, hca⟩ := rd_nat (hs.below' hb (Nat.le_refl _)) ha
    rw [sj_at ha] at howno ⊢
    obtain ⟨b, hbe⟩ : ∃ b, sj zs n (j + 1) = b := ⟨_, rfl⟩
    have HB := hide hbe
    have HA := hide ha
    by_cases hlast : j + 1 < m
    · obtain ⟨b', hb0⟩ : ∃ b, (starts zs n)[j + 1]? = some b := ⟨(starts zs n)[j + 1]'(by rw [HM.out]; exact hlast), List.getElem?_eq_getElem _⟩
      obtain rfl : b' = b := (sj_at hb0).symm.trans hbe
      have hab := starts_rise zs n j a b' ha hb0
      have hbn := starts_at_le zs n (j + 1) b' hb0
      obtain ⟨ads', eas, _, hcb⟩ := rd_nat (hs.below' hb (Nat.le_refl _)) hb0
      injection eas with eas
      subst eas
      rw [add_succ] at hcb
      clear ha hb0 hbe
      have hI : (j : Int) + 1 < (m : Int) := by omega
      go_wp2_with fail
      go_loopw [3, 7] (fun vi i wq => ∃ q : Nat, a ≤ q ∧ q ≤ b' ∧ i = .int .i64 q ∧ wq.ownsRow w1.heap.size 41 2 vi q (pcells (places zs q)) ∧ Below w1.heap.size w1 wq) (fun _ i _ => b' - (intOf i).toNat)
      case atStart => exact ⟨a, Nat.le_refl _, by omega, rfl, howno, hb⟩
      case round =>
       obtain ⟨q, haq, hqb, rfl, hownq, hbq⟩ := hrel
       obtain ⟨Aq, cq, rfl, _, _⟩ := own_slice hownq
       by_cases hq : q < b'
       · have HP := hide (pl_of HA.out haq HB.out hq (by omega))
         obtain ⟨ads2, eas2, _, hca2⟩ := rd_nat (hs.below' hbq (Nat.le_refl _)) HA.out
         injection eas2 with eas2
         subst eas2
         go_wp2_with (at_builtin; refine wpList_append_rd _ rfl _ _ 80 rfl w1.heap.size 41 i0 (.agg #[.int .i64 0, .int .i64 0]) 2 16 Tryz.underlying80 hi0 hz0 hz1 hz2 rfl (by decide) _ _ _ rfl (hownq.alloc _) _ _ 1 1 _ rfl (by rfl) (rd_pos _ _ _ _ (Nat.lt_succ_self _)) (one_pos _ _) ?c3 ?c4 ?c5 ?_)
         case c3 => simp only [maxLen]; omega
         case c4 => omega
         case c5 => exact Nat.le_trans hbq.size (by simp)
         intro v2 w2 hown2 hg2 hat2
         have hb2 := below_append (hbq.alloc hbq.size _) (hownq.alloc _) (Nat.le_refl _) hg2 (Nat.le_trans hbq.size (by simp))
         go_wp2_with fail
         go_roundw
         case rel =>
          refine ⟨q + 1, by omega, by omega, by go_num, ?_, hb2⟩
          rw [places_snoc, pcells_snoc, HP.out]
          have e1 : (((j + 1 : Nat) : Nat) : Int) = (j : Int) + 1 := by omega
          have e2 : (((q - a + 1 : Nat) : Nat) : Int) = (q : Int) - (a : Int) + 1 := by omega
          dsimp only
          rw [e1, e2]
          exact hown2
         case measure => simp [intOf]; omega
       · have hqe : q = b' := by omega
         subst hqe
         go_wp2_with fail
         go_roundw
         case rel => exact ⟨j + 1, by omega, by go_num, by rw [HB.out]; exact hownq, hbq⟩
         case measure => simp [intOf]; omega
    · obtain rfl : b = n + 1 := hbe.symm.trans (sj_end (by rw [HM.out]; omega))
      clear ha hbe
      have hI : ¬ ((j : Int) + 1 < (m : Int)) := by omega
      go_wp2_with fail
      go_loopw [3, 7] (fun vi i wq => ∃ q : Nat, a ≤ q ∧ q ≤ (n + 1) ∧ i = .int .i64 q ∧ wq.ownsRow w1.heap.size 41 2 vi q (pcells (places zs q)) ∧ Below w1.heap.size w1 wq) (fun _ i _ => (n + 1) - (intOf i).toNat)
      case atStart => exact ⟨a, Nat.le_refl _, by omega, rfl, howno, hb⟩
      case round =>
       obtain ⟨q, haq, hqb, rfl, hownq, hbq⟩ := hrel
       obtain ⟨Aq, cq, rfl, _, _⟩ := own_slice hownq
       by_cases hq : q < (n + 1)
       · have HP := hide (pl_of HA.out haq HB.out hq (by omega))
         obtain ⟨ads2, eas2, _, hca2⟩ := rd_nat (hs.below' hbq (Nat.le_refl _)) HA.out
         injection eas2 with eas2
         subst eas2
         go_wp2_with (at_builtin; refine wpList_append_rd _ rfl _ _ 80 rfl w1.heap.size 41 i0 (.agg #[.int .i64 0, .int .i64 0]) 2 16 Tryz.underlying80 hi0 hz0 hz1 hz2 rfl (by decide) _ _ _ rfl (hownq.alloc _) _ _ 1 1 _ rfl (by rfl) (rd_pos _ _ _ _ (Nat.lt_succ_self _)) (one_pos _ _) ?c3 ?c4 ?c5 ?_)
         case c3 => simp only [maxLen]; omega
         case c4 => omega
         case c5 => exact Nat.le_trans hbq.size (by simp)
         intro v2 w2 hown2 hg2 hat2
         have hb2 := below_append (hbq.alloc hbq.size _) (hownq.alloc _) (Nat.le_refl _) hg2 (Nat.le_trans hbq.size (by simp))
         go_wp2_with fail
         go_roundw
         case rel =>
          refine ⟨q + 1, by omega, by omega, by go_num, ?_, hb2⟩
          rw [places_snoc, pcells_snoc, HP.out]
          have e1 : (((j + 1 : Nat) : Nat) : Int) = (j : Int) + 1 := by omega
          have e2 : (((q - a + 1 : Nat) : Nat) : Int) = (q : Int) - (a : Int) + 1 := by omega
          dsimp only
          rw [e1, e2]
          exact hown2
         case measure => simp [intOf]; omega
       · have hqe : q = (n + 1) := by omega
         subst hqe
         go_wp2_with fail
         go_roundw
         case rel => exact ⟨j + 1, by omega, by go_num, by rw [HB.out]; exact hownq, hbq⟩
         case measure => simp [intOf]; omega
  · have hjm : j = m := by omega
    subst hjm
    rw [sj_end (by rw [HM.out]; exact Nat.le_refl _)] at howno ⊢
    go_wp2_with fail
    go_ret
    exact ⟨_, rfl, own_more howno hb1.size, hb1.trans (hb.mono hb1.size)⟩
theorem pcells_cons (p : Nat × Nat) (l : List (Nat × Nat)) : pcells (p :: l) = Value.int .i64 (p.1 : Int) :: Value.int .i64 (p.2 : Int) :: pcells l := rfl
theorem pcells_at : ∀ (l : List (Nat × Nat)) (k : Nat) (p : Nat × Nat), l[k]? = some p → (pcells l)[k * 2]? = some (Value.int .i64 (p.1 : Int)) ∧ (pcells l)[k * 2 + 1]? = some (Value.int .i64 (p.2 : Int))
 | [], k, p, h => by simp at h
 | q :: l, 0, p, h => by
  simp at h; subst h
  rw [pcells_cons]; exact ⟨rfl, rfl⟩
 | q :: l, k + 1, p, h => by
  have := pcells_at l k p (by simpa using h)
  rw [pcells_cons, show (k + 1) * 2 = k * 2 + 1 + 1 by omega]
  simpa using this
theorem add_two (a : Addr) (i : Nat) : a.add (i + 1) = ⟨(a.add i).block, (a.add i).off + 1, none⟩ := by
 unfold Addr.add
 by_cases h : i = 0
 · subst h; simp
 · simp [h, Nat.add_assoc]
theorem add_zero (a : Addr) : a.add (0 * 2) = a := by simp [Addr.add]
theorem rd_place {w : World} {B n k : Nat} {A : Option Addr} {zs : List Int} (h : Rd w B A (pcells (places zs n))) (hk : k < n) :
 ∃ ad, A = some ad ∧ ad.block < B ∧ w.cell? (ad.add (k * 2)) = some (.int .i64 ((pl zs k).1 : Int)) ∧ w.cell? ⟨(ad.add (k * 2)).block, (ad.add (k * 2)).off + 1, none⟩ = some (.int .i64 ((pl zs k).2 : Int)) := by
 have hne : pcells (places zs n) ≠ [] := by
  intro e
  have := congrArg List.length e
  rw [pcells_len, places_len] at this
  simp at this
  omega
 obtain ⟨ad, e, hb, hc⟩ := h hne
 have hp := pcells_at _ _ _ (places_at zs n k hk)
 exact ⟨ad, e, hb, hc _ _ hp.1, by rw [← add_two]; exact hc _ _ hp.2⟩
end Go.Proofs.YtbpgkkoeehopjaaGreat.lines
namespace Go.Proofs.YtbpgkkoeehopjaaGreat.one
open Go.RowKit Go.Proofs.YtbpgkkoeehopjaaGreat.words Go.Proofs.YtbpgkkoeehopjaaGreat.enc Go.Proofs.YtbpgkkoeehopjaaGreat.utf Go.Proofs.YtbpgkkoeehopjaaGreat.dec Go.Proofs.YtbpgkkoeehopjaaGreat.ref
theorem putL_eq (c : Int) : enc.putL c = utf.putL c := rfl
theorem One_any (A : Option Addr) (n c B : Nat) (l : List UInt8) (w : World) (hr : Rd w B A (Lib.byteCells l)) (hB : B ≤ w.heap.size) (hl : l.length = n) (hc : n ≤ c) (hn : c ≤ maxLen) :
 Calls Tryz.prog 166 #[.slice A n c] w fun e w' => e = .returned (.tuple #[.int .i32 (oneL l).1, .int .i64 (oneL l).2]) ∧ Below w.heap.size w w' := by
 unfold maxLen at hn
 have HL := hide hl
 clear hl
 go_enter Tryz.func166, Tryz.ntmps166
 go_wp2
 go_loopw [4] (fun i wr => ∃ k : Nat, 1 ≤ k ∧ k ≤ 5 ∧ i = .int .i64 k ∧ Below w.heap.size w wr ∧ Hid (∀ j, 1 ≤ j → j < k → j ≤ l.length → ¬ Hit l j)) (fun i _ => 5 - (intOf i).toNat)
 case atStart => exact ⟨1, by omega, by omega, rfl, Below.refl _ _, fun j h1 h2 => by omega⟩
 case round =>
  obtain ⟨k, hk1, hk5, rfl, hb, hmiss⟩ := hrel
  by_cases h4 : k ≤ 4
  · by_cases hkn : k ≤ n
    · have hkc : k ≤ c := by omega
      have hlen : (l.take k).length = k := by rw [List.length_take, HL.out]; omega
      have hrk : Rd wr B A (Lib.byteCells (l.take k)) := by
       have := (hr.below' hb hB).take k
       rw [show Lib.byteCells (l.take k) = (Lib.byteCells l).take k by simp [Lib.byteCells, List.map_take]]
       exact this
      have HK := hide hlen
      clear hlen
      go_wp2_with fail
      refine (number_any A k c B (l.take k) _ hrk HK.out hk1 h4).mono ?_
      rintro e w1 ⟨rfl, hb1⟩
      have hb01 := hb.trans (hb1.mono hb.size)
      obtain ⟨q, hq⟩ : ∃ q, numL (ints (l.take k)) = q := ⟨_, rfl⟩
      have HQ := hide hq
      rw [hq]
      clear hq
      go_wp2_with fail
      refine (Put_any q _).mono ?_
      rintro e w2 ⟨A2, k2, rfl, hr2, hb2⟩
      have hb02 := hb01.trans (hb2.mono hb01.size)
      have hrk2 := hrk.keep (w' := w2) (fun p hp => (hb2.cell (by have := hb01.size; omega)).trans (hb1.cell (by have := hb.size; omega)))
      by_cases hpl : (enc.putL q).length = k
      · have hpe : (((enc.putL q).length : Int) == (k : Int)) = true := by rw [beq_iff_eq]; omega
        obtain ⟨pb, hpb⟩ : ∃ pb : List UInt8, ints pb = enc.putL q := by
         by_cases hv : Lib.validRune q = true
         · exact ⟨Lib.encodeRune q, by rw [ints_encode]; exact (if_pos hv).symm⟩
         · exact ⟨[], by unfold enc.putL; rw [if_neg hv]; rfl⟩
        have hcells : (enc.putL q).map (Value.int .u8) = Lib.byteCells pb := by rw [← hpb]; simp [ints, Lib.byteCells]
        rw [hcells] at hr2
        have hpn : pb.length = k := by rw [← hpl, ← hpb, ints_len]
        have HP := hide hpn
        have HPB := hide hpb
        have HPL := hide hpl
        clear hcells hpl hpb hpn
        go_wp2_with fail
        rw [HPL.out]
        refine (same_any A2 A k k2 c _ B pb (l.take k) _ hr2 hrk2 HP.out HK.out (by simp only [maxLen]; omega)).mono ?_
        rintro e w3 ⟨rfl, m, rfl⟩
        have hb03 := below_drewN hb02 m
        by_cases hs : sameB pb (l.take k) = true
        · have hh : Hit l k := by
           have e1 := of_decide_eq_true hs
           show utf.putL (numL (ints (l.take k))) = ints (l.take k)
           rw [HQ.out, ← putL_eq, ← HPB.out, e1]
          have hone := oneL_hit hk1 (by rw [HL.out]; exact hkn) hh
          rw [HQ.out] at hone
          have HO := hide hone
          clear hone hh
          go_wp2_with fail
          go_ret2
          exact ⟨by rw [HO.out]; rfl, hb03⟩
        · have hs' : sameB pb (l.take k) = false := by simpa using hs
          have hnh : ¬ Hit l k := by
           intro hh
           apply hs
           apply decide_eq_true
           apply ints_inj
           rw [HPB.out, putL_eq, ← HQ.out]
           exact hh
          have HN := hide hnh
          clear hs hnh
          go_wp2_with fail
          go_roundw
          case rel => exact ⟨k + 1, by omega, by omega, by go_num, hb03, fun j j1 j2 j3 => if e : j = k then by rw [e]; exact HN.out else hmiss.out j j1 (by omega) j3⟩
          case measure => simp [intOf]; omega
      · have hpe : (((enc.putL q).length : Int) == (k : Int)) = false := by rw [beq_eq_false_iff_ne]; omega
        have hnh : ¬ Hit l k := by
         intro hh
         apply hpl
         have e1 : utf.putL (numL (ints (l.take k))) = ints (l.take k) := hh
         rw [HQ.out] at e1
         rw [putL_eq, e1, ints_len, HK.out]
        have HN := hide hnh
        clear hpl hnh
        go_wp2_with fail
        go_roundw
        case rel => exact ⟨k + 1, by omega, by omega, by go_num, hb02, fun j j1 j2 j3 => if e : j = k then by rw [e]; exact HN.out else hmiss.out j j1 (by omega) j3⟩
        case measure => simp [intOf]; omega
    · have hone := oneL_miss (l := l) (fun j j1 j2 j3 => hmiss.out j j1 (by have := HL.out; omega) j3)
      have HO := hide hone
      clear hone
      go_wp2_with fail
      go_ret2
      exact ⟨by rw [HO.out]; rfl, hb⟩
  · have hone := oneL_miss (l := l) (fun j j1 j2 j3 => hmiss.out j j1 (by omega) j3)
    have HO := hide hone
    clear hone
    go_wp2_with fail
    go_ret2
    exact ⟨by rw [HO.out]; rfl, hb⟩
theorem RefDecode_any (A : Option Addr) (n c B : Nat) (l : List UInt8) (w : World) (hr : Rd w B A (Lib.byteCells l)) (hB : B ≤ w.heap.size) (hl : l.length = n) (hc : n ≤ c) (hn : c ≤ maxLen) (hs : n ≤ 35184372088832) :
 Calls Tryz.prog 135 #[.slice A n c] w (DecPost l w) := by
 obtain ⟨i0, hi0, hz0, hz1, hz2⟩ := info_parts rune_info
 unfold maxLen at hn
 have HL := hide hl
 clear hl
 go_enter Tryz.func135, Tryz.ntmps135
 go_wp2
 go_loopw [4, 5] (fun v i wr => ∃ (pos : Nat) (acc : List Int), i = .int .i64 pos ∧ pos ≤ n ∧ wr.ownsRow w.heap.size 21 1 v acc.length (acc.map (Value.int .i32)) ∧ Below w.heap.size w wr ∧ Hid (At l pos acc)) (fun _ i _ => n - (intOf i).toNat)
 case atStart => exact ⟨0, [], rfl, by omega, World.ownsRow_nil _ _ _ _, Below.refl _ _, at_start _⟩
 case round =>
  obtain ⟨pos, acc, rfl, hpos, hown, hb, hat⟩ := hrel
  obtain ⟨Av, cv, rfl, _, _⟩ := own_slice hown
  by_cases hlt : pos < n
  · have hla := hat.out.2.2
    have hrd : Rd wr B (A.map (·.add pos)) (Lib.byteCells (l.drop pos)) := by
     rw [show Lib.byteCells (l.drop pos) = (Lib.byteCells l).drop pos by simp [Lib.byteCells, List.map_drop]]
     exact (hr.below' hb hB).drop pos
    have hne : l.drop pos ≠ [] := by intro e; have := congrArg List.length e; rw [List.length_drop, List.length_nil, HL.out] at this; omega
    have hdl : (l.drop pos).length = n - pos := by rw [List.length_drop, HL.out]
    have HN := hide hne
    have HD := hide hdl
    clear hne hdl
    go_wp2_with fail
    refine (One_any _ (n - pos) (c - pos) B (l.drop pos) _ hrd (Nat.le_trans hB hb.size) HD.out (by omega) (by simp only [maxLen]; omega)).mono ?_
    rintro e w1 ⟨rfl, hb1⟩
    have hb01 := hb.trans (hb1.mono hb.size)
    have hown1 := own_below hown hb1
    by_cases hbad : Bad (l.drop pos)
    · have hone : oneL (l.drop pos) = (0, 0) := if_pos (.inr hbad)
      have hfin := at_bad hat.out hbad
      have HF := hide hfin
      rw [hone]
      clear hone hbad hfin
      dsimp only
      go_wp2_with fail
      go_ret2
      exact ⟨.slice Av acc.length cv, by rw [HF.out]; rfl, by rw [HF.out]; exact hown1, hb01⟩
    · have hone : oneL (l.drop pos) = (((Lib.decodeL (l.drop pos)).1 : Int), (Lib.decodeL (l.drop pos)).2) := if_neg (by rintro (h | h); exact HN.out h; exact hbad h)
      have hgood := at_good hat.out (by rw [HL.out]; exact hlt) hbad
      have hw1 := Lib.decodeL_width (l.drop pos)
      have hle := Lib.decodeL_le (l.drop pos) HN.out
      rw [HD.out] at hle
      have hru := Lib.decodeL_rune (l.drop pos)
      rw [hone]
      generalize (Lib.decodeL (l.drop pos)).1 = r at *
      generalize (Lib.decodeL (l.drop pos)).2 = k at *
      have HG := hide hgood
      clear hone hbad hgood
      dsimp only
      have hk0 : ((k : Int) == 0) = false := by rw [beq_eq_false_iff_ne]; omega
      have hown2 := hown1.alloc (.cells #[.int .i32 r] 21)
      go_wp2_with (at_builtin; refine wpList_append_rd _ rfl _ _ 187 rfl w.heap.size 21 i0 (.int .i32 0) 1 4 Tryz.underlying187 hi0 hz0 hz1 hz2 rfl (by decide) _ _ _ rfl hown2 _ _ 1 1 _ rfl ?c1 (rd_one _ _ _ (Nat.lt_succ_self _)) (one_i32 _) ?c2 ?c3 ?c4 ?_)
      case c1 => rfl
      case c2 => simp only [maxLen]; omega
      case c3 => omega
      case c4 => exact Nat.le_trans hb01.size (by simp)
      intro v3 w3 hown3 hg3 _
      have hb3 := below_append (hb01.alloc hb01.size _) hown2 (Nat.le_refl _) hg3 (Nat.le_trans hb01.size (by simp))
      go_wp2_with fail
      go_roundw
      case rel =>
       refine ⟨pos + k, acc ++ [(r : Int)], by go_num, by omega, ?_, hb3, HG.out⟩
       rw [List.length_append, List.map_append]
       exact hown3
      case measure => simp [intOf]; omega
  · have hend := at_end hat.out (by rw [HL.out]; exact hlt)
    rw [HL.out] at hend
    have hpn : pos = n := by omega
    have HF := hide hend
    subst hpn
    clear hend
    go_wp2_with fail
    go_ret2
    exact ⟨.slice Av acc.length cv, by rw [HF.out]; rfl, by rw [HF.out]; exact hown, hb⟩
end Go.Proofs.YtbpgkkoeehopjaaGreat.one
namespace Go.Proofs.YtbpgkkoeehopjaaGreat.gram
open Go.RowKit Go.Proofs.YtbpgkkoeehopjaaGreat.words Go.Proofs.YtbpgkkoeehopjaaGreat.enc Go.Proofs.YtbpgkkoeehopjaaGreat.tree
structure TokD where
 kind : Int
 line : Int
 col : Int
 start : Int
 stop : Int
 text : Txt
 value : Txt
def tokC (t : TokD) : List Value := [.int .i64 t.kind, .int .i64 t.line, .int .i64 t.col, .int .i64 t.start, .int .i64 t.stop, .string (str t.text), .string (str t.value)]
abbrev tokV (t : TokD) : Value := .agg #[.int .i64 t.kind, .int .i64 t.line, .int .i64 t.col, .int .i64 t.start, .int .i64 t.stop, .string (str t.text), .string (str t.value)]
def wordsNo : Txt := [116, 114, 117, 101, 32, 102, 97, 108, 115, 101, 32, 110, 117, 108, 108]
def wordsRoot : Txt := [113, 117, 101, 114, 121, 32, 109, 117, 116, 97, 116, 105, 111, 110, 32, 115, 117, 98, 115, 99, 114, 105, 112, 116, 105, 111, 110]
def wordsPlace : Txt := [81, 85, 69, 82, 89, 32, 77, 85, 84, 65, 84, 73, 79, 78, 32, 83, 85, 66, 83, 67, 82, 73, 80, 84, 73, 79, 78, 32, 70, 73, 69, 76, 68, 32, 70, 82, 65, 71, 77, 69, 78, 84, 95, 68, 69, 70, 73, 78, 73, 84, 73, 79, 78, 32, 70, 82, 65, 71, 77, 69, 78, 84, 95, 83, 80, 82, 69, 65, 68, 32, 73, 78, 76, 73, 78, 69, 95, 70, 82, 65, 71, 77, 69, 78, 84, 32, 86, 65, 82, 73, 65, 66, 76, 69, 95, 68, 69, 70, 73, 78, 73, 84, 73, 79, 78, 32, 83, 67, 72, 69, 77, 65, 32, 83, 67, 65, 76, 65, 82, 32, 79, 66, 74, 69, 67, 84, 32, 70, 73, 69, 76, 68, 95, 68, 69, 70, 73, 78, 73, 84, 73, 79, 78, 32, 65, 82, 71, 85, 77, 69, 78, 84, 95, 68, 69, 70, 73, 78, 73, 84, 73, 79, 78, 32, 73, 78, 84, 69, 82, 70, 65, 67, 69, 32, 85, 78, 73, 79, 78, 32, 69, 78, 85, 77, 32, 69, 78, 85, 77, 95, 86, 65, 76, 85, 69, 32, 73, 78, 80, 85, 84, 95, 79, 66, 74, 69, 67, 84, 32, 73, 78, 80, 85, 84, 95, 70, 73, 69, 76, 68, 95, 68, 69, 70, 73, 78, 73, 84, 73, 79, 78]
def fitsF (s : Txt) (t : TokD) : Bool :=
 if s = [46, 110, 97, 109, 101] then t.kind == 3
 else if s = [46, 99, 97, 115, 101] then (t.kind == 3) && !amongF t.text wordsNo
 else if s = [46, 114, 111, 111, 116] then (t.kind == 3) && amongF t.text wordsRoot
 else if s = [46, 112, 108, 97, 99, 101] then (t.kind == 3) && amongF t.text wordsPlace
 else if s = [46, 115, 116, 114] then (t.kind == 6) || (t.kind == 7)
 else if s = [46, 110, 117, 109] then (t.kind == 4) || (t.kind == 5)
 else if s = [46, 101, 110, 100] then t.kind == 0
 else match s with
  | [] => false
  | c :: r => if c = 39 then (t.kind == 3) && decide (t.text = r) else (t.kind == 2) && decide (t.text = c :: r)
set_option maxRecDepth 100000 in
set_option maxHeartbeats 2000000 in
theorem fits_n (s : Txt) (kind line col start stop : Int) (text value : Txt) (w : World) (e0 : ((str s).toList == [46, 110, 97, 109, 101]) = true) :
 Calls Tryz.prog 141 #[.string (str s), .agg #[.int .i64 kind, .int .i64 line, .int .i64 col, .int .i64 start, .int .i64 stop, .string (str text), .string (str value)]] w fun e w' => e = .returned (.bool (kind == 3)) ∧ Below w.heap.size w w' := by
 have hB := (Below.refl w.heap.size w).alloc (Nat.le_refl _) (.cells #[.int .i64 kind, .int .i64 line, .int .i64 col, .int .i64 start, .int .i64 stop, .string (str text), .string (str value)] 148)
 go_enter Tryz.func141, Tryz.ntmps141
 go_wp2_with fail
 go_ret
 exact ⟨rfl, hB⟩
set_option maxRecDepth 100000 in
set_option maxHeartbeats 2000000 in
theorem fits_c (s : Txt) (kind line col start stop : Int) (text value : Txt) (w : World) (e0 : ((str s).toList == [46, 110, 97, 109, 101]) = false) (e1 : ((str s).toList == [46, 99, 97, 115, 101]) = true)  :
 Calls Tryz.prog 141 #[.string (str s), .agg #[.int .i64 kind, .int .i64 line, .int .i64 col, .int .i64 start, .int .i64 stop, .string (str text), .string (str value)]] w fun e w' => e = .returned (.bool ((kind == 3) && !amongF text wordsNo)) ∧ Below w.heap.size w w' := by
 have hB := (Below.refl w.heap.size w).alloc (Nat.le_refl _) (.cells #[.int .i64 kind, .int .i64 line, .int .i64 col, .int .i64 start, .int .i64 stop, .string (str text), .string (str value)] 148)
 obtain ⟨b, hb⟩ : ∃ b, amongF text wordsNo = b := ⟨_, rfl⟩
 rw [hb]
 have HB := hide hb
 clear hb
 cases h1 : (kind == 3)
 · have h1' : ((kind : Int) == 3) = false := h1
   go_enter Tryz.func141, Tryz.ntmps141
   go_wp2_with fail
   go_ret
   exact ⟨rfl, hB⟩
 · have h1' : ((kind : Int) == 3) = true := h1
   go_enter Tryz.func141, Tryz.ntmps141
   go_wp2_with fail
   refine (among_any text wordsNo _ (by decide)).mono ?_
   rintro e w1 ⟨rfl, hb1⟩
   rw [HB.out]
   go_wp2_with fail
   go_ret
   exact ⟨by cases b <;> rfl, hB.trans (hb1.mono (by simp))⟩
set_option maxRecDepth 100000 in
set_option maxHeartbeats 2000000 in
theorem fits_r (s : Txt) (kind line col start stop : Int) (text value : Txt) (w : World) (e0 : ((str s).toList == [46, 110, 97, 109, 101]) = false) (e1 : ((str s).toList == [46, 99, 97, 115, 101]) = false) (e2 : ((str s).toList == [46, 114, 111, 111, 116]) = true)  :
 Calls Tryz.prog 141 #[.string (str s), .agg #[.int .i64 kind, .int .i64 line, .int .i64 col, .int .i64 start, .int .i64 stop, .string (str text), .string (str value)]] w fun e w' => e = .returned (.bool ((kind == 3) && amongF text wordsRoot)) ∧ Below w.heap.size w w' := by
 have hB := (Below.refl w.heap.size w).alloc (Nat.le_refl _) (.cells #[.int .i64 kind, .int .i64 line, .int .i64 col, .int .i64 start, .int .i64 stop, .string (str text), .string (str value)] 148)
 obtain ⟨b, hb⟩ : ∃ b, amongF text wordsRoot = b := ⟨_, rfl⟩
 rw [hb]
 have HB := hide hb
 clear hb
 cases h1 : (kind == 3)
 · have h1' : ((kind : Int) == 3) = false := h1
   go_enter Tryz.func141, Tryz.ntmps141
   go_wp2_with fail
   go_ret
   exact ⟨rfl, hB⟩
 · have h1' : ((kind : Int) == 3) = true := h1
   go_enter Tryz.func141, Tryz.ntmps141
   go_wp2_with fail
   refine (among_any text wordsRoot _ (by decide)).mono ?_
   rintro e w1 ⟨rfl, hb1⟩
   rw [HB.out]
   go_wp2_with fail
   go_ret
   exact ⟨by cases b <;> rfl, hB.trans (hb1.mono (by simp))⟩
set_option maxRecDepth 100000 in
set_option maxHeartbeats 2000000 in
theorem fits_p (s : Txt) (kind line col start stop : Int) (text value : Txt) (w : World) (e0 : ((str s).toList == [46, 110, 97, 109, 101]) = false) (e1 : ((str s).toList == [46, 99, 97, 115, 101]) = false) (e2 : ((str s).toList == [46, 114, 111, 111, 116]) = false) (e3 : ((str s).toList == [46, 112, 108, 97, 99, 101]) = true)  :
 Calls Tryz.prog 141 #[.string (str s), .agg #[.int .i64 kind, .int .i64 line, .int .i64 col, .int .i64 start, .int .i64 stop, .string (str text), .string (str value)]] w fun e w' => e = .returned (.bool ((kind == 3) && amongF text wordsPlace)) ∧ Below w.heap.size w w' := by
 have hB := (Below.refl w.heap.size w).alloc (Nat.le_refl _) (.cells #[.int .i64 kind, .int .i64 line, .int .i64 col, .int .i64 start, .int .i64 stop, .string (str text), .string (str value)] 148)
 obtain ⟨b, hb⟩ : ∃ b, amongF text wordsPlace = b := ⟨_, rfl⟩
 rw [hb]
 have HB := hide hb
 clear hb
 cases h1 : (kind == 3)
 · have h1' : ((kind : Int) == 3) = false := h1
   go_enter Tryz.func141, Tryz.ntmps141
   go_wp2_with fail
   go_ret
   exact ⟨rfl, hB⟩
 · have h1' : ((kind : Int) == 3) = true := h1
   go_enter Tryz.func141, Tryz.ntmps141
   go_wp2_with fail
   refine (among_any text wordsPlace _ (by decide)).mono ?_
   rintro e w1 ⟨rfl, hb1⟩
   rw [HB.out]
   go_wp2_with fail
   go_ret
   exact ⟨by cases b <;> rfl, hB.trans (hb1.mono (by simp))⟩
set_option maxRecDepth 100000 in
set_option maxHeartbeats 2000000 in
theorem fits_s (s : Txt) (kind line col start stop : Int) (text value : Txt) (w : World) (e0 : ((str s).toList == [46, 110, 97, 109, 101]) = false) (e1 : ((str s).toList == [46, 99, 97, 115, 101]) = false) (e2 : ((str s).toList == [46, 114, 111, 111, 116]) = false) (e3 : ((str s).toList == [46, 112, 108, 97, 99, 101]) = false) (e4 : ((str s).toList == [46, 115, 116, 114]) = true)  :
 Calls Tryz.prog 141 #[.string (str s), .agg #[.int .i64 kind, .int .i64 line, .int .i64 col, .int .i64 start, .int .i64 stop, .string (str text), .string (str value)]] w fun e w' => e = .returned (.bool ((kind == 6) || (kind == 7))) ∧ Below w.heap.size w w' := by
 have hB := (Below.refl w.heap.size w).alloc (Nat.le_refl _) (.cells #[.int .i64 kind, .int .i64 line, .int .i64 col, .int .i64 start, .int .i64 stop, .string (str text), .string (str value)] 148)
 cases h1 : (kind == 6)
 · have h1' : ((kind : Int) == 6) = false := h1
   go_enter Tryz.func141, Tryz.ntmps141
   go_wp2_with fail
   go_ret
   exact ⟨rfl, hB⟩
 · have h1' : ((kind : Int) == 6) = true := h1
   go_enter Tryz.func141, Tryz.ntmps141
   go_wp2_with fail
   go_ret
   exact ⟨rfl, hB⟩
set_option maxRecDepth 100000 in
set_option maxHeartbeats 2000000 in
theorem fits_m (s : Txt) (kind line col start stop : Int) (text value : Txt) (w : World) (e0 : ((str s).toList == [46, 110, 97, 109, 101]) = false) (e1 : ((str s).toList == [46, 99, 97, 115, 101]) = false) (e2 : ((str s).toList == [46, 114, 111, 111, 116]) = false) (e3 : ((str s).toList == [46, 112, 108, 97, 99, 101]) = false) (e4 : ((str s).toList == [46, 115, 116, 114]) = false) (e5 : ((str s).toList == [46, 110, 117, 109]) = true)  :
 Calls Tryz.prog 141 #[.string (str s), .agg #[.int .i64 kind, .int .i64 line, .int .i64 col, .int .i64 start, .int .i64 stop, .string (str text), .string (str value)]] w fun e w' => e = .returned (.bool ((kind == 4) || (kind == 5))) ∧ Below w.heap.size w w' := by
 have hB := (Below.refl w.heap.size w).alloc (Nat.le_refl _) (.cells #[.int .i64 kind, .int .i64 line, .int .i64 col, .int .i64 start, .int .i64 stop, .string (str text), .string (str value)] 148)
 cases h1 : (kind == 4)
 · have h1' : ((kind : Int) == 4) = false := h1
   go_enter Tryz.func141, Tryz.ntmps141
   go_wp2_with fail
   go_ret
   exact ⟨rfl, hB⟩
 · have h1' : ((kind : Int) == 4) = true := h1
   go_enter Tryz.func141, Tryz.ntmps141
   go_wp2_with fail
   go_ret
   exact ⟨rfl, hB⟩
set_option maxRecDepth 100000 in
set_option maxHeartbeats 2000000 in
theorem fits_e (s : Txt) (kind line col start stop : Int) (text value : Txt) (w : World) (e0 : ((str s).toList == [46, 110, 97, 109, 101]) = false) (e1 : ((str s).toList == [46, 99, 97, 115, 101]) = false) (e2 : ((str s).toList == [46, 114, 111, 111, 116]) = false) (e3 : ((str s).toList == [46, 112, 108, 97, 99, 101]) = false) (e4 : ((str s).toList == [46, 115, 116, 114]) = false) (e5 : ((str s).toList == [46, 110, 117, 109]) = false) (e6 : ((str s).toList == [46, 101, 110, 100]) = true) :
 Calls Tryz.prog 141 #[.string (str s), .agg #[.int .i64 kind, .int .i64 line, .int .i64 col, .int .i64 start, .int .i64 stop, .string (str text), .string (str value)]] w fun e w' => e = .returned (.bool (kind == 0)) ∧ Below w.heap.size w w' := by
 have hB := (Below.refl w.heap.size w).alloc (Nat.le_refl _) (.cells #[.int .i64 kind, .int .i64 line, .int .i64 col, .int .i64 start, .int .i64 stop, .string (str text), .string (str value)] 148)
 go_enter Tryz.func141, Tryz.ntmps141
 go_wp2_with fail
 go_ret
 exact ⟨rfl, hB⟩
set_option maxRecDepth 100000 in
set_option maxHeartbeats 2000000 in
theorem fits_q (s : Txt) (c : UInt8) (r : Txt) (kind line col start stop : Int) (text value : Txt) (w : World) (e0 : ((str s).toList == [46, 110, 97, 109, 101]) = false) (e1 : ((str s).toList == [46, 99, 97, 115, 101]) = false) (e2 : ((str s).toList == [46, 114, 111, 111, 116]) = false) (e3 : ((str s).toList == [46, 112, 108, 97, 99, 101]) = false) (e4 : ((str s).toList == [46, 115, 116, 114]) = false) (e5 : ((str s).toList == [46, 110, 117, 109]) = false) (e6 : ((str s).toList == [46, 101, 110, 100]) = false) (hp : 0 < (str s).size) (hg : (str s)[0]'hp = c) (hx : (str s).extract 1 (str s).size = str r) (h63 : (str s).size ≤ 9223372036854775807) (q2 : ((str text).toList == (str r).toList) = decide (text = r)) (h39 : ((c.toNat : Int) == 39) = true) :
 Calls Tryz.prog 141 #[.string (str s), .agg #[.int .i64 kind, .int .i64 line, .int .i64 col, .int .i64 start, .int .i64 stop, .string (str text), .string (str value)]] w fun e w' => e = .returned (.bool ((kind == 3) && decide (text = r))) ∧ Below w.heap.size w w' := by
 have hB := (Below.refl w.heap.size w).alloc (Nat.le_refl _) (.cells #[.int .i64 kind, .int .i64 line, .int .i64 col, .int .i64 start, .int .i64 stop, .string (str text), .string (str value)] 148)
 obtain ⟨b, hb⟩ : ∃ b, decide (text = r) = b := ⟨_, rfl⟩
 rw [hb] at q2 ⊢
 clear hb
 cases h1 : (kind == 3)
 · have h1' : ((kind : Int) == 3) = false := h1
   go_enter Tryz.func141, Tryz.ntmps141
   go_wp2_with fail
   go_quiet (fail)
   go_wp2_with fail
   go_ret
   exact ⟨rfl, below_drewN hB _⟩
 · have h1' : ((kind : Int) == 3) = true := h1
   go_enter Tryz.func141, Tryz.ntmps141
   go_wp2_with fail
   go_quiet (fail)
   go_wp2_with fail
   go_ret
   exact ⟨rfl, below_drewN hB _⟩
set_option maxRecDepth 100000 in
set_option maxHeartbeats 2000000 in
theorem fits_x (s : Txt) (c : UInt8) (r : Txt) (kind line col start stop : Int) (text value : Txt) (w : World) (e0 : ((str s).toList == [46, 110, 97, 109, 101]) = false) (e1 : ((str s).toList == [46, 99, 97, 115, 101]) = false) (e2 : ((str s).toList == [46, 114, 111, 111, 116]) = false) (e3 : ((str s).toList == [46, 112, 108, 97, 99, 101]) = false) (e4 : ((str s).toList == [46, 115, 116, 114]) = false) (e5 : ((str s).toList == [46, 110, 117, 109]) = false) (e6 : ((str s).toList == [46, 101, 110, 100]) = false) (hp : 0 < (str s).size) (hg : (str s)[0]'hp = c) (hx : (str s).extract 1 (str s).size = str r) (h63 : (str s).size ≤ 9223372036854775807) (q2 : ((str text).toList == (str s).toList) = decide (text = s)) (h39 : ((c.toNat : Int) == 39) = false) :
 Calls Tryz.prog 141 #[.string (str s), .agg #[.int .i64 kind, .int .i64 line, .int .i64 col, .int .i64 start, .int .i64 stop, .string (str text), .string (str value)]] w fun e w' => e = .returned (.bool ((kind == 2) && decide (text = s))) ∧ Below w.heap.size w w' := by
 have hB := (Below.refl w.heap.size w).alloc (Nat.le_refl _) (.cells #[.int .i64 kind, .int .i64 line, .int .i64 col, .int .i64 start, .int .i64 stop, .string (str text), .string (str value)] 148)
 obtain ⟨b, hb⟩ : ∃ b, decide (text = s) = b := ⟨_, rfl⟩
 rw [hb] at q2 ⊢
 clear hb
 cases h1 : (kind == 2)
 · have h1' : ((kind : Int) == 2) = false := h1
   go_enter Tryz.func141, Tryz.ntmps141
   go_wp2_with fail
   go_ret
   exact ⟨rfl, hB⟩
 · have h1' : ((kind : Int) == 2) = true := h1
   go_enter Tryz.func141, Tryz.ntmps141
   go_wp2_with fail
   go_ret
   exact ⟨rfl, hB⟩
theorem fits_any (s : Txt) (t : TokD) (w : World) (hs : 0 < s.length) (h63 : s.length ≤ 1099511627776) :
 Calls Tryz.prog 141 #[.string (str s), tokV t] w fun e w' => e = .returned (.bool (fitsF s t)) ∧ Below w.heap.size w w' := by
 obtain ⟨kind, line, col, start, stop, text, value⟩ := t
 by_cases c0 : s = [46, 110, 97, 109, 101]
 · have hr : fitsF s ⟨kind, line, col, start, stop, text, value⟩ = (kind == 3) := by unfold fitsF; rw [if_pos c0]
   rw [hr]
   exact fits_n s kind line col start stop text value w (by rw [str_is]; exact decide_eq_true c0)
 by_cases c1 : s = [46, 99, 97, 115, 101]
 · have hr : fitsF s ⟨kind, line, col, start, stop, text, value⟩ = ((kind == 3) && !amongF text wordsNo) := by unfold fitsF; rw [if_neg c0, if_pos c1]
   rw [hr]
   exact fits_c s kind line col start stop text value w (by rw [str_is]; exact decide_eq_false c0) (by rw [str_is]; exact decide_eq_true c1)
 by_cases c2 : s = [46, 114, 111, 111, 116]
 · have hr : fitsF s ⟨kind, line, col, start, stop, text, value⟩ = ((kind == 3) && amongF text wordsRoot) := by unfold fitsF; rw [if_neg c0, if_neg c1, if_pos c2]
   rw [hr]
   exact fits_r s kind line col start stop text value w (by rw [str_is]; exact decide_eq_false c0) (by rw [str_is]; exact decide_eq_false c1) (by rw [str_is]; exact decide_eq_true c2)
 by_cases c3 : s = [46, 112, 108, 97, 99, 101]
 · have hr : fitsF s ⟨kind, line, col, start, stop, text, value⟩ = ((kind == 3) && amongF text wordsPlace) := by unfold fitsF; rw [if_neg c0, if_neg c1, if_neg c2, if_pos c3]
   rw [hr]
   exact fits_p s kind line col start stop text value w (by rw [str_is]; exact decide_eq_false c0) (by rw [str_is]; exact decide_eq_false c1) (by rw [str_is]; exact decide_eq_false c2) (by rw [str_is]; exact decide_eq_true c3)
 by_cases c4 : s = [46, 115, 116, 114]
 · have hr : fitsF s ⟨kind, line, col, start, stop, text, value⟩ = ((kind == 6) || (kind == 7)) := by unfold fitsF; rw [if_neg c0, if_neg c1, if_neg c2, if_neg c3, if_pos c4]
   rw [hr]
   exact fits_s s kind line col start stop text value w (by rw [str_is]; exact decide_eq_false c0) (by rw [str_is]; exact decide_eq_false c1) (by rw [str_is]; exact decide_eq_false c2) (by rw [str_is]; exact decide_eq_false c3) (by rw [str_is]; exact decide_eq_true c4)
 by_cases c5 : s = [46, 110, 117, 109]
 · have hr : fitsF s ⟨kind, line, col, start, stop, text, value⟩ = ((kind == 4) || (kind == 5)) := by unfold fitsF; rw [if_neg c0, if_neg c1, if_neg c2, if_neg c3, if_neg c4, if_pos c5]
   rw [hr]
   exact fits_m s kind line col start stop text value w (by rw [str_is]; exact decide_eq_false c0) (by rw [str_is]; exact decide_eq_false c1) (by rw [str_is]; exact decide_eq_false c2) (by rw [str_is]; exact decide_eq_false c3) (by rw [str_is]; exact decide_eq_false c4) (by rw [str_is]; exact decide_eq_true c5)
 by_cases c6 : s = [46, 101, 110, 100]
 · have hr : fitsF s ⟨kind, line, col, start, stop, text, value⟩ = (kind == 0) := by unfold fitsF; rw [if_neg c0, if_neg c1, if_neg c2, if_neg c3, if_neg c4, if_neg c5, if_pos c6]
   rw [hr]
   exact fits_e s kind line col start stop text value w (by rw [str_is]; exact decide_eq_false c0) (by rw [str_is]; exact decide_eq_false c1) (by rw [str_is]; exact decide_eq_false c2) (by rw [str_is]; exact decide_eq_false c3) (by rw [str_is]; exact decide_eq_false c4) (by rw [str_is]; exact decide_eq_false c5) (by rw [str_is]; exact decide_eq_true c6)
 obtain ⟨c, r, rfl⟩ : ∃ c r, s = c :: r := by cases s with | nil => simp at hs | cons c r => exact ⟨c, r, rfl⟩
 have hr : fitsF (c :: r) ⟨kind, line, col, start, stop, text, value⟩ = if c = 39 then (kind == 3) && decide (text = r) else (kind == 2) && decide (text = c :: r) := by
  unfold fitsF
  rw [if_neg c0, if_neg c1, if_neg c2, if_neg c3, if_neg c4, if_neg c5, if_neg c6]
 rw [hr]
 have hsz := str_size (c :: r)
 have hp : 0 < (str (c :: r)).size := by rw [hsz]; simp
 have hg : (str (c :: r))[0]'hp = c := str_get (l := c :: r) (by simp) hp
 have hx : (str (c :: r)).extract 1 (str (c :: r)).size = str r := by rw [str_extract, str_size]; simp
 have h63' : (str (c :: r)).size ≤ 9223372036854775807 := by rw [hsz]; omega
 by_cases h39 : c = 39
 · rw [if_pos h39]
   exact fits_q (c :: r) c r kind line col start stop text value w (by rw [str_is]; exact decide_eq_false c0) (by rw [str_is]; exact decide_eq_false c1) (by rw [str_is]; exact decide_eq_false c2) (by rw [str_is]; exact decide_eq_false c3) (by rw [str_is]; exact decide_eq_false c4) (by rw [str_is]; exact decide_eq_false c5) (by rw [str_is]; exact decide_eq_false c6) hp hg hx h63' (str_eq _ _) (by rw [h39]; rfl)
 · rw [if_neg h39]
   exact fits_x (c :: r) c r kind line col start stop text value w (by rw [str_is]; exact decide_eq_false c0) (by rw [str_is]; exact decide_eq_false c1) (by rw [str_is]; exact decide_eq_false c2) (by rw [str_is]; exact decide_eq_false c3) (by rw [str_is]; exact decide_eq_false c4) (by rw [str_is]; exact decide_eq_false c5) (by rw [str_is]; exact decide_eq_false c6) hp hg hx h63' (str_eq _ _) (by rw [beq_eq_false_iff_ne]; intro e; exact h39 (UInt8.toNat_inj.1 (show _ = 39 by omega)))
def allO (g : Txt → Option Bool) : List Txt → Option Bool
 | [] => some true
 | s :: r => match g s with
  | none => none
  | some true => allO g r
  | some false => some false
def anyO (g : List Txt → Option Bool) : List (List Txt) → Option Bool
 | [] => some false
 | c :: r => match g c with
  | none => none
  | some true => some true
  | some false => anyO g r
def nullF (R : List RuleD) : Nat → Txt → Option Bool
 | 0, _ => none
 | f + 1, s => if s = [] then none else if ruleF s = true then anyO (allO (nullF R f)) (choicesF R s) else some false
theorem all_step {g : Txt → Option Bool} {l : List Txt} {k : Nat} {x : Txt} {b : Bool} (h : allO g (l.drop k) = some b) (hk : l[k]? = some x) : ∃ a, g x = some a ∧ (a = true → allO g (l.drop (k + 1)) = some b) ∧ (a = false → b = false) := by
 obtain ⟨hk', rfl⟩ := List.getElem?_eq_some_iff.1 hk
 rw [List.drop_eq_getElem_cons hk', allO] at h
 cases hg : g l[k] with
 | none => rw [hg] at h; cases h
 | some a =>
  rw [hg] at h
  cases a with
  | true => exact ⟨true, rfl, fun _ => h, fun e => by cases e⟩
  | false => injection h with h; exact ⟨false, rfl, fun e => (by cases e), fun _ => h.symm⟩
theorem any_step {g : List Txt → Option Bool} {l : List (List Txt)} {k : Nat} {x : List Txt} {b : Bool} (h : anyO g (l.drop k) = some b) (hk : l[k]? = some x) : ∃ a, g x = some a ∧ (a = false → anyO g (l.drop (k + 1)) = some b) ∧ (a = true → b = true) := by
 obtain ⟨hk', rfl⟩ := List.getElem?_eq_some_iff.1 hk
 rw [List.drop_eq_getElem_cons hk', anyO] at h
 cases hg : g l[k] with
 | none => rw [hg] at h; cases h
 | some a =>
  rw [hg] at h
  cases a with
  | false => exact ⟨false, rfl, fun _ => h, fun e => by cases e⟩
  | true => injection h with h; exact ⟨true, rfl, fun e => (by cases e), fun _ => h.symm⟩
theorem ch_at {w : World} {S : Nat → Prop} {L : List (List Txt)} {A : Option Addr} {vs : List Value} {k : Nat} {l : List Txt} (h : ReadsL w S (chL L) vs) (hA : RdS w S A vs) (hk : L[k]? = some l) :
 ∃ ad Al cl us, A = some ad ∧ w.cell? (ad.add k) = some (.slice Al l.length cl) ∧ l.length ≤ cl ∧ cl ≤ maxLen ∧ ReadsL w S (strL l) us ∧ RdS w S Al us := by
 obtain ⟨v, hv, hr⟩ := h.at (chL_at hk)
 obtain ⟨Al, cl, us, rfl, h1, h2, h3, h4⟩ := reads_list hr
 obtain ⟨ad, rfl, _, hc⟩ := hA.at hv
 exact ⟨ad, Al, cl, us, rfl, hc, h1, h2, h3, h4⟩
set_option maxRecDepth 100000 in
set_option maxHeartbeats 4000000 in
theorem nullable_any (S : Nat → Prop) (R : List RuleD) (A : Option Addr) (n c : Nat) (w : World) (hR : Reads w S (.list R.length (rulesL R)) (.slice A n c)) :
 ∀ (f : Nat) (s : Txt) (b : Bool), nullF R f s = some b →
 Calls Tryz.prog 174 #[.slice A n c, .string (str s)] w fun e w' => e = .returned (.bool b) ∧ w' = w
 | 0, s, b, h => by cases h
 | f + 1, s, b, h => by
  have ih := nullable_any S R A n c w hR f
  rw [nullF] at h
  by_cases hs : s = []
  · rw [if_pos hs] at h; cases h
  rw [if_neg hs] at h
  have hs0 : 0 < s.length := List.length_pos_iff.2 hs
  cases hru : ruleF s with
  | false =>
   rw [hru, if_neg (by decide)] at h
   injection h with h
   subst h
   have HRU := hide hru
   clear hru
   go_enter Tryz.func174, Tryz.ntmps174
   go_wp2_with fail
   refine (rule_any s _ hs0).mono ?_
   rintro e w' ⟨rfl, rfl⟩
   rw [HRU.out]
   go_wp2_with fail
   go_ret
   exact ⟨rfl, rfl⟩
  | true =>
   rw [hru, if_pos rfl] at h
   have HRU := hide hru
   have HH := hide h
   have IH := hide ih
   clear hru h ih hs
   go_enter Tryz.func174, Tryz.ntmps174
   go_wp2_with fail
   refine (rule_any s _ hs0).mono ?_
   rintro e w' ⟨rfl, rfl⟩
   rw [HRU.out]
   go_wp2_with fail
   refine (choices_any S R A n c s _ hR).mono ?_
   rintro e w' ⟨v, rfl, rfl, hv⟩
   obtain ⟨Ac, cc, vs, rfl, hmc, hcm, hcl, hcd⟩ := reads_list hv
   obtain ⟨L, hL⟩ : ∃ L, choicesF R s = L := ⟨_, rfl⟩
   have h' := HH.out
   rw [hL] at h' hcl hmc
   rw [hL]
   obtain ⟨m, hm⟩ : ∃ m, L.length = m := ⟨_, rfl⟩
   rw [hm] at hmc
   rw [hm]
   have hm63 : m ≤ 9223372036854775807 := by simp only [maxLen] at hcm; omega
   have HM := hide hm
   have HH := hide h'
   clear h' hm hL hv
   go_wp2_with fail
   go_loop [6] (fun i => ∃ k : Nat, k ≤ m ∧ i = .int .i64 k ∧ Hid (anyO (allO (nullF R f)) (L.drop k) = some b)) (fun i => m - (intOf i).toNat)
   case atStart => exact ⟨0, Nat.zero_le _, rfl, HH.out⟩
   case round =>
    obtain ⟨k, hk, rfl, hany⟩ := hrel
    by_cases hlt : k < m
    · have hkI : (k : Int) < (m : Int) := by omega
      obtain ⟨l, hl⟩ : ∃ l, L[k]? = some l := ⟨_, List.getElem?_eq_getElem (by rw [HM.out]; exact hlt)⟩
      obtain ⟨ad, Al, cl, us, rfl, hc0, hlc, hclm, hul, hud⟩ := ch_at hcl hcd hl
      obtain ⟨a, ha, hstep, hend⟩ := any_step hany.out hl
      obtain ⟨p, hp⟩ : ∃ p, l.length = p := ⟨_, rfl⟩
      rw [hp] at hc0 hlc
      have hp63 : p ≤ 9223372036854775807 := by simp only [maxLen] at hclm; omega
      have HP := hide hp
      have HA := hide ha
      have HST := hide hstep
      have HEN := hide hend
      clear hl hp ha hstep hend hany
      go_wp2_with fail
      go_loop [7, 8] (fun q j => ∃ (t : Nat) (x : Bool), t ≤ p ∧ j = .int .i64 t ∧ q = .bool x ∧ Hid (if x = true then allO (nullF R f) (l.drop t) = some a else a = false)) (fun _ j => p - (intOf j).toNat)
      case atStart => exact ⟨0, true, Nat.zero_le _, rfl, rfl, HA.out⟩
      case round =>
       obtain ⟨t, x, ht, rfl, rfl, hx⟩ := hrel
       by_cases hlt2 : t < p
       · have htI : (t : Int) < (p : Int) := by omega
         cases x with
         | false =>
          go_wp2_with fail
          go_round
          case rel => exact ⟨t + 1, false, by omega, by go_num, rfl, hx⟩
          case measure => simp [intOf]; omega
         | true =>
          obtain ⟨y, hy⟩ : ∃ y, l[t]? = some y := ⟨_, List.getElem?_eq_getElem (by rw [HP.out]; exact hlt2)⟩
          obtain ⟨adl, rfl, hcs⟩ := str_at hul hud hy
          have hx' : allO (nullF R f) (l.drop t) = some a := hx.out
          obtain ⟨z, hz, hz1, hz2⟩ := all_step hx' hy
          have hcall := IH.out y z hz
          have HZ := hide (show if z = true then allO (nullF R f) (l.drop (t + 1)) = some a else a = false by cases z with | true => exact hz1 rfl | false => exact hz2 rfl)
          clear hy hz hz1 hz2 hx'
          go_wp2_with fail
          refine hcall.mono ?_
          rintro e w' ⟨rfl, rfl⟩
          clear hcall
          go_wp2_with fail
          go_round
          case rel => exact ⟨t + 1, z, by omega, by go_num, rfl, HZ⟩
          case measure => simp [intOf]; omega
       · obtain rfl : t = p := by omega
         have hxa : x = a := by
          have h1 := hx.out
          cases x with
          | true => rw [if_pos rfl, List.drop_of_length_le (by rw [HP.out]; exact Nat.le_refl _), allO] at h1; injection h1
          | false => rw [if_neg (by decide)] at h1; exact h1.symm
         subst hxa
         cases x with
         | true =>
          have hbt := HEN.out rfl
          subst hbt
          go_wp2_with fail
          go_ret
          exact ⟨rfl, rfl⟩
         | false =>
          have hst := HST.out rfl
          have HS2 := hide hst
          clear hst
          go_wp2_with fail
          go_round
          case rel => exact ⟨k + 1, by omega, by go_num, HS2⟩
          case measure => simp [intOf]; omega
    · obtain rfl : k = m := by omega
      have hbf : b = false := by
       have h1 := hany.out
       rw [List.drop_of_length_le (by rw [HM.out]; exact Nat.le_refl _), anyO] at h1
       injection h1 with h1
       exact h1.symm
      subst hbf
      go_wp2_with fail
      go_ret
      exact ⟨rfl, rfl⟩
def begSyms (g : List Txt → Option Bool) (nu : Txt → Option Bool) (R : List RuleD) (t : TokD) : List Txt → Option Bool
 | [] => some false
 | s :: r =>
  if s = [] ∨ 1000 < s.length then none
  else if ruleF s = true then
   match anyO g (choicesF R s) with
   | none => none
   | some true => some true
   | some false => match nu s with
    | none => none
    | some true => begSyms g nu R t r
    | some false => some false
  else some (fitsF s t)
def begF (R : List RuleD) (nf : Nat) (t : TokD) : Nat → List Txt → Option Bool
 | 0, _ => none
 | f + 1, l => begSyms (begF R nf t f) (nullF R nf) R t l
theorem beg_step {g : List Txt → Option Bool} {nu : Txt → Option Bool} {R : List RuleD} {t : TokD} {l : List Txt} {k : Nat} {s : Txt} {b : Bool} (h : begSyms g nu R t (l.drop k) = some b) (hk : l[k]? = some s) :
 0 < s.length ∧ s.length ≤ 1000 ∧ (ruleF s = false → b = fitsF s t) ∧
  (ruleF s = true → ∃ a, anyO g (choicesF R s) = some a ∧ (a = true → b = true) ∧ (a = false → ∃ z, nu s = some z ∧ (z = true → begSyms g nu R t (l.drop (k + 1)) = some b) ∧ (z = false → b = false))) := by
 obtain ⟨hk', rfl⟩ := List.getElem?_eq_some_iff.1 hk
 rw [List.drop_eq_getElem_cons hk', begSyms] at h
 by_cases h0 : l[k] = [] ∨ 1000 < l[k].length
 · rw [if_pos h0] at h; cases h
 rw [if_neg h0] at h
 refine ⟨List.length_pos_iff.2 (fun e => h0 (.inl e)), by omega, fun hr => ?_, fun hr => ?_⟩
 · rw [hr, if_neg (by decide)] at h; injection h with h; exact h.symm
 · rw [hr, if_pos rfl] at h
   cases ha : anyO g (choicesF R l[k]) with
   | none => rw [ha] at h; cases h
   | some a =>
    rw [ha] at h
    cases a with
    | true => injection h with h; exact ⟨true, rfl, fun _ => h.symm, fun e => by cases e⟩
    | false =>
     refine ⟨false, rfl, fun e => (by cases e), fun _ => ?_⟩
     cases hz : nu l[k] with
     | none => rw [hz] at h; cases h
     | some z =>
      rw [hz] at h
      cases z with
      | true => exact ⟨true, rfl, fun _ => h, fun e => by cases e⟩
      | false => injection h with h; exact ⟨false, rfl, fun e => (by cases e), fun _ => h.symm⟩
def TokAt (w : World) (g : Nat) (t : TokD) : Prop := w.heap[g]? = some (.cells #[.int .i64 t.kind, .int .i64 t.line, .int .i64 t.col, .int .i64 t.start, .int .i64 t.stop, .string (str t.text), .string (str t.value)] 148 (0, 0))
theorem TokAt.lt {w : World} {g : Nat} {t : TokD} (h : TokAt w g t) : g < w.heap.size := (Array.getElem?_eq_some_iff.1 h).1
theorem TokAt.below {w w' : World} {g : Nat} {t : TokD} (h : TokAt w g t) (hb : Below w.heap.size w w') : TokAt w' g t := (hb.block g h.lt).trans h
theorem TokAt.cell {w : World} {g : Nat} {t : TokD} (h : TokAt w g t) (i : Nat) : w.cell? ⟨g, i, none⟩ = (#[.int .i64 t.kind, .int .i64 t.line, .int .i64 t.col, .int .i64 t.start, .int .i64 t.stop, .string (str t.text), .string (str t.value)] : Array Value)[i]? := cell_of_row w g i _ _ (0, 0) h
set_option maxRecDepth 100000 in
set_option maxHeartbeats 8000000 in
theorem begins_any (B : Nat) (R : List RuleD) (A : Option Addr) (n c : Nat) (t : TokD) (nf : Nat) :
 ∀ (f : Nat) (l : List Txt) (b : Bool) (As : Option Addr) (m cs : Nat) (w : World), Reads w (Lo B) (.list R.length (rulesL R)) (.slice A n c) → Reads w (Lo B) (.list l.length (strL l)) (.slice As m cs) → B ≤ w.heap.size → begF R nf t f l = some b →
 Calls Tryz.prog 173 #[.slice A n c, .slice As m cs, tokV t] w fun e w' => e = .returned (.bool b) ∧ Below w.heap.size w w'
 | 0, l, b, As, m, cs, w, _, _, _, h => by cases h
 | f + 1, l, b, As, m, cs, w, hR, hl, hB, h => by
  have IH := hide (begins_any B R A n c t nf f)
  rw [begF] at h
  have HH := hide h
  clear h
  obtain ⟨A', c', us, he, hnl, hcl, hul, hud⟩ := reads_list hl
  injection he with e1 e2 e3
  subst e1 e2 e3
  obtain ⟨m, hm⟩ : ∃ m, l.length = m := ⟨_, rfl⟩
  have HM := hide hm
  rw [hm] at hnl ⊢
  have hm63 : m ≤ 9223372036854775807 := by simp only [maxLen] at hcl; omega
  clear hm hl
  obtain ⟨kind, line, col, start, stop, text, value⟩ := t
  go_enter Tryz.func173, Tryz.ntmps173
  go_wp2_with fail
  have hblk : TokAt (w.alloc (.cells #[.int .i64 kind, .int .i64 line, .int .i64 col, .int .i64 start, .int .i64 stop, .string (str text), .string (str value)] 148)) w.heap.size ⟨kind, line, col, start, stop, text, value⟩ := heap_alloc_new w _
  have hb01 : Below w.heap.size w (w.alloc (.cells #[.int .i64 kind, .int .i64 line, .int .i64 col, .int .i64 start, .int .i64 stop, .string (str text), .string (str value)] 148)) := (Below.refl _ _).alloc (Nat.le_refl _) _
  obtain ⟨g, hg⟩ : ∃ g, w.heap.size = g := ⟨_, rfl⟩
  have keepR : ∀ w', Below w.heap.size w w' → Reads w' (Lo B) (.list R.length (rulesL R)) (.slice A n c) := fun w' hb => Reads.keep (fun _ h => h) (fun p hp => hb.cell (Nat.lt_of_lt_of_le hp hB)) _ _ hR
  have keepS : ∀ w', Below w.heap.size w w' → ReadsL w' (Lo B) (strL l) us ∧ RdS w' (Lo B) As us := fun w' hb => ⟨ReadsL.keep (fun _ h => h) (fun p hp => hb.cell (Nat.lt_of_lt_of_le hp hB)) _ _ hul, hud.keep (fun _ h => h) (fun p hp => hb.cell (Nat.lt_of_lt_of_le hp hB))⟩
  have KR := hide keepR
  have KS := hide keepS
  generalize w.alloc (.cells #[.int .i64 kind, .int .i64 line, .int .i64 col, .int .i64 start, .int .i64 stop, .string (str text), .string (str value)] 148) = w1 at hblk hb01 ⊢
  rw [hg] at hblk ⊢
  clear keepR keepS hul hud hR
  go_loopw [7] (fun i wr => ∃ k : Nat, k ≤ m ∧ i = .int .i64 k ∧ Hid (begSyms (begF R nf ⟨kind, line, col, start, stop, text, value⟩ f) (nullF R nf) R ⟨kind, line, col, start, stop, text, value⟩ (l.drop k) = some b) ∧ TokAt wr g ⟨kind, line, col, start, stop, text, value⟩ ∧ Below w.heap.size w wr) (fun i _ => m - (intOf i).toNat)
  case atStart => exact ⟨0, Nat.zero_le _, rfl, HH.out, hblk, hb01⟩
  case round =>
   clear hblk hb01
   obtain ⟨k, hk, rfl, hbeg, hblk, hb⟩ := hrel
   by_cases hlt : k < m
   · have hkI : (k : Int) < (m : Int) := by omega
     obtain ⟨s, hs⟩ : ∃ s, l[k]? = some s := ⟨_, List.getElem?_eq_getElem (by rw [HM.out]; exact hlt)⟩
     obtain ⟨hs0, hs1, hsf, hsr⟩ := beg_step hbeg.out hs
     obtain ⟨hul, hud⟩ := KS.out _ hb
     obtain ⟨ads, rfl, hcs⟩ := str_at hul hud hs
     have HS := hide hs
     clear hs hul hud
     cases hru : ruleF s with
     | false =>
      have hbf := hsf hru
      subst hbf
      have HRU := hide hru
      clear hru hsr hsf
      go_wp2_with fail
      refine (rule_any s _ hs0).mono ?_
      rintro e wr ⟨rfl, rfl⟩
      rw [HRU.out]
      go_wp2_with fail
      have t0 := hblk.cell 0
      have t1 := hblk.cell 1
      have t2 := hblk.cell 2
      have t3 := hblk.cell 3
      have t4 := hblk.cell 4
      have t5 := hblk.cell 5
      have t6 := hblk.cell 6
      have hbd : Below w.heap.size w wr.drew := below_drewN hb 1
      have hs63 : s.length ≤ 1099511627776 := by omega
      go_region_with (go_at_call 141
                      refine (fits_any s ⟨kind, line, col, start, stop, text, value⟩ wr.drew hs0 hs63).mono ?_
                      rintro e w9 ⟨rfl, hb9⟩)
      all_goals (go_wp2_with fail; go_ret; exact ⟨rfl, hbd.trans (hb9.mono hbd.size)⟩)
     | true =>
      obtain ⟨a, ha, haT, haF⟩ := hsr hru
      have HRU := hide hru
      have HAT := hide haT
      have HAF := hide haF
      clear hru hsr hsf haT haF
      go_wp2_with fail
      refine (rule_any s _ hs0).mono ?_
      rintro e wr ⟨rfl, rfl⟩
      rw [HRU.out]
      go_wp2_with fail
      refine (choices_any (Lo B) R A n c s _ (KR.out _ hb)).mono ?_
      rintro e wr ⟨v, rfl, rfl, hv⟩
      obtain ⟨Ac, cc, vs, rfl, hmc, hcm, hcl', hcd⟩ := reads_list hv
      obtain ⟨L, hL⟩ : ∃ L, choicesF R s = L := ⟨_, rfl⟩
      rw [hL] at ha hcl' hmc
      rw [hL]
      obtain ⟨q, hq⟩ : ∃ q, L.length = q := ⟨_, rfl⟩
      rw [hq] at hmc
      rw [hq]
      have hq63 : q ≤ 9223372036854775807 := by simp only [maxLen] at hcm; omega
      have HQ := hide hq
      have HA := hide ha
      have KC : Hid (∀ w', Below wr.heap.size wr w' → ReadsL w' (Lo B) (chL L) vs ∧ RdS w' (Lo B) Ac vs) := fun w' hb' =>
       ⟨ReadsL.keep (fun _ h => h) (fun p hp => hb'.cell (Nat.lt_of_lt_of_le hp (Nat.le_trans hB hb.size))) _ _ hcl', hcd.keep (fun _ h => h) (fun p hp => hb'.cell (Nat.lt_of_lt_of_le hp (Nat.le_trans hB hb.size)))⟩
      clear ha hq hL hv hcl' hcd
      go_wp2_with fail
      obtain ⟨wo, hwo⟩ : ∃ wo : World, wo = wr := ⟨_, rfl⟩
      rw [← hwo] at hblk hb hcs KC ⊢
      clear hwo wr
      go_loopw [9] (fun i wr => ∃ j : Nat, j ≤ q ∧ i = .int .i64 j ∧ Hid (anyO (begF R nf ⟨kind, line, col, start, stop, text, value⟩ f) (L.drop j) = some a) ∧ TokAt wr g ⟨kind, line, col, start, stop, text, value⟩ ∧ Below wo.heap.size wo wr) (fun i _ => q - (intOf i).toNat)
      case atStart => exact ⟨0, Nat.zero_le _, rfl, HA.out, hblk, Below.refl _ _⟩
      case round =>
       obtain ⟨j, hj, rfl, hany, hblk', hb'⟩ := hrel
       have hB' := hb.trans (hb'.mono hb.size)
       by_cases hlt2 : j < q
       · have hjI : (j : Int) < (q : Int) := by omega
         obtain ⟨x, hx⟩ : ∃ x, L[j]? = some x := ⟨_, List.getElem?_eq_getElem (by rw [HQ.out]; exact hlt2)⟩
         obtain ⟨y, hy, hyF, hyT⟩ := any_step hany.out hx
         obtain ⟨hcl2, hcd2⟩ := KC.out _ hb'
         obtain ⟨ad, Al, cl, us2, rfl, hc0, hlc, hclm, hul2, hud2⟩ := ch_at hcl2 hcd2 hx
         have hlr : Reads wr.drew (Lo B) (.list x.length (strL x)) (.slice Al x.length cl) := list_reads hlc hclm (ReadsL.keep (w := wr) (w' := wr.drew) (S := Lo B) (S' := Lo B) (fun _ h => h) (fun _ _ => rfl) _ _ hul2) (RdS.keep (w := wr) (w' := wr.drew) (S := Lo B) (S' := Lo B) hud2 (fun _ h => h) (fun _ _ => rfl))
         have hRr : Reads wr.drew (Lo B) (.list R.length (rulesL R)) (.slice A n c) := KR.out _ (below_drewN hB' 1)
         have hbd : Below wo.heap.size wo wr.drew := below_drewN hb' 1
         have hblkd : TokAt wr.drew g ⟨kind, line, col, start, stop, text, value⟩ := hblk'
         have hBd : B ≤ wr.drew.heap.size := Nat.le_trans hB hB'.size
         have HY := hide hy
         have HYF := hide hyF
         have HYT := hide hyT
         obtain ⟨p, hp⟩ : ∃ p, x.length = p := ⟨_, rfl⟩
         have hcall := IH.out x y Al x.length cl wr.drew hRr hlr hBd HY.out
         rw [hp] at hc0 hcall
         have t0 := hblk'.cell 0
         have t1 := hblk'.cell 1
         have t2 := hblk'.cell 2
         have t3 := hblk'.cell 3
         have t4 := hblk'.cell 4
         have t5 := hblk'.cell 5
         have t6 := hblk'.cell 6
         clear hx hy hyF hyT hcl2 hcd2 hul2 hud2 hlr hRr hp
         go_wp2_with fail
         go_region_with (go_at_call 173
                         refine hcall.mono ?_
                         rintro e w9 ⟨rfl, hb9⟩)
         all_goals
          clear hcall
          have hb39 := hbd.trans (hb9.mono hbd.size)
          have hblk9 := hblkd.below hb9
          cases y with
          | true =>
           have h1 := HAT.out (HYT.out rfl)
           subst h1
           go_wp2_with fail
           go_ret
           exact ⟨rfl, by first | exact hb.trans (hb39.mono hb.size) | (rw [← hg]; exact hb.trans (hb39.mono hb.size))⟩
          | false =>
           have h1 := HYF.out rfl
           have H1 := hide h1
           clear h1
           go_wp2_with fail
           go_roundw
           case rel => exact ⟨j + 1, by omega, by go_num, H1, hblk9, hb39⟩
           case measure => simp [intOf]; omega
       · obtain rfl : j = q := by omega
         have haf : a = false := by
          have h1 := hany.out
          rw [List.drop_of_length_le (by rw [HQ.out]; exact Nat.le_refl _), anyO] at h1
          injection h1 with h1
          exact h1.symm
         obtain ⟨z, hz, hzT, hzF⟩ := HAF.out haf
         have hcs' := (hb'.cell (p := ads.add k) (World.block_lt_of_cell? _ _ hcs)).trans hcs
         have hnull := nullable_any (Lo B) R A n c _ (KR.out _ hB') nf s z hz
         have HZT := hide hzT
         have HZF := hide hzF
         clear hz hzT hzF
         go_wp2_with fail
         refine hnull.mono ?_
         rintro e wr ⟨rfl, rfl⟩
         clear hnull
         cases z with
         | true =>
          have H1 := hide (HZT.out rfl)
          go_wp2_with fail
          go_roundw
          case rel => exact ⟨k + 1, by omega, by go_num, H1, hblk', hB'⟩
          case measure => simp [intOf]; omega
         | false =>
          have h1 := HZF.out rfl
          subst h1
          go_wp2_with fail
          go_ret
          exact ⟨rfl, hB'⟩
   · obtain rfl : k = m := by omega
     have hbf : b = false := by
      have h1 := hbeg.out
      rw [List.drop_of_length_le (by rw [HM.out]; exact Nat.le_refl _), begSyms] at h1
      injection h1 with h1
      exact h1.symm
     subst hbf
     go_wp2_with fail
     go_ret
     exact ⟨rfl, hb⟩
def choF (g : List Txt → Option Bool) : List (List Txt) → Option (Option (List Txt))
 | [] => some none
 | c :: r => match g c with
  | none => none
  | some true => some (some c)
  | some false => choF g r
theorem cho_step {g : List Txt → Option Bool} {l : List (List Txt)} {k : Nat} {x : List Txt} {o : Option (List Txt)} (h : choF g (l.drop k) = some o) (hk : l[k]? = some x) : ∃ a, g x = some a ∧ (a = false → choF g (l.drop (k + 1)) = some o) ∧ (a = true → o = some x) := by
 obtain ⟨hk', rfl⟩ := List.getElem?_eq_some_iff.1 hk
 rw [List.drop_eq_getElem_cons hk', choF] at h
 cases hg : g l[k] with
 | none => rw [hg] at h; cases h
 | some a =>
  rw [hg] at h
  cases a with
  | false => exact ⟨false, rfl, fun _ => h, fun e => by cases e⟩
  | true => injection h with h; exact ⟨true, rfl, fun e => (by cases e), fun _ => h.symm⟩
def chosenF (R : List RuleD) (nf bf : Nat) (t : TokD) (s : Txt) : Option (List Txt × Bool) :=
 match choF (begF R nf t bf) (choicesF R s) with
 | none => none
 | some (some c) => some (c, true)
 | some none => match nullF R nf s with
  | none => none
  | some z => some ([], z)
set_option maxRecDepth 100000 in
set_option maxHeartbeats 8000000 in
theorem chosen_any (B : Nat) (R : List RuleD) (A : Option Addr) (n c : Nat) (t : TokD) (nf bf : Nat) (s : Txt) (p : List Txt × Bool) (w : World) (hR : Reads w (Lo B) (.list R.length (rulesL R)) (.slice A n c)) (hB : B ≤ w.heap.size) (h : chosenF R nf bf t s = some p) :
 Calls Tryz.prog 140 #[.slice A n c, .string (str s), tokV t] w fun e w' => ∃ v, e = .returned (.tuple #[v, .bool p.2]) ∧ Reads w' (Lo B) (.list p.1.length (strL p.1)) v ∧ Below w.heap.size w w' := by
 unfold chosenF at h
 obtain ⟨o, ho⟩ : ∃ o, choF (begF R nf t bf) (choicesF R s) = some o := by
  cases ho : choF (begF R nf t bf) (choicesF R s) with
  | none => rw [ho] at h; cases h
  | some o => exact ⟨o, rfl⟩
 rw [ho] at h
 have HO := hide ho
 have HH := hide h
 clear ho h
 obtain ⟨kind, line, col, start, stop, text, value⟩ := t
 go_enter Tryz.func140, Tryz.ntmps140
 go_wp2_with fail
 have hblk : TokAt (w.alloc (.cells #[.int .i64 kind, .int .i64 line, .int .i64 col, .int .i64 start, .int .i64 stop, .string (str text), .string (str value)] 148)) w.heap.size ⟨kind, line, col, start, stop, text, value⟩ := heap_alloc_new w _
 have hb01 : Below w.heap.size w (w.alloc (.cells #[.int .i64 kind, .int .i64 line, .int .i64 col, .int .i64 start, .int .i64 stop, .string (str text), .string (str value)] 148)) := (Below.refl _ _).alloc (Nat.le_refl _) _
 obtain ⟨g, hg⟩ : ∃ g, w.heap.size = g := ⟨_, rfl⟩
 have keepR : ∀ w', Below w.heap.size w w' → Reads w' (Lo B) (.list R.length (rulesL R)) (.slice A n c) := fun w' hb => Reads.keep (fun _ h => h) (fun p hp => hb.cell (Nat.lt_of_lt_of_le hp hB)) _ _ hR
 have KR := hide keepR
 generalize w.alloc (.cells #[.int .i64 kind, .int .i64 line, .int .i64 col, .int .i64 start, .int .i64 stop, .string (str text), .string (str value)] 148) = w1 at hblk hb01 ⊢
 rw [hg] at hblk ⊢
 clear keepR hR
 refine (choices_any (Lo B) R A n c s _ (KR.out _ hb01)).mono ?_
 rintro e w1 ⟨v, rfl, rfl, hv⟩
 obtain ⟨Ac, cc, vs, rfl, hmc, hcm, hcl', hcd⟩ := reads_list hv
 obtain ⟨L, hL⟩ : ∃ L, choicesF R s = L := ⟨_, rfl⟩
 have ho := HO.out
 rw [hL] at hcl' hmc ho
 rw [hL]
 obtain ⟨q, hq⟩ : ∃ q, L.length = q := ⟨_, rfl⟩
 rw [hq] at hmc
 rw [hq]
 have hq63 : q ≤ 9223372036854775807 := by simp only [maxLen] at hcm; omega
 have HQ := hide hq
 have HA := hide ho
 have KC : Hid (∀ w', Below w.heap.size w1 w' → ReadsL w' (Lo B) (chL L) vs ∧ RdS w' (Lo B) Ac vs) := fun w' hb' =>
  ⟨ReadsL.keep (fun _ h => h) (fun p hp => hb'.cell (Nat.lt_of_lt_of_le hp hB)) _ _ hcl', hcd.keep (fun _ h => h) (fun p hp => hb'.cell (Nat.lt_of_lt_of_le hp hB))⟩
 clear ho hq hL hv hcl' hcd HO
 go_wp2_with fail
 go_loopw [9] (fun i wr => ∃ j : Nat, j ≤ q ∧ i = .int .i64 j ∧ Hid (choF (begF R nf ⟨kind, line, col, start, stop, text, value⟩ bf) (L.drop j) = some o) ∧ TokAt wr g ⟨kind, line, col, start, stop, text, value⟩ ∧ Below w1.heap.size w1 wr) (fun i _ => q - (intOf i).toNat)
 case atStart => exact ⟨0, Nat.zero_le _, rfl, HA.out, hblk, Below.refl _ _⟩
 case round =>
  clear hblk
  obtain ⟨j, hj, rfl, hany, hblk', hb'⟩ := hrel
  have hB' := hb01.trans (hb'.mono hb01.size)
  have hbw := hb'.mono hb01.size
  by_cases hlt2 : j < q
  · have hjI : (j : Int) < (q : Int) := by omega
    obtain ⟨x, hx⟩ : ∃ x, L[j]? = some x := ⟨_, List.getElem?_eq_getElem (by rw [HQ.out]; exact hlt2)⟩
    obtain ⟨y, hy, hyF, hyT⟩ := cho_step hany.out hx
    obtain ⟨hcl2, hcd2⟩ := KC.out _ hbw
    obtain ⟨ad, Al, cl, us2, rfl, hc0, hlc, hclm, hul2, hud2⟩ := ch_at hcl2 hcd2 hx
    have hlw : Reads wr (Lo B) (.list x.length (strL x)) (.slice Al x.length cl) := list_reads hlc hclm hul2 hud2
    have hlr : Reads wr.drew (Lo B) (.list x.length (strL x)) (.slice Al x.length cl) := Reads.keep (w := wr) (w' := wr.drew) (S := Lo B) (S' := Lo B) (fun _ h => h) (fun _ _ => rfl) _ _ hlw
    have hRr : Reads wr.drew (Lo B) (.list R.length (rulesL R)) (.slice A n c) := KR.out _ (below_drewN hB' 1)
    have hbd : Below w1.heap.size w1 wr.drew := below_drewN hb' 1
    have hblkd : TokAt wr.drew g ⟨kind, line, col, start, stop, text, value⟩ := hblk'
    have hBd : B ≤ wr.drew.heap.size := Nat.le_trans hB hB'.size
    have hadd : (ad.add j).block < wr.drew.heap.size := World.block_lt_of_cell? _ _ hc0
    have HY := hide hy
    have HYF := hide hyF
    have HYT := hide hyT
    obtain ⟨p', hp⟩ : ∃ p, x.length = p := ⟨_, rfl⟩
    have hcall := begins_any B R A n c ⟨kind, line, col, start, stop, text, value⟩ nf bf x y Al x.length cl wr.drew hRr hlr hBd HY.out
    have HLW := hide hlr
    have HP := hide hp
    rw [hp] at hc0 hcall
    have t0 := hblk'.cell 0
    have t1 := hblk'.cell 1
    have t2 := hblk'.cell 2
    have t3 := hblk'.cell 3
    have t4 := hblk'.cell 4
    have t5 := hblk'.cell 5
    have t6 := hblk'.cell 6
    clear hx hy hyF hyT hcl2 hcd2 hul2 hud2 hlr hRr hp hlw
    go_wp2_with fail
    go_region_with (go_at_call 173
                    refine hcall.mono ?_
                    rintro e w9 ⟨rfl, hb9⟩)
    all_goals
     clear hcall
     have hb39 := hbd.trans (hb9.mono hbd.size)
     have hblk9 := hblkd.below hb9
     have hc9 := (hb9.cell (p := ad.add j) hadd).trans hc0
     cases y with
     | true =>
      have h1 := HYT.out rfl
      have h2 := HH.out
      rw [h1] at h2
      injection h2 with h2
      have h3 : Reads w9 (Lo B) (.list x.length (strL x)) (.slice Al x.length cl) := Reads.keep (fun _ h => h) (fun p hp => hb9.cell (Nat.lt_of_lt_of_le hp hBd)) _ _ HLW.out
      have H3 := hide h3
      have H2 := hide h2
      clear h1 h2 h3 t0 t1 t2 t3 t4 t5 t6 hc0
      go_wp2_with fail
      go_ret2
      rw [← H2.out]
      have h4 := H3.out
      rw [HP.out] at h4
      exact ⟨_, rfl, by rw [HP.out]; exact h4, by first | exact hb01.trans (hb39.mono hb01.size) | (rw [← hg]; exact hb01.trans (hb39.mono hb01.size))⟩
     | false =>
      have h1 := HYF.out rfl
      have H1 := hide h1
      clear h1
      go_wp2_with fail
      go_roundw
      case rel => exact ⟨j + 1, by omega, by go_num, H1, hblk9, hb39⟩
      case measure => simp [intOf]; omega
  · obtain rfl : j = q := by omega
    have hon : o = none := by
     have h1 := hany.out
     rw [List.drop_of_length_le (by rw [HQ.out]; exact Nat.le_refl _), choF] at h1
     injection h1 with h1
     exact h1.symm
    have h2 := HH.out
    rw [hon] at h2
    dsimp only at h2
    cases hz : nullF R nf s with
    | none => rw [hz] at h2; cases h2
    | some z =>
     rw [hz] at h2
     injection h2 with h2
     have hnull := nullable_any (Lo B) R A n c _ (KR.out _ hB') nf s z hz
     have H2 := hide h2
     clear h2 hz
     go_wp2_with fail
     refine hnull.mono ?_
     rintro e wr ⟨rfl, rfl⟩
     clear hnull
     go_wp2_with fail
     go_ret2
     rw [← H2.out]
     exact ⟨_, rfl, nil_reads, by first | exact hB' | (rw [← hg]; exact hB')⟩
end Go.Proofs.YtbpgkkoeehopjaaGreat.gram
