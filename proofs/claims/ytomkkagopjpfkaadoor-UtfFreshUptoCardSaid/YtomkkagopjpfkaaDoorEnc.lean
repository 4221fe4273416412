/-
  The walks of Encode, of the reference's Encode and Put, and of the copy of a list of characters, each once.
-/
import Derived.Test.YtomkkagopjpfkaaDoorWords
import Derived.Test.YtomkkagopjpfkaaDoorShelf
namespace Go.Proofs.YtomkkagopjpfkaaDoor.enc
open Go.RowKit
open Go.Proofs.YtomkkagopjpfkaaDoor.words
set_option linter.unusedVariables false

/-- the bytes of characters; whether all are scalar values; the text -/
def encL (zs : List Int) : List Int := zs.flatMap Lib.encodeRuneZ
def okL (zs : List Int) : Bool := zs.all Lib.validRune
def encS (zs : List Int) : ByteArray := if okL zs = true then strOfNums (encL zs) else ⟨#[]⟩
def Fits (zs : List Int) : Prop := ∀ z ∈ zs, -2147483648 ≤ z ∧ z ≤ 2147483647

theorem encL_snoc {zs : List Int} {k : Nat} {z : Int} (h : zs[k]? = some z) : encL (zs.take (k + 1)) = encL (zs.take k) ++ Lib.encodeRuneZ z := by
  obtain ⟨hk, rfl⟩ := List.getElem?_eq_some_iff.1 h
  unfold encL
  rw [List.take_succ_eq_append_getElem hk, List.flatMap_append]
  simp only [List.flatMap_cons, List.flatMap_nil, List.append_nil]
theorem okL_snoc {zs : List Int} {k : Nat} {z : Int} (h : zs[k]? = some z) : okL (zs.take (k + 1)) = (okL (zs.take k) && Lib.validRune z) := by
  obtain ⟨hk, rfl⟩ := List.getElem?_eq_some_iff.1 h
  unfold okL
  rw [List.take_succ_eq_append_getElem hk, List.all_append]
  simp only [List.all_cons, List.all_nil, Bool.and_true]
theorem okL_bad {zs : List Int} {k : Nat} {z : Int} (h : zs[k]? = some z) (hv : Lib.validRune z = false) : okL zs = false := by
  unfold okL
  rw [List.all_eq_false]
  exact ⟨z, List.mem_of_getElem? h, by rw [hv]; decide⟩
theorem encL_le (zs : List Int) (k : Nat) (hk : k ≤ zs.length) : (encL (zs.take k)).length ≤ 4 * k := by
  induction k with
  | zero => simp [encL]
  | succ k ih =>
    have h : zs[k]? = some zs[k] := List.getElem?_eq_getElem hk
    rw [encL_snoc h, List.length_append]
    have := ih (by omega)
    have := (Lib.encodeRuneZ_length zs[k]).2
    omega

theorem str_rd {P : Program} {w : World} {B : Nat} {A : Option Addr} {n c : Nat} {zs : List Int} (src e dst : TypeId) (hs : P.underlying src = some (.slice e)) (he : P.underlying e = some (.int .u8)) (hd : P.underlying dst = some .string)
    (hl : zs.length = n) (h : Rd w B A (zs.map (Value.int .u8))) : (convert src dst (.slice A n c)).run P w = .ok (.string (strOfNums zs)) w := by
  have hl' : (zs.map (Value.int .u8)).length = n := by simpa using hl
  rcases A with _ | ad
  · have hz : zs = [] := by
      rcases zs with _ | ⟨x, r⟩
      · rfl
      · obtain ⟨ad, h, _⟩ := h (by simp)
        cases h
    subst hz
    rw [run_convert_bytes_nil w src e hs he n c dst hd]
    rfl
  · have hc : (loadCells ad n).run P w = .ok (zs.map (Value.int .u8)).toArray w := by
      have := run_loadCells_list (P := P) w ad (zs.map (Value.int .u8)) (fun j v hj => by
        obtain ⟨ad', e', _, hc⟩ := h (by rintro h0; rw [h0] at hj; simp at hj)
        injection e' with e'
        subst e'
        exact hc j v hj)
      rwa [hl'] at this
    rw [run_convert_bytes_string w src dst e _ n c hs he hd, run_bytesToString w ad n c zs hc, foldl_push_bytes]
    simp [strOfNums, ByteArray.empty, ByteArray.emptyWithCapacity]
    rfl

theorem rune_info : (Tryd.prog.info? 21).map (fun i => (i.zero, i.size, i.bytes)) = some (some (.int .i32 0), 1, 4) := by kernel_rfl
theorem byte_info : (Tryd.prog.info? 5).map (fun i => (i.zero, i.size, i.bytes)) = some (some (.int .u8 0), 1, 1) := by kernel_rfl

/-- a copy in new memory -/
theorem copiedRunes_any (A : Option Addr) (n c B : Nat) (zs : List Int) (w : World) (hr : Rd w B A (zs.map (Value.int .i32))) (hB : B ≤ w.heap.size) (hl : zs.length = n) (hn : n * 4 ≤ 140737488355328) :
    Calls Tryd.prog 17 #[.slice A n c] w fun e w' => ∃ v, e = .returned v ∧ w'.ownsRow w.heap.size 21 1 v n (zs.map (Value.int .i32)) ∧ Below w.heap.size w w' := by
  obtain ⟨i0, hi0, hz0, hz1, hz2⟩ := info_parts rune_info
  have HL := hide hl
  clear hl
  go_enter Tryd.func17, Tryd.ntmps17
  go_wp2_with (at_make; refine wpList_make_own _ rfl _ _ 26 rfl w.heap.size 21 i0 (.int .i32 0) 1 Tryd.underlying26 hi0 hz0 hz1 _ _ _ n rfl rfl (by omega) ?b2 ?b3 (Nat.le_refl _) ?_)
  case b2 => rw [hz2]; omega
  case b3 => simp only [maxLen]; omega
  intro w1 hown1 hg1
  have hb1 : Below w.heap.size w w1 := (Below.refl _ _).grown hg1 (Nat.le_refl _) (fun k hk => by cases hk)
  have hr1 := hr.below' hb1 hB
  go_wp2_with (at_builtin; refine wpList_append_rd _ rfl _ _ 26 rfl w.heap.size 21 i0 (.int .i32 0) 1 4 Tryd.underlying26 hi0 hz0 hz1 hz2 rfl (by decide) _ 0 [] rfl hown1 B A n c (zs.map (Value.int .i32)) rfl ?c1 hr1 (one_i32 zs) ?c2 ?c3 hb1.size ?_)
  case c1 => rw [List.length_map, HL.out, Nat.mul_one]
  case c2 => simp only [maxLen]; omega
  case c3 => omega
  intro v2 w2 hown2 hg2 _
  go_wp2
  go_ret
  exact ⟨_, rfl, by simpa using hown2, below_append hb1 hown1 (Nat.le_refl _) hg2 hb1.size⟩

theorem own_grown {B : Nat} {w w' : World} {v : Value} {e size n : Nat} {xs : List Value} {a : World} {o : Obj} (h : Below B a w) (hown : w.ownsRow B e size v n xs) (hB : B ≤ w.heap.size) (hg : (w.alloc o).grownBy w' v.ownBlock) : Below B a w' :=
  (h.alloc hB o).grown hg (by simp; omega) fun k hk => (hown.lt k hk).1

theorem ret_str {a b : ByteArray} {c d : Bool} (h : a = b) (k : c = d) : Ending.returned (.tuple #[.string a, .bool c]) = .returned (.tuple #[.string b, .bool d]) := by rw [h, k]
theorem encS_ok {zs : List Int} (h : okL zs = true) : encS zs = strOfNums (encL zs) := if_pos h
theorem encS_bad {zs : List Int} (h : okL zs = false) : encS zs = ⟨#[]⟩ := if_neg (by rw [h]; decide)

/-- the program's Encode -/
theorem Encode_any (A : Option Addr) (n c B : Nat) (zs : List Int) (w : World) (hr : Rd w B A (zs.map (Value.int .i32))) (hB : B ≤ w.heap.size) (hl : zs.length = n) (hf : Fits zs) (hn : n * 4 ≤ 140737488351232) :
    Calls Tryd.prog 20 #[.slice A n c] w fun e w' => e = .returned (.tuple #[.string (encS zs), .bool (okL zs)]) ∧ Below w.heap.size w w' := by
  have HL := hide hl
  have HF := hide hf
  clear hl hf
  go_enter Tryd.func20, Tryd.ntmps20
  go_wp2
  go_loopw [4, 9] (fun v i wr => ∃ k : Nat, k ≤ n ∧ i = .int .i64 k ∧ wr.ownsRow w.heap.size 5 1 v (encL (zs.take k)).length ((encL (zs.take k)).map (Value.int .u8)) ∧ Below w.heap.size w wr ∧ Hid (okL (zs.take k) = true)) (fun _ i _ => n - (intOf i).toNat)
  case atStart => exact ⟨0, Nat.zero_le _, rfl, World.ownsRow_nil _ _ _ _, Below.refl _ _, rfl⟩
  case round =>
    obtain ⟨k, hk, rfl, hown, hb, hok⟩ := hrel
    by_cases hlt : k < n
    · obtain ⟨ad, z, rfl, hz, had, hc⟩ := (hr.below' hb hB).i32 (k := k) (by rw [HL.out]; exact hlt)
      have hle := encL_le zs k (by rw [HL.out]; exact hk)
      obtain ⟨z1, z2⟩ := HF.out z (List.mem_of_getElem? hz)
      have HZ := hide hz
      clear hz
      by_cases hv : Lib.validRune z = true
      · go_wp2_with fail
        refine (Tryd.utf8_ValidRune _ _).mono ?_
        rintro e w' ⟨rfl, rfl⟩
        go_wp2_with fail
        refine (Tryd.utf8_AppendRune_plain w.heap.size _ _ _ _ z1 z2 _ hown (by omega) hb.size).mono ?_
        rintro e w' ⟨v', rfl, hown', o, hg⟩
        have hb' := own_grown hb hown hb.size hg
        go_wp2_with fail
        go_roundw
        case rel =>
          refine ⟨k + 1, by omega, by go_num, ?_, hb', ?_⟩
          · rw [encL_snoc HZ.out, List.length_append, List.map_append]
            have e1 : (Lib.runeCells z).length = (Lib.encodeRuneZ z).length := by simp [Lib.runeCells]
            rw [← e1]
            exact hown'
          · show okL (zs.take (k + 1)) = true
            rw [okL_snoc HZ.out, hok.out, hv]
            rfl
        case measure => simp [intOf]; omega
      · have hv' : Lib.validRune z = false := by simpa using hv
        clear hv
        go_wp2_with fail
        refine (Tryd.utf8_ValidRune _ _).mono ?_
        rintro e w' ⟨rfl, rfl⟩
        go_wp2_with fail
        go_ret2
        exact ⟨ret_str (encS_bad (okL_bad HZ.out hv')).symm (okL_bad HZ.out hv').symm, hb⟩
    · have ek : zs.take k = zs := List.take_of_length_le (by rw [HL.out]; omega)
      rw [ek] at hown hok
      have hok1 := hok.out
      have Hok := hide hok1
      clear hok1 ek hok
      obtain ⟨A', c', rfl, _, _⟩ := own_slice hown
      have hcv := str_rd (P := Tryd.prog) (c := c') 24 5 9 Tryd.underlying24 Tryd.underlying5 Tryd.underlying9 rfl (Rd.of_own hown)
      go_wp2
      go_ret2
      exact ⟨ret_str (encS_ok Hok.out).symm Hok.out.symm, hb⟩

theorem Scalar_any (c : Int) (w : World) :
    Calls Tryd.prog 55 #[.int .i32 c] w fun e w' => e = .returned (.bool (Lib.validRune c)) ∧ w = w' := by
  have R : ∀ b : Bool, Lib.validRune c = b → Ending.returned (.bool b) = .returned (.bool (Lib.validRune c)) := fun b h => by rw [h]
  have dec : ∀ p : Prop, [Decidable p] → (((0 ≤ c ∧ c < 0xD800) ∨ (0xDFFF < c ∧ c ≤ 0x10FFFF)) ↔ p) → Lib.validRune c = decide p := fun p _ h => by unfold Lib.validRune; exact decide_eq_decide.2 h
  by_cases a0 : c < 0
  · go_enter Tryd.func55, Tryd.ntmps55
    go_wp2
    go_ret
    exact ⟨R _ (decide_eq_false (by omega)), rfl⟩
  by_cases a1 : c < 55296
  · go_enter Tryd.func55, Tryd.ntmps55
    go_wp2
    go_ret
    exact ⟨(by first | exact R _ (decide_eq_true (by omega)) | exact R _ (dec _ (by omega))), rfl⟩
  by_cases a2 : c ≤ 57343
  · go_enter Tryd.func55, Tryd.ntmps55
    go_wp2
    go_ret
    exact ⟨R _ (decide_eq_false (by omega)), rfl⟩
  by_cases a3 : c ≤ 1114111
  · go_enter Tryd.func55, Tryd.ntmps55
    go_wp2
    go_ret
    exact ⟨(by first | exact R _ (decide_eq_true (by omega)) | exact R _ (dec _ (by omega))), rfl⟩
  · go_enter Tryd.func55, Tryd.ntmps55
    go_wp2
    go_ret
    exact ⟨R _ (decide_eq_false (by omega)), rfl⟩

/-- the bytes that write a character; none, if it is no scalar value -/
def putL (c : Int) : List Int := if Lib.validRune c = true then Lib.encodeRuneZ c else []

theorem rd_new {B : Nat} (w : World) (cs : List Value) (t : TypeId) (hB : w.heap.size < B) : Rd (w.alloc (.cells cs.toArray t)) B (some ⟨w.heap.size, 0, none⟩) cs := fun _ =>
  ⟨_, rfl, hB, fun j u hu => by
    have hadd : (⟨w.heap.size, 0, none⟩ : Addr).add j = ⟨w.heap.size, j, none⟩ := by unfold Addr.add; split <;> simp_all
    rw [hadd, cell_of_row _ w.heap.size j cs.toArray t (0, 0) (heap_alloc_new w _)]
    simpa using hu⟩

/-- what Put answers: a slice in new memory -/
def PutPost (c : Int) (w : World) (e : Ending) (w' : World) : Prop :=
  ∃ A k, e = .returned (.slice A (putL c).length k) ∧ Rd w' w'.heap.size A ((putL c).map (Value.int .u8)) ∧ Below w.heap.size w w'

theorem put_close {c : Int} {w : World} (L : List Int) (k : Nat) (h : putL c = L) :
    PutPost c w (.returned (.slice (some ⟨w.heap.size, 0, none⟩) L.length k)) (w.alloc (.cells (L.map (Value.int .u8)).toArray 5)) := by
  subst h
  exact ⟨_, k, rfl, rd_new w _ _ (by simp), (Below.refl _ _).alloc (Nat.le_refl _) _⟩
theorem put_none {c : Int} {w : World} (h : putL c = []) : PutPost c w (.returned (.slice none 0 0)) w := by
  unfold PutPost
  rw [h]
  exact ⟨none, 0, rfl, Rd.nil, Below.refl _ _⟩

/-- the reference's Put -/
theorem Put_any (c : Int) (w : World) : Calls Tryd.prog 49 #[.int .i32 c] w (PutPost c w) := by
  by_cases hv : Lib.validRune c = true
  · have hp : putL c = Lib.encodeRuneZ c := if_pos hv
    have hr : (0 ≤ c ∧ c < 55296) ∨ (57343 < c ∧ c ≤ 1114111) := of_decide_eq_true hv
    have c0 : 0 ≤ c := by omega
    have c1 : c ≤ 1114111 := by omega
    have HP := hide hp
    have HR := hide hr
    clear hp hr
    by_cases b1 : c < 128
    · go_enter Tryd.func49, Tryd.ntmps49
      go_wp2_with (go_at_call 55; refine (Scalar_any _ _).mono ?_; rintro e w' ⟨rfl, rfl⟩)
      go_ret
      exact put_close [c] 1 (HP.out.trans (Lib.encodeRuneZ_one c0 (by omega)))
    by_cases b2 : c < 2048
    · go_enter Tryd.func49, Tryd.ntmps49
      go_wp2_with (go_at_call 55; refine (Scalar_any _ _).mono ?_; rintro e w' ⟨rfl, rfl⟩)
      go_ret
      exact put_close [192 + c / 64, 128 + c % 64] 2 (HP.out.trans (Lib.encodeRuneZ_two (by omega) (by omega)))
    by_cases b3 : c < 65536
    · go_enter Tryd.func49, Tryd.ntmps49
      go_wp2_with (go_at_call 55; refine (Scalar_any _ _).mono ?_; rintro e w' ⟨rfl, rfl⟩)
      go_ret
      exact put_close [224 + c / 4096, 128 + c / 64 % 64, 128 + c % 64] 3 (HP.out.trans (Lib.encodeRuneZ_three (by have := HR.out; omega)))
    · go_enter Tryd.func49, Tryd.ntmps49
      go_wp2_with (go_at_call 55; refine (Scalar_any _ _).mono ?_; rintro e w' ⟨rfl, rfl⟩)
      go_ret
      exact put_close [240 + c / 262144, 128 + c / 4096 % 64, 128 + c / 64 % 64, 128 + c % 64] 4 (HP.out.trans (Lib.encodeRuneZ_four (by omega) (by omega)))
  · have hp : putL c = [] := if_neg hv
    have HP := hide hp
    have hv' : Lib.validRune c = false := by simpa using hv
    clear hp hv
    go_enter Tryd.func49, Tryd.ntmps49
    go_wp2_with (go_at_call 55; refine (Scalar_any _ _).mono ?_; rintro e w' ⟨rfl, rfl⟩)
    go_ret
    exact put_none HP.out

theorem putL_ok {c : Int} (h : Lib.validRune c = true) : putL c = Lib.encodeRuneZ c := if_pos h
theorem putL_bad {c : Int} (h : Lib.validRune c = false) : putL c = [] := if_neg (by rw [h]; decide)

/-- the reference's Encode -/
theorem RefEncode_any (A : Option Addr) (n c B : Nat) (zs : List Int) (w : World) (hr : Rd w B A (zs.map (Value.int .i32))) (hB : B ≤ w.heap.size) (hl : zs.length = n) (hn : n * 4 ≤ 140737488351232) :
    Calls Tryd.prog 29 #[.slice A n c] w fun e w' => e = .returned (.tuple #[.string (encS zs), .bool (okL zs)]) ∧ Below w.heap.size w w' := by
  obtain ⟨i0, hi0, hz0, hz1, hz2⟩ := info_parts byte_info
  have HL := hide hl
  clear hl
  go_enter Tryd.func29, Tryd.ntmps29
  go_wp2
  go_loopw [4, 5] (fun v i wr => ∃ k : Nat, k ≤ n ∧ i = .int .i64 k ∧ wr.ownsRow w.heap.size 5 1 v (encL (zs.take k)).length ((encL (zs.take k)).map (Value.int .u8)) ∧ Below w.heap.size w wr ∧ Hid (okL (zs.take k) = true)) (fun _ i _ => n - (intOf i).toNat)
  case atStart => exact ⟨0, Nat.zero_le _, rfl, World.ownsRow_nil _ _ _ _, Below.refl _ _, rfl⟩
  case round =>
    obtain ⟨k, hk, rfl, hown, hb, hok⟩ := hrel
    by_cases hlt : k < n
    · obtain ⟨ad, z, rfl, hz, had, hc⟩ := (hr.below' hb hB).i32 (k := k) (by rw [HL.out]; exact hlt)
      have hle := encL_le zs k (by rw [HL.out]; exact hk)
      obtain ⟨Av, cv, rfl, _, _⟩ := own_slice hown
      have HZ := hide hz
      clear hz
      go_wp2_with fail
      refine (Put_any _ _).mono ?_
      rintro e w1 ⟨A1, k1, rfl, hr1, hb1⟩
      have hbb := hb.trans (hb1.mono hb.size)
      have hown1 : w1.ownsRow w.heap.size 5 1 (.slice Av (encL (zs.take k)).length cv) (encL (zs.take k)).length ((encL (zs.take k)).map (Value.int .u8)) := by
        refine hown.kept (row := none) ⟨hb1.os, hb1.tape, hb1.output, hb1.size, fun i hi _ => hb1.block i hi⟩ ?_
        cases (Value.slice Av (encL (zs.take k)).length cv).ownBlock <;> simp
      by_cases hv : Lib.validRune z = true
      · have hlen := Lib.encodeRuneZ_length z
        have hpl : (putL z).length = (Lib.encodeRuneZ z).length := by rw [putL_ok hv]
        have hpos : 1 ≤ (putL z).length := by omega
        have hpos4 : (putL z).length ≤ 4 := by omega
        have hne : (((putL z).length : Int) == 0) = false := by rw [beq_eq_false_iff_ne]; omega
        have HPL := hide (putL_ok hv)
        clear hpl hlen
        go_wp2_with (at_builtin; refine wpList_append_rd _ rfl _ _ 24 rfl w.heap.size 5 i0 (.int .u8 0) 1 1 Tryd.underlying24 hi0 hz0 hz1 hz2 rfl (by decide) _ _ _ rfl hown1 _ A1 (putL z).length k1 _ rfl ?c1 hr1 (one_u8 _) ?c2 ?c3 hbb.size ?_)
        case c1 => rw [List.length_map, Nat.mul_one]
        case c2 => simp only [maxLen]; omega
        case c3 => omega
        intro v2 w2 hown2 hg2 _
        have hb2 := below_append hbb hown1 (Nat.le_refl _) hg2 hbb.size
        go_wp2_with fail
        go_roundw
        case rel =>
          refine ⟨k + 1, by omega, by go_num, ?_, hb2, ?_⟩
          · rw [encL_snoc HZ.out, List.length_append, List.map_append, ← HPL.out]
            exact hown2
          · show okL (zs.take (k + 1)) = true
            rw [okL_snoc HZ.out, hok.out, hv]
            rfl
        case measure => simp [intOf]; omega
      · have hv' : Lib.validRune z = false := by simpa using hv
        have hz : (putL z).length = 0 := by rw [putL_bad hv']; rfl
        have hzl : (((putL z).length : Int) == 0) = true := by rw [hz]; rfl
        clear hv hz
        go_wp2_with fail
        go_ret2
        exact ⟨ret_str (encS_bad (okL_bad HZ.out hv')).symm (okL_bad HZ.out hv').symm, hbb⟩
    · have ek : zs.take k = zs := List.take_of_length_le (by rw [HL.out]; omega)
      rw [ek] at hown hok
      have hok1 := hok.out
      have Hok := hide hok1
      clear hok1 ek hok
      obtain ⟨A', c', rfl, _, _⟩ := own_slice hown
      have hcv := str_rd (P := Tryd.prog) (c := c') 24 5 9 Tryd.underlying24 Tryd.underlying5 Tryd.underlying9 rfl (Rd.of_own hown)
      go_wp2
      go_ret2
      exact ⟨ret_str (encS_ok Hok.out).symm Hok.out.symm, hb⟩
end Go.Proofs.YtomkkagopjpfkaaDoor.enc
