/-
  UtfJoined: for every list of characters and all bytes the law returns true, and the arguments read behind the call as before; where the arguments' values and letters are at most 1048576 in all.
-/
import Derived.Test.YtomkkagopjpfkaaDoorTabs
import Derived.Test.YtomkkagopjpfkaaDoorJoin0
import Derived.Test.YtomkkagopjpfkaaDoorAwake
namespace Go.Proofs.YtomkkagopjpfkaaDoor.utfJoined
open Go.ChangeShapes Go.WideShapes Go.ChangeAt Go.RowKit
open Go.Proofs.YtomkkagopjpfkaaDoor.frame
open Go.Proofs.YtomkkagopjpfkaaDoor.words Go.Proofs.YtomkkagopjpfkaaDoor.enc Go.Proofs.YtomkkagopjpfkaaDoor.utf Go.Proofs.YtomkkagopjpfkaaDoor.dec Go.Proofs.YtomkkagopjpfkaaDoor.ref Go.Proofs.YtomkkagopjpfkaaDoor.ln Go.Proofs.YtomkkagopjpfkaaDoor.lines Go.Proofs.YtomkkagopjpfkaaDoor.back
set_option linter.unusedVariables false

theorem joined {zs ts : List Int} {k : Nat} {s : ByteArray} (h : okL zs = true) (hd : decF s.data.toList = (ts, k)) : decF (encS zs ++ s).data.toList = (zs ++ ts, (encS zs).size + k) := by
  have := decF_encB zs (okL_all h) s.data.toList
  rw [← encS_data h, hd, size_data] at this
  rw [← this]
  congr 1

set_option maxHeartbeats 400000 in
theorem walk (A A' : Option Addr) (n c n' c' : Nat) (zs : List Int) (s : ByteArray) (w : World) (hr : Rd w w.heap.size A (zs.map (Value.int .i32))) (hrs : Rd w w.heap.size A' (Lib.byteCells s.data.toList)) (hl : zs.length = n) (hf : Fits zs) (hl' : s.size = n') (hn : n ≤ 1048576) (hn' : n' ≤ 1048576) (hT : Lib.Utf8Tabs 0 1 w) :
    Calls Tryd.prog 7 #[.slice A n c, .slice A' n' c'] w fun e w' => e = .returned (.bool true) ∧ Below w.heap.size w w' := by
  have HL := hide hl
  have HL' := hide hl'
  have HT := hide hT
  clear hl hT hl'
  go_enter Tryd.func7, Tryd.ntmps7
  go_wp2_with fail
  refine (awake_any _ HT.out).mono ?_
  rintro e w1 ⟨rfl, hb1⟩
  go_wp2_with fail
  refine (copiedRunes_any A n c w.heap.size zs _ (hr.below hb1) hb1.size HL.out (by omega)).mono ?_
  rintro e w2 ⟨v2, rfl, hown2, hb2⟩
  obtain ⟨A2, c2, rfl, hn2, hm2⟩ := own_slice hown2
  have hB2 := hb1.trans (hb2.mono hb1.size)
  go_wp2_with fail
  refine (Encode_any A2 n c2 w2.heap.size zs _ (Rd.of_own hown2) (Nat.le_refl _) HL.out hf (by omega)).mono ?_
  rintro e w3 ⟨he, hb3⟩
  have hB3 := hB2.trans (hb3.mono hB2.size)
  cases hok : okL zs with
  | false =>
    rw [hok, encS_bad hok] at he
    subst he
    have HO := hide hok
    clear hok
    go_wp2_with fail
    refine (scalars_any A n c w.heap.size zs _ (hr.below hB3) HL.out (by simp only [maxLen]; omega)).mono ?_
    rintro e w4 ⟨he, rfl⟩
    rw [HO.out] at he
    subst he
    go_wp2_with fail
    go_ret
    exact ⟨rfl, hB3⟩
  | true =>
    rw [hok] at he
    have hz := encS_size zs
    obtain ⟨ts, k, hd⟩ : ∃ ts k, decF s.data.toList = (ts, k) := ⟨_, _, rfl⟩
    have hts := decF_len s.data.toList
    have hk := decF_le s.data.toList
    rw [hd] at hts hk
    rw [size_data, HL'.out] at hk
    dsimp only at hts hk
    have HD := hide hd
    have HJ := hide (joined hok hd)
    generalize encS zs = h at he hz HJ
    subst he
    clear hok hd
    rw [HL.out] at hz
    go_wp2_with fail
    refine (copied_any A' n' c' w.heap.size s.data.toList _ (hrs.below hB3) hB3.size (by rw [size_data]; exact HL'.out) (by omega)).mono ?_
    rintro e w4 ⟨v4, rfl, hown4, hb4⟩
    obtain ⟨A4, c4, rfl, hn4, hm4⟩ := own_slice hown4
    have hB4 := hB3.trans (hb4.mono hB3.size)
    go_wp2_with fail
    refine (Decode_bytes' A4 n' c4 w4.heap.size s ts k _ (Rd.of_own hown4) HL'.out HD.out (by rw [HL'.out]; omega) (Utf8Tabs_below HT.out hB4)).mono ?_
    rintro e w5 ⟨v5, rfl, hown5, hb5⟩
    obtain ⟨m, hm⟩ : ∃ m, ts.length = m := ⟨_, rfl⟩
    have HM := hide hm
    rw [hm] at hown5 hts
    clear hm
    obtain ⟨A5, c5, rfl, hn5, hm5⟩ := own_slice hown5
    have hB5 := hB4.trans (hb5.mono hB4.size)
    have hcv5 := str_bytes (P := Tryd.prog) (c := c') 24 5 9 Tryd.underlying24 Tryd.underlying5 Tryd.underlying9 HL'.out (hrs.below hB5)
    have hsz : (h ++ s).size = h.size + n' := by rw [ByteArray.size_append, HL'.out]
    have rdz := (Rd.of_own hown5)
    go_wp2_with fail
    · exact absurd ‹9223372036854775807 < h.size + s.size› (by rw [HL'.out]; omega)
    refine (Decode_string' (h ++ s) (zs ++ ts) (h.size + k) _ HJ.out (by rw [hsz]; omega) (Utf8Tabs_below HT.out hB5)).mono ?_
    rintro e w6 ⟨v6, rfl, hown6, hb6⟩
    have hlen : (zs ++ ts).length = n + m := by rw [List.length_append, HL.out, HM.out]
    rw [hlen] at hown6
    obtain ⟨A6, c6, rfl, hn6, hm6⟩ := own_slice hown6
    have hB6 := hB5.trans (hb6.mono hB5.size)
    have rd6 := Rd.of_own hown6
    have hc6 : c6 ≤ 9223372036854775807 := by simpa [maxLen] using hm6
    have HX := hide hcv5
    clear hcv5 hlen
    have rt : Rd w6 w6.heap.size A6 (zs.map (Value.int .i32)) := by
      have := rd6.take n
      rwa [List.map_append, List.take_left' (by simpa using HL.out)] at this
    have rp : Rd w6 w6.heap.size (A6.map (·.add n)) (ts.map (Value.int .i32)) := by
      have := rd6.drop n
      rwa [List.map_append, List.drop_left' (by simpa using HL.out)] at this
    go_wp2_with fail
    refine (alike_b A6 A n c6 c w6.heap.size w.heap.size zs _ rt (hr.below hB6) HL.out (by simp only [maxLen]; omega)).mono ?_
    rintro e w7 ⟨rfl, hb7⟩
    have hB7 := hB6.trans (hb7.mono hB6.size)
    have hb57 : Below w5.heap.size w5 w7 := hb6.trans (hb7.mono hb6.size)
    have rp7 := rp.below hb7
    have rt7 := rdz.below hb57
    have HM' : m ≤ maxLen := by simp only [maxLen]; omega
    have hmz : c6 ≤ n → ts = [] := fun h => List.eq_nil_of_length_eq_zero (by rw [HM.out]; omega)
    have HZ := hide hmz
    clear hmz rp rt rdz hown2 hown4 hown5 hown6 rd6 hb1 hb2 hb3 hb4 hb5 hb6 hb7 hb57 HX hr hrs
    go_wp2_with fail
    · have e0 : ts = [] := HZ.out (by omega)
      rw [e0] at rt7
      have e1 : m = 0 := by rw [← HM.out, e0]; rfl
      refine (alike_b A6 A5 m 0 c5 w6.heap.size w5.heap.size [] w7 Rd.nil rt7 (by rw [e1]; rfl) HM').mono ?_
      rintro e w8 ⟨rfl, hb8⟩
      go_wp2_with fail
      go_ret
      exact ⟨rfl, hB7.trans (hb8.mono hB7.size)⟩
    · refine (alike_b (A6.map (·.add n)) A5 m (c6 - n) c5 w6.heap.size w5.heap.size ts w7 rp7 rt7 HM.out HM').mono ?_
      rintro e w8 ⟨rfl, hb8⟩
      go_wp2_with fail
      go_ret
      exact ⟨rfl, hB7.trans (hb8.mono hB7.size)⟩

/-! the frame -/
theorem cells_rune : Tryd.prog.cellsOf 21 = 1 := by kernel_rfl
theorem cells_byte : Tryd.prog.cellsOf 5 = 1 := by kernel_rfl
theorem cells_int : Tryd.prog.cellsOf 3 = 1 := by kernel_rfl
theorem cells_runes : Tryd.prog.cellsOf 26 = 1 := by kernel_rfl
theorem cells_bytes : Tryd.prog.cellsOf 24 = 1 := by kernel_rfl

/-- what the walk gives, for every argument within the bound and every world that holds the tables -/
theorem contract (H : Type) (enc : TypeId × Value → H) (W : World) (base : Nat) (args : Array Value) (ds gs : List (DataW H)) (before : List MemPlace)
    (hval : ∀ (j : Nat) t v, Tryd.f7.params[j]? = some t → args[j]? = some v → Value.okWide Tryd.prog W .any base t v)
    (hW : DataW.Whole enc Tryd.prog Tryd.f7.params.toList Rows.utfJoinedSpec.vars false W args.toList ds gs before) (hk : Rows.uptoSmall H (ds ++ gs) = true) (hL : laidMetH Tryd.prog tabs.laid2 W) :
    Calls Tryd.prog 7 args W fun e W' => ∃ v, e = .returned v ∧ Rows.utfJoinedSpec.post enc Tryd.prog Tryd.f7 false true false false W args v W' := by
  have hT : Lib.Utf8Tabs 0 1 W := tabs.tabs_of hL
  have hW' := hW
  obtain ⟨p, q, hA0, hV, rfl, hfz, hnd⟩ := hW
  have hA : DataW.TrodAll enc Tryd.prog W 0 (fun _ => true) true Tryd.f7.params.toList args.toList ds p := hA0
  rw [Tryd.params7] at hA hval
  obtain ⟨v0, vs0, d0, ds0, p0, q0, hargs, rfl, rfl, h0, r0⟩ := trodAll_cons hA
  obtain ⟨v1, vs1, d1, ds1, p1, q1, rfl, rfl, rfl, h1, r1⟩ := trodAll_cons r0
  obtain ⟨rfl, rfl, rfl⟩ := trodAll_nil r1
  obtain rfl : args = #[v0, v1] := by cases args; simp_all
  obtain ⟨rfl, rfl⟩ := trodVars_none hV
  have hbulk := tabs.bound hk
  simp only [List.append_nil, Rows.uptoBulkAll] at hbulk
  clear hk
  have fin : ∀ (e : Ending) (W' : World), (e = .returned (.bool true) ∧ Below W.heap.size W W') → ∃ v, e = .returned v ∧ Rows.utfJoinedSpec.post enc Tryd.prog Tryd.f7 false true false false W #[v0, v1] v W' := fun e W' ⟨he, hb⟩ => by
    subst he
    refine ⟨_, rfl, law_post rfl rfl rfl rfl tabs.laidOut ?_ (by kernel_rfl) Tryd.underlying4 hW' hb⟩
    rw [Tryd.params7]
    intro t ht
    simp only [List.mem_cons, List.mem_nil_iff, or_false] at ht
    rcases ht with rfl | rfl
    all_goals exact ⟨by kernel_rfl, of_decide_eq_true (by kernel_rfl)⟩
  obtain ⟨A, n, c, zs, rfl, hl0, hn0, hm0, hr0, hw0, hd0⟩ := rd_ints Tryd.underlying26 Tryd.underlying21 cells_rune (hval 0 26 v0 rfl rfl) h0
  have hs0 : n ≤ 1048576 := by
    rcases hd0 with ⟨_, h⟩ | ⟨r, hd, _⟩
    · omega
    · have i1 := tabs.slice_le (lits (H := H) .i32 zs) (lits .i32 r)
      rw [hd] at hbulk
      have e1 : (lits (H := H) .i32 zs).length = zs.length := by simp [lits]
      have e2 : (lits (H := H) .i32 r).length = r.length := by simp [lits]
      omega
  obtain ⟨A2, n2, c2, bs, rfl, hl1, hn1, hm1, hr1, hw1, hd1⟩ := rd_ints Tryd.underlying24 Tryd.underlying5 cells_byte (hval 1 24 v1 rfl rfl) h1
  have hs1 : n2 ≤ 1048576 := by
    rcases hd1 with ⟨_, h⟩ | ⟨r, hd, _⟩
    · omega
    · have i1 := tabs.slice_le (lits (H := H) .u8 bs) (lits .u8 r)
      rw [hd] at hbulk
      have e1 : (lits (H := H) .u8 bs).length = bs.length := by simp [lits]
      have e2 : (lits (H := H) .u8 r).length = r.length := by simp [lits]
      omega
  obtain ⟨s, hs⟩ := string_of hw1
  have hss : s.size = n2 := by rw [← hl1, ← hs]; simp [ints]
  have hrb := hr1
  rw [show bs.map (Value.int .u8) = Lib.byteCells s.data.toList by rw [← hs]; simp [ints, Lib.byteCells]] at hrb
  exact (walk A A2 n c n2 c2 zs s W hr0 hrb hl0 (fun z hz => by simpa [Lit.wf, IntKind.min, IntKind.max, IntKind.signed, IntKind.bits] using hw0 z hz) hss hs0 hs1 hT).mono fin

theorem reads (os : Os) {H : Type} (enc : TypeId × Value → H) : ∃ places, DataW.whole enc Tryd.prog ((tabs.laidWorld os).forCall (fun _ _ => 0) ⟨#[], #[.slice none 0 0, .slice none 0 0], []⟩).memory Tryd.f7.params.toList Rows.utfJoinedSpec.vars false (#[.slice none 0 0, .slice none 0 0] : Array Value).toList 8 = some ([.nil, .nil], [], places) :=
  ⟨[], by kernel_rfl⟩

set_option maxRecDepth 100000 in
theorem lifted (os : Os) (started : os.Started) (H : Type) (enc : TypeId × Value → H) (F : Stop.Interp) :
    ReturnsInHanded {} Tryd.checked os 7 .any ((Rows.OpenSpec.upto Rows.utfJoinedSpec).preRow enc Tryd.prog Tryd.f7 Rows.utfJoinedUptoRow.domain false Rows.utfJoinedUptoRow.laid) (((Rows.OpenSpec.upto Rows.utfJoinedSpec).at F).post enc Tryd.prog Tryd.f7 false true false false) := by
  obtain ⟨places, hx⟩ := reads os enc
  refine returnsInHanded_of_row (C := Tryd.checked) (s := Rows.OpenSpec.upto Rows.utfJoinedSpec) tabs.own started (by kernel_rfl) Tryd.func7
    (witness_row_at (enc := enc) (C := Tryd.checked) false (tabs.laidWorld os) #[.slice none 0 0, .slice none 0 0] rfl (by kernel_rfl) (by kernel_rfl) (by kernel_rfl)
      (OpenSpec.preRow_of_cond 8 hx (by kernel_rfl) (fun k hk => by cases hk; kernel_rfl) (by kernel_rfl) (tabs.laid_met os _))) ?_
  intro W base args ds gs before hval hW _ hcond _ hL _ _
  exact contract H enc W base args ds gs before hval hW (hcond _ rfl) hL

theorem saidUpto : Rows.UtfJoinedUptoSaid :=
  OpenClaim.holds_of_cond 7 Tryd.f7 rfl rfl rfl rfl rfl rfl rfl ⟨rfl, rfl, rfl, rfl, rfl⟩ rfl rfl rfl rfl rfl (by kernel_rfl) Tryd.func7 (by kernel_rfl)
    (of_decide_eq_true (by kernel_rfl)) (by unfold Func.isWrapper; first | (rw [if_pos (by decide +kernel)]; kernel_rfl) | (rw [if_neg (by decide +kernel)]; exact ⟨rfl, rfl⟩))
    (fun os started H enc _ F => by rw [OpenClaim.pre_eq_preRow]; exact lifted os started H enc F)

theorem plain (f : FuncId) (fn : Func) (hf : Tryd.pinned.checked.prog.funcNamed Rows.utfJoinedUptoRow.func = some f) (hfn : Tryd.pinned.checked.prog.funcs[f]? = some fn) :
    false = Tryd.pinned.checked.prog.looks [] ∧ ∀ (j : Nat) t, fn.params[j]? = some t → Tryd.pinned.checked.prog.wantsStandIn t = false := by
  obtain rfl : f = 7 := Option.some.inj ((show Tryd.prog.funcNamed Rows.utfJoinedUptoRow.func = some 7 by kernel_rfl).symm.trans hf) |>.symm
  obtain rfl : fn = Tryd.f7 := (Option.some.inj (Tryd.func7.symm.trans hfn)).symm
  refine ⟨by kernel_rfl, fun j t ht => ?_⟩
  rw [Tryd.params7] at ht
  have hm := Array.mem_of_getElem? ht
  simp only [List.mem_toArray, List.mem_cons, List.mem_nil_iff, or_false] at hm
  rcases hm with rfl | rfl
  all_goals exact (show Tryd.prog.wantsStandIn _ = false by kernel_rfl)

/-- the statement: the second form's card -/
theorem card : Rows.UtfJoinedUptoCardSaid :=
  Claim7.holds_tied_plain_at .later [] _ _ _ _ saidUpto (fun _ h => by cases h) (by kernel_rfl) (fun _ h => by cases h) utfJoinedUpto_row_tie rfl ⟨rfl, rfl⟩ (by kernel_rfl) rfl plain (by kernel_rfl)
#print axioms card
end Go.Proofs.YtomkkagopjpfkaaDoor.utfJoined
