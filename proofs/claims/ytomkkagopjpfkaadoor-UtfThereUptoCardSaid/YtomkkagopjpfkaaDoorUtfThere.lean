/-
  UtfThere: for all bytes the law returns true, and the argument reads behind the call as before; where the argument's values and letters are at most 1048576 in all.
-/
import Derived.Test.YtomkkagopjpfkaaDoorTabs
import Derived.Test.YtomkkagopjpfkaaDoorJoin0
import Derived.Test.YtomkkagopjpfkaaDoorAwake
namespace Go.Proofs.YtomkkagopjpfkaaDoor.utfThere
open Go.ChangeShapes Go.WideShapes Go.ChangeAt Go.RowKit
open Go.Proofs.YtomkkagopjpfkaaDoor.frame
open Go.Proofs.YtomkkagopjpfkaaDoor.words Go.Proofs.YtomkkagopjpfkaaDoor.enc Go.Proofs.YtomkkagopjpfkaaDoor.utf Go.Proofs.YtomkkagopjpfkaaDoor.dec Go.Proofs.YtomkkagopjpfkaaDoor.ref Go.Proofs.YtomkkagopjpfkaaDoor.ln Go.Proofs.YtomkkagopjpfkaaDoor.lines Go.Proofs.YtomkkagopjpfkaaDoor.back
set_option linter.unusedVariables false

/-- the text of bytes -/
def txt (l : List UInt8) : ByteArray := ⟨l.toArray⟩
theorem txt_data (l : List UInt8) : (txt l).data.toList = l := by simp [txt]
theorem txt_size (l : List UInt8) : (txt l).size = l.length := by rw [← size_data, txt_data]

theorem longer {l : List UInt8} {k : Nat} (h1 : (decF l).2 < k) (hk : k ≤ l.length) : Lib.validD (l.take k) = false := by
  rw [validD_iff]
  refine decide_eq_false fun h => ?_
  have := decF_longest l k hk h
  omega
theorem between {l : List UInt8} {k : Nat} (h1 : (decF l).2 < k) (hk : k ≤ l.length) : Lib.validD ((l.drop (decF l).2).take (k - (decF l).2)) = false := by
  rw [validD_iff]
  refine decide_eq_false fun h => ?_
  have e := encB_decF l
  have hd := decF_encB (decF l).1 (decF_valid _) ((l.drop (decF l).2).take (k - (decF l).2))
  have e2 : (decF l).2 + (k - (decF l).2) = k := by omega
  rw [e, ← List.take_add, e2, h] at hd
  have hx := decF_longest l k hk (by
    rw [hd]
    simp only [List.length_take, List.length_drop]
    omega)
  omega

theorem eq_both (k n : Nat) : (!decide (k = n) == ((k : Int) == (n : Int))) = false := by
  by_cases h : k = n
  · subst h; simp
  · simp [h]; omega

set_option maxHeartbeats 4000000 in
theorem walk (A : Option Addr) (n c : Nat) (s : ByteArray) (w : World) (hrs : Rd w w.heap.size A (Lib.byteCells s.data.toList)) (hl : s.size = n) (hnc : n ≤ c) (hcm : c ≤ maxLen) (hn : n ≤ 1048576) (hT : Lib.Utf8Tabs 0 1 w) :
    Calls Tryd.prog 6 #[.slice A n c] w fun e w' => e = .returned (.bool true) ∧ Below w.heap.size w w' := by
  have HL := hide hl
  have HT := hide hT
  have hcm' : c ≤ 9223372036854775807 := by simpa [maxLen] using hcm
  clear hl hT
  obtain ⟨zs, k, hd⟩ : ∃ zs k, decF s.data.toList = (zs, k) := ⟨_, _, rfl⟩
  have hzs := decF_len s.data.toList
  have hk := decF_le s.data.toList
  have hok := okL_decF s.data.toList
  have henc := encS_decF s.data.toList
  have hlong := fun q => longer (l := s.data.toList) (k := q)
  have hbetw := fun q => between (l := s.data.toList) (k := q)
  have hval := validD_iff s.data.toList
  have hvt := valid_encS hok
  rw [henc] at hvt
  rw [hd] at hzs hk hok henc hlong hbetw hval hvt
  rw [size_data, HL.out] at hk hval
  dsimp only at hzs hk hok henc hlong hbetw hval hvt
  have HD := hide hd
  have HO := hide hok
  have HE := hide henc
  have HLO := hide hlong
  have HBE := hide hbetw
  have HV := hide hval
  have HVT := hide hvt
  have HF := hide (fits_ok hok)
  clear hd hok henc hlong hbetw hval hvt
  obtain ⟨m, hm⟩ : ∃ m, zs.length = m := ⟨_, rfl⟩
  have HM := hide hm
  rw [hm] at hzs
  clear hm
  go_enter Tryd.func6, Tryd.ntmps6
  go_wp2_with fail
  refine (awake_any _ HT.out).mono ?_
  rintro e w1 ⟨rfl, hb1⟩
  go_wp2_with fail
  refine (copied_any A n c w.heap.size s.data.toList _ (hrs.below hb1) hb1.size (by rw [size_data]; exact HL.out) (by omega)).mono ?_
  rintro e w2 ⟨v2, rfl, hown2, hb2⟩
  obtain ⟨A2, c2, rfl, hn2, hm2⟩ := own_slice hown2
  have hB2 := hb1.trans (hb2.mono hb1.size)
  go_wp2_with fail
  refine (Decode_bytes' A2 n c2 w2.heap.size s zs k _ (Rd.of_own hown2) HL.out HD.out (by rw [HL.out]; omega) (Utf8Tabs_below HT.out hB2)).mono ?_
  rintro e w3 ⟨v3, rfl, hown3, hb3⟩
  rw [HM.out] at hown3
  obtain ⟨A3, c3, rfl, hn3, hm3⟩ := own_slice hown3
  have hB3 := hB2.trans (hb3.mono hB2.size)
  go_wp2_with fail
  refine (scalars_any A3 m c3 w3.heap.size zs _ (Rd.of_own hown3) HM.out (by simp only [maxLen]; omega)).mono ?_
  rintro e w4 ⟨he, rfl⟩
  rw [HO.out] at he
  subst he
  go_wp2_with fail
  refine (Encode_any A3 m c3 w3.heap.size zs _ (Rd.of_own hown3) (Nat.le_refl _) HM.out HF.out (by omega)).mono ?_
  rintro e w5 ⟨he, hb5⟩
  rw [HE.out, HO.out] at he
  subst he
  have hB5 := hB3.trans (hb5.mono hB3.size)
  -- the text of the beginning
  have hk' : (s.data.toList.take k).length = k := by rw [List.length_take, size_data, HL.out]; omega
  have HK := hide hk'
  obtain ⟨t, ht⟩ : ∃ t, txt (s.data.toList.take k) = t := ⟨_, rfl⟩
  have hts : t.size = k := by rw [← ht, txt_size, hk']
  have htd : t.data.toList = s.data.toList.take k := by rw [← ht, txt_data]
  rw [show (⟨(s.data.toList.take k).toArray⟩ : ByteArray) = t from ht]
  have hcv5 := str_bytes (P := Tryd.prog) (c := c) 24 5 9 Tryd.underlying24 Tryd.underlying5 Tryd.underlying9 hts (B := w.heap.size) (A := A) (w := w5) (by
    rw [htd, show Lib.byteCells (s.data.toList.take k) = (Lib.byteCells s.data.toList).take k by simp [Lib.byteCells, List.map_take]]
    exact (hrs.below hB5).take k)
  have HTS := hide hts
  have HTD := hide htd
  clear hts htd hk' ht
  go_wp2_with fail
  refine (Clean_string t _ (by rw [HTS.out]; omega) (Utf8Tabs_below HT.out hB5)).mono ?_
  rintro e w6 ⟨he, hb6⟩
  rw [HTD.out, HVT.out] at he
  subst he
  have hB6 := hB5.trans (hb6.mono hB5.size)
  clear hcv5
  go_wp2_with fail
  refine (copied_any A n c w.heap.size s.data.toList _ (hrs.below hB6) hB6.size (by rw [size_data]; exact HL.out) (by omega)).mono ?_
  rintro e w7 ⟨v7, rfl, hown7, hb7⟩
  obtain ⟨A7, c7, rfl, hn7, hm7⟩ := own_slice hown7
  have hB7 := hB6.trans (hb7.mono hB6.size)
  go_wp2_with fail
  refine (Clean_bytes A7 n c7 w7.heap.size s _ (Rd.of_own hown7) HL.out (by rw [HL.out]; omega) (Utf8Tabs_below HT.out hB7)).mono ?_
  rintro e w8 ⟨he, hb8⟩
  rw [HV.out] at he
  subst he
  have hB8 := hB7.trans (hb8.mono hB7.size)
  clear hown2 hown3 hown7 hb1 hb2 hb3 hb5 hb6 hb7 hb8 hB2 hB3 hB5 hB6 hB7
  have hboth := eq_both k n
  go_wp2_with fail
  go_loopw [7] (fun i wr => ∃ q : Nat, k < q ∧ q ≤ n + 1 ∧ i = .int .i64 q ∧ Below w.heap.size w wr) (fun i _ => n + 1 - (intOf i).toNat)
  case atStart => exact ⟨k + 1, by omega, by omega, by go_num, hB8⟩
  case round =>
    obtain ⟨q, hkq, hqn, rfl, hb⟩ := hrel
    by_cases hlt : q ≤ n ∧ q ≤ k + 4
    · obtain ⟨hqn', hq4⟩ := hlt
      have hb' := hb.size
      have e1 : ((s.data.toList.drop k).take (q - k)).length = q - k := by rw [List.length_take, List.length_drop, size_data, HL.out]; omega
      have e2 : (s.data.toList.take q).length = q := by rw [List.length_take, size_data, HL.out]; omega
      have HBQ := hide (HBE.out q hkq (by rw [size_data, HL.out]; exact hqn'))
      have HLQ := hide (HLO.out q hkq (by rw [size_data, HL.out]; exact hqn'))
      obtain ⟨t1, ht1⟩ : ∃ t1, txt ((s.data.toList.drop k).take (q - k)) = t1 := ⟨_, rfl⟩
      obtain ⟨t2, ht2⟩ : ∃ t2, txt (s.data.toList.take q) = t2 := ⟨_, rfl⟩
      have s1 : t1.size = q - k := by rw [← ht1, txt_size, e1]
      have s2 : t2.size = q := by rw [← ht2, txt_size, e2]
      have d1 : t1.data.toList = (s.data.toList.drop k).take (q - k) := by rw [← ht1, txt_data]
      have d2 : t2.data.toList = s.data.toList.take q := by rw [← ht2, txt_data]
      have hcv := str_bytes (P := Tryd.prog) (c := c - k) 24 5 9 Tryd.underlying24 Tryd.underlying5 Tryd.underlying9 s1 (B := w.heap.size) (A := A.map (·.add k)) (w := wr) (by
        rw [d1, show Lib.byteCells ((s.data.toList.drop k).take (q - k)) = ((Lib.byteCells s.data.toList).drop k).take (q - k) by simp [Lib.byteCells, List.map_take, List.map_drop]]
        exact ((hrs.below hb).drop k).take (q - k))
      have r2 : Rd wr w.heap.size A (Lib.byteCells t2.data.toList) := by
        rw [d2, show Lib.byteCells (s.data.toList.take q) = (Lib.byteCells s.data.toList).take q by simp [Lib.byteCells, List.map_take]]
        exact (hrs.below hb).take q
      have S1 := hide s1
      have S2 := hide s2
      have D1 := hide d1
      have D2 := hide d2
      clear s1 s2 d1 d2 ht1 ht2 e1 e2
      go_wp2_with fail
      refine (Clean_string t1 _ (by rw [S1.out]; omega) (Utf8Tabs_below HT.out hb)).mono ?_
      rintro e x1 ⟨he, hx1⟩
      rw [D1.out, HBQ.out] at he
      subst he
      have hX1 := hb.trans (hx1.mono hb')
      clear hcv
      go_wp2_with fail
      refine (copied_any A q c w.heap.size t2.data.toList _ (r2.below' hx1 hb') hX1.size (by rw [size_data]; exact S2.out) (by omega)).mono ?_
      rintro e x2 ⟨v2, rfl, hown2, hx2⟩
      obtain ⟨A9, c9, rfl, hn9, hm9⟩ := own_slice hown2
      have hX2 := hX1.trans (hx2.mono hX1.size)
      go_wp2_with fail
      refine (Clean_bytes A9 q c9 x2.heap.size t2 _ (Rd.of_own hown2) S2.out (by rw [S2.out]; omega) (Utf8Tabs_below HT.out hX2)).mono ?_
      rintro e x3 ⟨he, hx3⟩
      rw [D2.out, HLQ.out] at he
      subst he
      have hX3 := hX2.trans (hx3.mono hX2.size)
      clear hown2
      go_wp2_with fail
      go_roundw
      case rel => exact ⟨q + 1, by omega, by omega, by go_num, hX3⟩
      case measure => simp [intOf]; omega
    · by_cases hqn' : q ≤ n
      · have h4 : ¬ (q : Int) ≤ (k : Int) + 4 := by omega
        go_wp2_with fail
        go_ret
        exact ⟨rfl, hb⟩
      · go_wp2_with fail
        go_ret
        exact ⟨rfl, hb⟩

/-! the frame -/
theorem cells_rune : Tryd.prog.cellsOf 21 = 1 := by kernel_rfl
theorem cells_byte : Tryd.prog.cellsOf 5 = 1 := by kernel_rfl
theorem cells_int : Tryd.prog.cellsOf 3 = 1 := by kernel_rfl
theorem cells_runes : Tryd.prog.cellsOf 26 = 1 := by kernel_rfl
theorem cells_bytes : Tryd.prog.cellsOf 24 = 1 := by kernel_rfl

/-- what the walk gives, for every argument within the bound and every world that holds the tables -/
theorem contract (H : Type) (enc : TypeId × Value → H) (W : World) (base : Nat) (args : Array Value) (ds gs : List (DataW H)) (before : List MemPlace)
    (hval : ∀ (j : Nat) t v, Tryd.f6.params[j]? = some t → args[j]? = some v → Value.okWide Tryd.prog W .any base t v)
    (hW : DataW.Whole enc Tryd.prog Tryd.f6.params.toList Rows.utfThereSpec.vars false W args.toList ds gs before) (hk : Rows.uptoSmall H (ds ++ gs) = true) (hL : laidMetH Tryd.prog tabs.laid2 W) :
    Calls Tryd.prog 6 args W fun e W' => ∃ v, e = .returned v ∧ Rows.utfThereSpec.post enc Tryd.prog Tryd.f6 false true false false W args v W' := by
  have hT : Lib.Utf8Tabs 0 1 W := tabs.tabs_of hL
  have hW' := hW
  obtain ⟨p, q, hA0, hV, rfl, hfz, hnd⟩ := hW
  have hA : DataW.TrodAll enc Tryd.prog W 0 (fun _ => true) true Tryd.f6.params.toList args.toList ds p := hA0
  rw [Tryd.params6] at hA hval
  obtain ⟨v0, vs0, d0, ds0, p0, q0, hargs, rfl, rfl, h0, r0⟩ := trodAll_cons hA
  obtain ⟨rfl, rfl, rfl⟩ := trodAll_nil r0
  obtain rfl : args = #[v0] := by cases args; simp_all
  obtain ⟨rfl, rfl⟩ := trodVars_none hV
  have hbulk := tabs.bound hk
  simp only [List.append_nil, Rows.uptoBulkAll] at hbulk
  clear hk
  have fin : ∀ (e : Ending) (W' : World), (e = .returned (.bool true) ∧ Below W.heap.size W W') → ∃ v, e = .returned v ∧ Rows.utfThereSpec.post enc Tryd.prog Tryd.f6 false true false false W #[v0] v W' := fun e W' ⟨he, hb⟩ => by
    subst he
    refine ⟨_, rfl, law_post rfl rfl rfl rfl tabs.laidOut ?_ (by kernel_rfl) Tryd.underlying4 hW' hb⟩
    rw [Tryd.params6]
    intro t ht
    simp only [List.mem_cons, List.mem_nil_iff, or_false] at ht
    subst ht
    exact ⟨by kernel_rfl, of_decide_eq_true (by kernel_rfl)⟩
  obtain ⟨A, n, c, zs, rfl, hl0, hn0, hm0, hr0, hw0, hd0⟩ := rd_ints Tryd.underlying24 Tryd.underlying5 cells_byte (hval 0 24 v0 rfl rfl) h0
  have hs0 : n ≤ 1048576 := by
    rcases hd0 with ⟨_, h⟩ | ⟨r, hd, _⟩
    · omega
    · have i1 := tabs.slice_le (lits (H := H) .u8 zs) (lits .u8 r)
      rw [hd] at hbulk
      have e1 : (lits (H := H) .u8 zs).length = zs.length := by simp [lits]
      have e2 : (lits (H := H) .u8 r).length = r.length := by simp [lits]
      omega
  obtain ⟨s, hs⟩ := string_of hw0
  have hss : s.size = n := by rw [← hl0, ← hs]; simp [ints]
  have hrb := hr0
  rw [show zs.map (Value.int .u8) = Lib.byteCells s.data.toList by rw [← hs]; simp [ints, Lib.byteCells]] at hrb
  exact (walk A n c s W hrb hss hn0 hm0 hs0 hT).mono fin

theorem reads (os : Os) {H : Type} (enc : TypeId × Value → H) : ∃ places, DataW.whole enc Tryd.prog ((tabs.laidWorld os).forCall (fun _ _ => 0) ⟨#[], #[.slice none 0 0], []⟩).memory Tryd.f6.params.toList Rows.utfThereSpec.vars false (#[.slice none 0 0] : Array Value).toList 8 = some ([.nil], [], places) :=
  ⟨[], by kernel_rfl⟩

set_option maxRecDepth 100000 in
theorem lifted (os : Os) (started : os.Started) (H : Type) (enc : TypeId × Value → H) (F : Stop.Interp) :
    ReturnsInHanded {} Tryd.checked os 6 .any ((Rows.OpenSpec.upto Rows.utfThereSpec).preRow enc Tryd.prog Tryd.f6 Rows.utfThereUptoRow.domain false Rows.utfThereUptoRow.laid) (((Rows.OpenSpec.upto Rows.utfThereSpec).at F).post enc Tryd.prog Tryd.f6 false true false false) := by
  obtain ⟨places, hx⟩ := reads os enc
  refine returnsInHanded_of_row (C := Tryd.checked) (s := Rows.OpenSpec.upto Rows.utfThereSpec) tabs.own started (by kernel_rfl) Tryd.func6
    (witness_row_at (enc := enc) (C := Tryd.checked) false (tabs.laidWorld os) #[.slice none 0 0] rfl (by kernel_rfl) (by kernel_rfl) (by kernel_rfl)
      (OpenSpec.preRow_of_cond 8 hx (by kernel_rfl) (fun k hk => by cases hk; kernel_rfl) (by kernel_rfl) (tabs.laid_met os _))) ?_
  intro W base args ds gs before hval hW _ hcond _ hL _ _
  exact contract H enc W base args ds gs before hval hW (hcond _ rfl) hL

theorem saidUpto : Rows.UtfThereUptoSaid :=
  OpenClaim.holds_of_cond 6 Tryd.f6 rfl rfl rfl rfl rfl rfl rfl ⟨rfl, rfl, rfl, rfl, rfl⟩ rfl rfl rfl rfl rfl (by kernel_rfl) Tryd.func6 (by kernel_rfl)
    (of_decide_eq_true (by kernel_rfl)) (by unfold Func.isWrapper; first | (rw [if_pos (by decide +kernel)]; kernel_rfl) | (rw [if_neg (by decide +kernel)]; exact ⟨rfl, rfl⟩))
    (fun os started H enc _ F => by rw [OpenClaim.pre_eq_preRow]; exact lifted os started H enc F)

theorem plain (f : FuncId) (fn : Func) (hf : Tryd.pinned.checked.prog.funcNamed Rows.utfThereUptoRow.func = some f) (hfn : Tryd.pinned.checked.prog.funcs[f]? = some fn) :
    false = Tryd.pinned.checked.prog.looks [] ∧ ∀ (j : Nat) t, fn.params[j]? = some t → Tryd.pinned.checked.prog.wantsStandIn t = false := by
  obtain rfl : f = 6 := Option.some.inj ((show Tryd.prog.funcNamed Rows.utfThereUptoRow.func = some 6 by kernel_rfl).symm.trans hf) |>.symm
  obtain rfl : fn = Tryd.f6 := (Option.some.inj (Tryd.func6.symm.trans hfn)).symm
  refine ⟨by kernel_rfl, fun j t ht => ?_⟩
  rw [Tryd.params6] at ht
  have hm := Array.mem_of_getElem? ht
  simp only [List.mem_toArray, List.mem_cons, List.mem_nil_iff, or_false] at hm
  subst hm
  exact (show Tryd.prog.wantsStandIn _ = false by kernel_rfl)

/-- the statement: the second form's card -/
theorem card : Rows.UtfThereUptoCardSaid :=
  Claim7.holds_tied_plain_at .later [] _ _ _ _ saidUpto (fun _ h => by cases h) (by kernel_rfl) (fun _ h => by cases h) utfThereUpto_row_tie rfl ⟨rfl, rfl⟩ (by kernel_rfl) rfl plain (by kernel_rfl)
#print axioms card
end Go.Proofs.YtomkkagopjpfkaaDoor.utfThere
