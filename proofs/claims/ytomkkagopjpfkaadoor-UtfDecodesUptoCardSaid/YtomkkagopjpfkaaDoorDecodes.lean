/-
  UtfDecodes: for every list of sources the law returns true, and the argument reads behind the call as before; where the argument's values and letters are at most 1048576 in all.
-/
import Derived.Test.YtomkkagopjpfkaaDoorTabs
import Derived.Test.YtomkkagopjpfkaaDoorOne
import Derived.Lib.SlBytesConst
namespace Go.Proofs.YtomkkagopjpfkaaDoor.utfDecodes
open Go.ChangeShapes Go.WideShapes Go.ChangeAt Go.RowKit
open Go.Proofs.YtomkkagopjpfkaaDoor.frame
open Go.Proofs.YtomkkagopjpfkaaDoor.words Go.Proofs.YtomkkagopjpfkaaDoor.enc Go.Proofs.YtomkkagopjpfkaaDoor.utf Go.Proofs.YtomkkagopjpfkaaDoor.dec Go.Proofs.YtomkkagopjpfkaaDoor.ref Go.Proofs.YtomkkagopjpfkaaDoor.one
set_option linter.unusedVariables false

theorem decodes_any (A : Option Addr) (n c B : Nat) (s : ByteArray) (w : World) (hr : Rd w B A (Lib.byteCells s.data.toList)) (hB : B ≤ w.heap.size) (hl : s.size = n) (hc : n ≤ c) (hcm : c ≤ maxLen) (hn : n ≤ 35184372088832) (hT : Lib.Utf8Tabs 0 1 w) :
    Calls Tryd.prog 14 #[.slice A n c] w fun e w' => e = .returned (.bool true) ∧ Below w.heap.size w w' := by
  have HL := hide hl
  have hls : s.data.toList.length = n := by rw [← hl]; simp
  have HLS := hide hls
  have HT := hide hT
  have hdl := decF_len s.data.toList
  have hd2 := decF_le s.data.toList
  rw [hls] at hd2
  have hsz : s.size ≤ 35184372088832 := by omega
  clear hl hls hT
  go_enter Tryd.func14, Tryd.ntmps14
  -- the reference
  go_wp2_with fail
  refine (copied_any A n c B s.data.toList _ hr hB HLS.out (by omega)).mono ?_
  rintro e w1 ⟨v1, rfl, hown1, hb1⟩
  obtain ⟨A1, c1, rfl, hn1, hm1⟩ := own_slice hown1
  go_wp2_with fail
  refine (RefDecode_any A1 n c1 w1.heap.size s.data.toList _ (Rd.of_own hown1) (Nat.le_refl _) HLS.out hn1 hm1 hn).mono ?_
  rintro e w2 ⟨v2, rfl, hown2, hb2⟩
  obtain ⟨A2, c2, rfl, hn2, hm2⟩ := own_slice hown2
  have hB2 := hb1.trans (hb2.mono hb1.size)
  -- bytes
  go_wp2_with fail
  refine (copied_any A n c B s.data.toList _ (hr.below' hB2 hB) (Nat.le_trans hB hB2.size) HLS.out (by omega)).mono ?_
  rintro e w3 ⟨v3, rfl, hown3, hb3⟩
  obtain ⟨A3, c3, rfl, hn3, hm3⟩ := own_slice hown3
  have hB3 := hB2.trans (hb3.mono hB2.size)
  go_wp2_with fail
  refine (Decode_bytes A3 n c3 w3.heap.size s _ (Rd.of_own hown3) HL.out hsz (Utf8Tabs_below HT.out hB3)).mono ?_
  rintro e w4 ⟨v4, rfl, hown4, hb4⟩
  obtain ⟨A4, c4, rfl, hn4, hm4⟩ := own_slice hown4
  have hB4 := hB3.trans (hb4.mono hB3.size)
  -- a string
  have hcv4 := str_bytes (P := Tryd.prog) (c := c) 24 5 9 Tryd.underlying24 Tryd.underlying5 Tryd.underlying9 HL.out (hr.below' hB4 hB)
  go_wp2_with fail
  refine (Decode_string s _ hsz (Utf8Tabs_below HT.out hB4)).mono ?_
  rintro e w5 ⟨v5, rfl, hown5, hb5⟩
  obtain ⟨A5, c5, rfl, hn5, hm5⟩ := own_slice hown5
  have hB5 := hB4.trans (hb5.mono hB4.size)
  clear hcv4
  -- a type made from a string
  have hcv5 := str_bytes (P := Tryd.prog) (c := c) 24 5 55 Tryd.underlying24 Tryd.underlying5 Tryd.underlying55 HL.out (hr.below' hB5 hB)
  go_wp2_with fail
  refine (Decode_text s _ hsz (Utf8Tabs_below HT.out hB5)).mono ?_
  rintro e w6 ⟨v6, rfl, hown6, hb6⟩
  obtain ⟨A6, c6, rfl, hn6, hm6⟩ := own_slice hown6
  have hB6 := hB5.trans (hb6.mono hB5.size)
  clear hcv5
  -- a type made from bytes
  go_wp2_with fail
  refine (copied_any A n c B s.data.toList _ (hr.below' hB6 hB) (Nat.le_trans hB hB6.size) HLS.out (by omega)).mono ?_
  rintro e w7 ⟨v7, rfl, hown7, hb7⟩
  obtain ⟨A7, c7, rfl, hn7, hm7⟩ := own_slice hown7
  have hB7 := hB6.trans (hb7.mono hB6.size)
  go_wp2_with fail
  refine (Decode_octets A7 n c7 w7.heap.size s _ (Rd.of_own hown7) HL.out hsz (Utf8Tabs_below HT.out hB7)).mono ?_
  rintro e w8 ⟨v8, rfl, hown8, hb8⟩
  obtain ⟨A8, c8, rfl, hn8, hm8⟩ := own_slice hown8
  have hB8 := hB7.trans (hb8.mono hB7.size)
  -- all four read alike
  have hb56 := hb6.trans (hb7.mono hb6.size)
  have hb58 := hb56.trans (hb8.mono hb56.size)
  have hb48 := hb5.trans (hb58.mono hb5.size)
  have hb38 := hb4.trans (hb48.mono hb4.size)
  have hb28 := hb3.trans (hb38.mono hb3.size)
  have r2 := (Rd.of_own hown2).below hb28
  have r4 := (Rd.of_own hown4).below hb48
  have r5 := (Rd.of_own hown5).below hb58
  have r6 := (Rd.of_own hown6).below (hb7.trans (hb8.mono hb7.size))
  have r8 := Rd.of_own hown8
  have z2 : w2.heap.size ≤ w8.heap.size := hb28.size
  have z4 : w4.heap.size ≤ w8.heap.size := hb48.size
  have z5 : w5.heap.size ≤ w8.heap.size := hb58.size
  have z6 : w6.heap.size ≤ w8.heap.size := (hb7.trans (hb8.mono hb7.size)).size
  clear hb56 hb58 hb48 hb38 hb28 hown1 hown2 hown3 hown4 hown5 hown6 hown7 hown8 hb1 hb2 hb3 hb4 hb5 hb6 hb7 hb8
  have hml : (decF s.data.toList).1.length ≤ maxLen := by simp only [maxLen]; omega
  have hV : Lib.validD s.data.toList = ((((decF s.data.toList).2 : Nat) : Int) == (n : Int)) := by
    rw [validD_iff, HLS.out, Bool.eq_iff_iff, decide_eq_true_eq, beq_iff_eq]
    omega
  have HV := hide hV
  clear hV
  go_wp2_with fail
  refine (alike_b _ _ _ _ _ _ _ _ _ r4 r2 rfl hml).mono ?_
  rintro e w9 ⟨rfl, hb9⟩
  have z9 := hb9.size
  have hB9 := hB8.trans (hb9.mono hB8.size)
  replace r2 := r2.below' hb9 (by omega)
  replace r5 := r5.below' hb9 (by omega)
  replace r6 := r6.below' hb9 (by omega)
  replace r8 := r8.below' hb9 (by omega)
  go_wp2_with fail
  refine (alike_b _ _ _ _ _ _ _ _ _ r5 r2 rfl hml).mono ?_
  rintro e w10 ⟨rfl, hb10⟩
  have z10 := hb10.size
  have hB10 := hB9.trans (hb10.mono hB9.size)
  replace r2 := r2.below' hb10 (by omega)
  replace r6 := r6.below' hb10 (by omega)
  replace r8 := r8.below' hb10 (by omega)
  go_wp2_with fail
  refine (alike_b _ _ _ _ _ _ _ _ _ r6 r2 rfl hml).mono ?_
  rintro e w11 ⟨rfl, hb11⟩
  have z11 := hb11.size
  have hB11 := hB10.trans (hb11.mono hB10.size)
  replace r2 := r2.below' hb11 (by omega)
  replace r8 := r8.below' hb11 (by omega)
  go_wp2_with fail
  refine (alike_b _ _ _ _ _ _ _ _ _ r8 r2 rfl hml).mono ?_
  rintro e w12 ⟨rfl, hb12⟩
  have z12 := hb12.size
  have hB12 := hB11.trans (hb12.mono hB11.size)
  replace r2 := r2.below' hb12 (by omega)
  go_wp2_with fail
  refine (copied_any A n c B s.data.toList _ (hr.below' hB12 hB) (Nat.le_trans hB hB12.size) HLS.out (by omega)).mono ?_
  rintro e w13 ⟨v13, rfl, hown13, hb13⟩
  obtain ⟨A13, c13, rfl, hn13, hm13⟩ := own_slice hown13
  have hB13 := hB12.trans (hb13.mono hB12.size)
  go_wp2_with fail
  refine (Clean_bytes A13 n c13 w13.heap.size s _ (Rd.of_own hown13) HL.out hsz (Utf8Tabs_below HT.out hB13)).mono ?_
  rintro e w14 ⟨he, hb14⟩
  rw [HV.out] at he
  subst he
  have hB14 := hB13.trans (hb14.mono hB13.size)
  have hcv14 := str_bytes (P := Tryd.prog) (c := c) 24 5 9 Tryd.underlying24 Tryd.underlying5 Tryd.underlying9 HL.out (hr.below' hB14 hB)
  go_wp2_with fail
  refine (Clean_string s _ hsz (Utf8Tabs_below HT.out hB14)).mono ?_
  rintro e w15 ⟨he, hb15⟩
  rw [HV.out] at he
  subst he
  clear hcv14
  have hB15 := hB14.trans (hb15.mono hB14.size)
  have hcv15 := str_bytes (P := Tryd.prog) (c := c) 24 5 55 Tryd.underlying24 Tryd.underlying5 Tryd.underlying55 HL.out (hr.below' hB15 hB)
  go_wp2_with fail
  refine (Clean_text s _ hsz (Utf8Tabs_below HT.out hB15)).mono ?_
  rintro e w16 ⟨he, hb16⟩
  rw [HV.out] at he
  subst he
  clear hcv15
  have hB16 := hB15.trans (hb16.mono hB15.size)
  go_wp2_with fail
  refine (copied_any A n c B s.data.toList _ (hr.below' hB16 hB) (Nat.le_trans hB hB16.size) HLS.out (by omega)).mono ?_
  rintro e w17 ⟨v17, rfl, hown17, hb17⟩
  obtain ⟨A17, c17, rfl, hn17, hm17⟩ := own_slice hown17
  have hB17 := hB16.trans (hb17.mono hB16.size)
  go_wp2_with fail
  refine (Clean_octets A17 n c17 w17.heap.size s _ (Rd.of_own hown17) HL.out hsz (Utf8Tabs_below HT.out hB17)).mono ?_
  rintro e w18 ⟨he, hb18⟩
  rw [HV.out] at he
  subst he
  have hB18 := hB17.trans (hb18.mono hB17.size)
  go_wp2_with fail
  go_ret
  exact ⟨rfl, hB18⟩

/-- what the law hands in by itself -/
theorem rd_bytes (w : World) (l : List UInt8) (B : Nat) (hB : w.heap.size < B) : Rd (w.alloc (.cells (Lib.byteCells l).toArray 5)) B (some ⟨w.heap.size, 0, none⟩) (Lib.byteCells l) :=
  rd_new w _ _ hB

theorem rd_mark (w : World) (l : List UInt8) (B : Nat) (fr : Nat × Nat) (hB : w.heap.size < B) : Rd (w.alloc (.cells (Lib.byteCells l).toArray 5 fr)) B (some ⟨w.heap.size, 0, none⟩) (Lib.byteCells l) := fun _ =>
  ⟨_, rfl, hB, fun j u hu => by
    have hadd : (⟨w.heap.size, 0, none⟩ : Addr).add j = ⟨w.heap.size, j, none⟩ := by unfold Addr.add; split <;> simp_all
    rw [hadd, World.cell?_alloc_mark]
    simpa using hu⟩

/-- a list of sources, each within the bound -/
def Lists (w : World) (B : Nat) (AO : Option Addr) (n : Nat) : Prop :=
  ∀ r, r < n → ∃ (ad : Addr) (A : Option Addr) (m c : Nat) (s : ByteArray), AO = some ad ∧ ad.block < B ∧ w.cell? (ad.add r) = some (.slice A m c) ∧ s.size = m ∧ m ≤ c ∧ c ≤ maxLen ∧ Rd w B A (Lib.byteCells s.data.toList) ∧ m ≤ 35184372088832

theorem walk (AO : Option Addr) (n c : Nat) (w : World) (hn : n ≤ maxLen) (hL : Lists w w.heap.size AO n) (hT : Lib.Utf8Tabs 0 1 w) :
    Calls Tryd.prog 3 #[.slice AO n c] w fun e w' => e = .returned (.bool true) ∧ Below w.heap.size w w' := by
  unfold maxLen at hn
  have HL := hide hL
  have HT := hide hT
  clear hL hT
  have kc := fun (w : World) (C : Array Value) (n c : Nat) => Lib.run_convert_bytes_const (P := Tryd.prog) w 24 5 C n c Tryd.underlying24 Tryd.underlying5
  go_enter Tryd.func3, Tryd.ntmps3
  go_wp2_with fail
  refine (decodes_any _ 4 4 (w.heap.size + 1) ⟨#[97, 195, 169, 195]⟩ _ (rd_mark w [97, 195, 169, 195] _ _ (by omega)) (by simp) rfl (by omega) (by simp only [maxLen]; omega) (by omega) (Utf8Tabs_below HT.out ((Below.refl _ _).alloc (Nat.le_refl _) _))).mono ?_
  rintro e w1 ⟨rfl, hb1⟩
  have hb01 : Below w.heap.size w w1 := ((Below.refl _ _).alloc (Nat.le_refl _) _).trans (hb1.mono (by simp))
  clear hb1
  go_wp2_with fail
  refine (decodes_any _ 0 0 (w1.heap.size + 1) ⟨#[]⟩ _ (rd_mark w1 [] _ _ (by omega)) (by simp) rfl (by omega) (by simp only [maxLen]; omega) (by omega) (Utf8Tabs_below HT.out (hb01.alloc hb01.size _))).mono ?_
  rintro e w2 ⟨rfl, hb2⟩
  have hb02 : Below w.heap.size w w2 := (hb01.alloc hb01.size _).trans (hb2.mono (by have := hb01.size; simp; omega))
  clear hb2 hb01 kc
  go_wp2_with fail
  go_loopw [3] (fun i wr => ∃ k : Nat, k ≤ n ∧ i = .int .i64 k ∧ Below w.heap.size w wr) (fun i _ => n - (intOf i).toNat)
  case atStart => exact ⟨0, Nat.zero_le _, rfl, hb02⟩
  case round =>
    obtain ⟨k, hk, rfl, hb⟩ := hrel
    by_cases hlt : k < n
    · obtain ⟨ad, A, m, c', s, rfl, had, hc, hz, hmc, hcm, hr, hm⟩ := HL.out k hlt
      have hc' := (hb.cell (p := ad.add k) (by rw [add_block]; exact had)).trans hc
      have HZ := hide hz
      clear hz hc
      go_wp2_with fail
      refine (decodes_any A m c' w.heap.size s _ (hr.below hb) hb.size HZ.out hmc hcm hm (Utf8Tabs_below HT.out hb)).mono ?_
      rintro e w3 ⟨rfl, hb3⟩
      have hb13 := hb.trans (hb3.mono hb.size)
      go_wp2_with fail
      go_roundw
      case rel => exact ⟨k + 1, by omega, by go_num, hb13⟩
      case measure => simp [intOf]; omega
    · have hkn : k = n := by omega
      subst hkn
      go_wp2_with fail
      go_loopw [4] (fun i wr => ∃ j : Int, -1 ≤ j ∧ j < k ∧ i = .int .i64 j ∧ Below w.heap.size w wr) (fun i _ => (intOf i + 1).toNat)
      case atStart => exact ⟨(k : Int) - 1, by omega, by omega, rfl, hb⟩
      case round =>
        obtain ⟨j, hj1, hj2, rfl, hb⟩ := hrel
        by_cases hj : 0 ≤ j
        · obtain ⟨m, rfl⟩ := Int.eq_ofNat_of_zero_le hj
          have hlt : m < k := by omega
          clear hj1 hj2 hj
          obtain ⟨ad, A, m', c', s, rfl, had, hc, hz, hmc, hcm, hr, hm⟩ := HL.out m hlt
          have hc' := (hb.cell (p := ad.add m) (by rw [add_block]; exact had)).trans hc
          have HZ := hide hz
          clear hz hc
          go_wp2_with fail
          refine (decodes_any A m' c' w.heap.size s _ (hr.below hb) hb.size HZ.out hmc hcm hm (Utf8Tabs_below HT.out hb)).mono ?_
          rintro e w3 ⟨rfl, hb3⟩
          have hb13 := hb.trans (hb3.mono hb.size)
          go_wp2_with fail
          go_roundw
          case rel => exact ⟨(m : Int) - 1, by omega, by omega, rfl, hb13⟩
          case measure => simp [intOf]
        · go_wp2_with fail
          go_ret
          exact ⟨rfl, hb⟩

/-! the frame -/
theorem cells_rune : Tryd.prog.cellsOf 21 = 1 := by kernel_rfl
theorem cells_byte : Tryd.prog.cellsOf 5 = 1 := by kernel_rfl
theorem cells_int : Tryd.prog.cellsOf 3 = 1 := by kernel_rfl
theorem cells_runes : Tryd.prog.cellsOf 26 = 1 := by kernel_rfl
theorem cells_bytes : Tryd.prog.cellsOf 24 = 1 := by kernel_rfl

/-- what the walk gives, for every argument within the bound and every world that holds the tables -/
theorem contract (H : Type) (enc : TypeId × Value → H) (W : World) (base : Nat) (args : Array Value) (ds gs : List (DataW H)) (before : List MemPlace)
    (hval : ∀ (j : Nat) t v, Tryd.f3.params[j]? = some t → args[j]? = some v → Value.okWide Tryd.prog W .any base t v)
    (hW : DataW.Whole enc Tryd.prog Tryd.f3.params.toList Rows.utfDecodesSpec.vars false W args.toList ds gs before) (hk : Rows.uptoSmall H (ds ++ gs) = true) (hL : laidMetH Tryd.prog tabs.laid2 W) :
    Calls Tryd.prog 3 args W fun e W' => ∃ v, e = .returned v ∧ Rows.utfDecodesSpec.post enc Tryd.prog Tryd.f3 false true false false W args v W' := by
  have hT : Lib.Utf8Tabs 0 1 W := tabs.tabs_of hL
  have hW' := hW
  obtain ⟨p, q, hA0, hV, rfl, hfz, hnd⟩ := hW
  have hA : DataW.TrodAll enc Tryd.prog W 0 (fun _ => true) true Tryd.f3.params.toList args.toList ds p := hA0
  rw [Tryd.params3] at hA hval
  obtain ⟨v0, vs0, d0, ds0, p0, q0, hargs, rfl, rfl, h0, r0⟩ := trodAll_cons hA
  obtain ⟨rfl, rfl, rfl⟩ := trodAll_nil r0
  obtain rfl : args = #[v0] := by cases args; simp_all
  obtain ⟨rfl, rfl⟩ := trodVars_none hV
  have hbulk := tabs.bound hk
  simp only [List.append_nil, Rows.uptoBulkAll] at hbulk
  clear hk
  have fin : ∀ (e : Ending) (W' : World), (e = .returned (.bool true) ∧ Below W.heap.size W W') → ∃ v, e = .returned v ∧ Rows.utfDecodesSpec.post enc Tryd.prog Tryd.f3 false true false false W #[v0] v W' := fun e W' ⟨he, hb⟩ => by
    subst he
    refine ⟨_, rfl, law_post rfl rfl rfl rfl tabs.laidOut ?_ (by kernel_rfl) Tryd.underlying4 hW' hb⟩
    rw [Tryd.params3]
    intro t ht
    simp only [List.mem_cons, List.mem_nil_iff, or_false] at ht
    subst ht
    exact ⟨by kernel_rfl, of_decide_eq_true (by kernel_rfl)⟩
  obtain ⟨A, n, c, D, rfl, h1, h2, hrow, hd⟩ := rd_rows Tryd.underlying22 Tryd.underlying24 Tryd.underlying5 cells_bytes cells_byte (hval 0 22 v0 rfl rfl) h0
  have hL : Lists W W.heap.size A n := by
    intro r hr
    obtain ⟨ad, A', m, c', zs, e1, e2, e3, e4, e5, e6, e7, e8, e9⟩ := hrow r hr
    obtain ⟨s, hs⟩ := string_of e8
    have hss : s.size = m := by rw [← e4, ← hs]; simp [ints]
    refine ⟨ad, A', m, c', s, e1, e2, e3, hss, e5, e6, ?_, ?_⟩
    · rw [show Lib.byteCells s.data.toList = zs.map (Value.int .u8) by rw [← hs]; simp [ints, Lib.byteCells]]
      exact e7
    · rcases hd with ⟨_, h0⟩ | ⟨sp, hd, _⟩
      · omega
      · have i1 := tabs.ints_le e9
        have i2 := tabs.elem_le (spare := sp) (show D r ∈ (List.range n).map D from List.mem_map.2 ⟨r, List.mem_range.2 hr, rfl⟩)
        rw [hd] at hbulk
        omega
  exact (walk A n c W (Nat.le_trans h1 h2) hL hT).mono fin

theorem reads (os : Os) {H : Type} (enc : TypeId × Value → H) : ∃ places, DataW.whole enc Tryd.prog ((tabs.laidWorld os).forCall (fun _ _ => 0) ⟨#[], #[.slice none 0 0], []⟩).memory Tryd.f3.params.toList Rows.utfDecodesSpec.vars false (#[.slice none 0 0] : Array Value).toList 8 = some ([.nil], [], places) :=
  ⟨[], by kernel_rfl⟩

set_option maxRecDepth 100000 in
theorem lifted (os : Os) (started : os.Started) (H : Type) (enc : TypeId × Value → H) (F : Stop.Interp) :
    ReturnsInHanded {} Tryd.checked os 3 .any ((Rows.OpenSpec.upto Rows.utfDecodesSpec).preRow enc Tryd.prog Tryd.f3 Rows.utfDecodesUptoRow.domain false Rows.utfDecodesUptoRow.laid) (((Rows.OpenSpec.upto Rows.utfDecodesSpec).at F).post enc Tryd.prog Tryd.f3 false true false false) := by
  obtain ⟨places, hx⟩ := reads os enc
  refine returnsInHanded_of_row (C := Tryd.checked) (s := Rows.OpenSpec.upto Rows.utfDecodesSpec) tabs.own started (by kernel_rfl) Tryd.func3
    (witness_row_at (enc := enc) (C := Tryd.checked) false (tabs.laidWorld os) #[.slice none 0 0] rfl (by kernel_rfl) (by kernel_rfl) (by kernel_rfl)
      (OpenSpec.preRow_of_cond 8 hx (by kernel_rfl) (fun k hk => by cases hk; kernel_rfl) (by kernel_rfl) (tabs.laid_met os _))) ?_
  intro W base args ds gs before hval hW _ hcond _ hL _ _
  exact contract H enc W base args ds gs before hval hW (hcond _ rfl) hL

theorem saidUpto : Rows.UtfDecodesUptoSaid :=
  OpenClaim.holds_of_cond 3 Tryd.f3 rfl rfl rfl rfl rfl rfl rfl ⟨rfl, rfl, rfl, rfl, rfl⟩ rfl rfl rfl rfl rfl (by kernel_rfl) Tryd.func3 (by kernel_rfl)
    (of_decide_eq_true (by kernel_rfl)) (by unfold Func.isWrapper; first | (rw [if_pos (by decide +kernel)]; kernel_rfl) | (rw [if_neg (by decide +kernel)]; exact ⟨rfl, rfl⟩))
    (fun os started H enc _ F => by rw [OpenClaim.pre_eq_preRow]; exact lifted os started H enc F)

theorem plain (f : FuncId) (fn : Func) (hf : Tryd.pinned.checked.prog.funcNamed Rows.utfDecodesUptoRow.func = some f) (hfn : Tryd.pinned.checked.prog.funcs[f]? = some fn) :
    false = Tryd.pinned.checked.prog.looks [] ∧ ∀ (j : Nat) t, fn.params[j]? = some t → Tryd.pinned.checked.prog.wantsStandIn t = false := by
  obtain rfl : f = 3 := Option.some.inj ((show Tryd.prog.funcNamed Rows.utfDecodesUptoRow.func = some 3 by kernel_rfl).symm.trans hf) |>.symm
  obtain rfl : fn = Tryd.f3 := (Option.some.inj (Tryd.func3.symm.trans hfn)).symm
  refine ⟨by kernel_rfl, fun j t ht => ?_⟩
  rw [Tryd.params3] at ht
  have hm := Array.mem_of_getElem? ht
  simp only [List.mem_toArray, List.mem_cons, List.mem_nil_iff, or_false] at hm
  subst hm
  exact (show Tryd.prog.wantsStandIn _ = false by kernel_rfl)

/-- the statement: the second form's card -/
theorem card : Rows.UtfDecodesUptoCardSaid :=
  Claim7.holds_tied_plain_at .later [] _ _ _ _ saidUpto (fun _ h => by cases h) (by kernel_rfl) (fun _ h => by cases h) utfDecodesUpto_row_tie rfl ⟨rfl, rfl⟩ (by kernel_rfl) rfl plain (by kernel_rfl)
#print axioms card
end Go.Proofs.YtomkkagopjpfkaaDoor.utfDecodes
