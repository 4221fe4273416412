/-
  UtfFresh: for all bytes the law returns true, and the arguments read behind the call as before; where the arguments' values and letters are at most 1048576 in all.
-/
import Derived.Test.YtomkkagopjpfkaaDoorTabs
import Derived.Test.YtomkkagopjpfkaaDoorLined
import Derived.Test.YtomkkagopjpfkaaDoorOne
import Derived.Test.YtomkkagopjpfkaaDoorJoin0
import Derived.Test.YtomkkagopjpfkaaDoorAwake
import Derived.Lib.AppendStr
namespace Go.Proofs.YtomkkagopjpfkaaDoor.utfFresh
open Go.ChangeShapes Go.WideShapes Go.ChangeAt Go.RowKit
open Go.Proofs.YtomkkagopjpfkaaDoor.frame
open Go.Proofs.YtomkkagopjpfkaaDoor.words Go.Proofs.YtomkkagopjpfkaaDoor.enc Go.Proofs.YtomkkagopjpfkaaDoor.utf Go.Proofs.YtomkkagopjpfkaaDoor.dec Go.Proofs.YtomkkagopjpfkaaDoor.ref Go.Proofs.YtomkkagopjpfkaaDoor.one Go.Proofs.YtomkkagopjpfkaaDoor.back Go.Proofs.YtomkkagopjpfkaaDoor.ln Go.Proofs.YtomkkagopjpfkaaDoor.lines
set_option linter.unusedVariables false

def txt (l : List UInt8) : ByteArray := ⟨l.toArray⟩
theorem txt_data (l : List UInt8) : (txt l).data.toList = l := by simp [txt]
theorem txt_size (l : List UInt8) : (txt l).size = l.length := by rw [← size_data, txt_data]
theorem eq_both (k n : Nat) : (!decide (k = n) == ((k : Int) == (n : Int))) = false := by
  by_cases h : k = n
  · subst h; simp
  · simp [h]; omega
theorem eq_both2 (k n : Nat) : (decide (k = n) == ((k : Int) == (n : Int))) = true := by
  by_cases h : k = n
  · subst h; simp
  · simp [h]; omega

/-- the spare room's letters -/
def room : ByteArray := ⟨#[48, 49, 50, 51, 52, 53, 54, 55, 56, 57, 97, 98, 99, 100, 101, 102, 103, 104, 105, 106, 107, 108, 109, 110, 111, 112, 113, 114, 115, 116, 117, 118, 119, 120, 121, 122]⟩
theorem room_size : room.size = 36 := rfl
def tailB : List UInt8 := room.data.toList
theorem tail_len : tailB.length = 36 := rfl
theorem bytes_app (a b : List UInt8) : Lib.byteCells (a ++ b) = Lib.byteCells a ++ Lib.byteCells b := by simp [Lib.byteCells]
theorem front {w : World} {B n : Nat} {A : Option Addr} {l r : List UInt8} (hr : Rd w B A (Lib.byteCells (l ++ r))) (hl : l.length = n) : Rd w B A (Lib.byteCells l) := by
  have hrt := hr.take n
  rw [bytes_app, List.take_left' (by rw [bytes_len]; exact hl)] at hrt
  exact hrt
theorem bytes_set {l r : List UInt8} {k : Nat} {b : UInt8} (hk : k < l.length) : (Lib.byteCells (l ++ r)).set k (.int .u8 (b.toNat : Int)) = Lib.byteCells (l.set k b ++ r) := by
  rw [bytes_app, bytes_app, List.set_append, if_pos (by rw [bytes_len]; exact hk)]
  unfold Lib.byteCells
  rw [List.map_set]
theorem dec_at {l : List UInt8} {zs : List Int} {k : Nat} {w w' : World} {e : Ending} (hd : decF l = (zs, k)) (h : DecPost l w e w') :
    ∃ v, e = .returned (.tuple #[v, .int .i64 k]) ∧ w'.ownsRow w.heap.size 21 1 v zs.length (zs.map (Value.int .i32)) ∧ Below w.heap.size w w' := by
  unfold DecPost at h
  rw [hd] at h
  exact h

set_option maxRecDepth 100000 in
set_option maxHeartbeats 8000000 in
theorem walk (A A' : Option Addr) (n c n' c' : Nat) (s : ByteArray) (o : ByteArray) (w : World) (hr : Rd w w.heap.size A (Lib.byteCells s.data.toList)) (hr' : Rd w w.heap.size A' (Lib.byteCells o.data.toList)) (hl : s.size = n) (hl' : o.size = n') (hn : n ≤ 1048576) (hT : Lib.Utf8Tabs 0 1 w) :
    Calls Tryd.prog 10 #[.slice A n c, .slice A' n' c'] w fun e w' => e = .returned (.bool true) ∧ Below w.heap.size w w' := by
  obtain ⟨i0, hi0, hz0, hz1, hz2⟩ := info_parts byte_info
  obtain ⟨zs, k, hd⟩ : ∃ zs k, decF s.data.toList = (zs, k) := ⟨_, _, rfl⟩
  have hzs := decF_len s.data.toList
  have hk := decF_le s.data.toList
  have hval := validD_iff s.data.toList
  rw [hd] at hzs hk hval
  rw [size_data, hl] at hk hval
  dsimp only at hzs hk hval
  have HL := hide hl
  have HL' := hide hl'
  have HT := hide hT
  have HD := hide hd
  have HV := hide hval
  obtain ⟨m, hm⟩ : ∃ m, zs.length = m := ⟨_, rfl⟩
  have HM := hide hm
  rw [hm] at hzs
  clear hl hl' hT hd hval hm
  go_enter Tryd.func10, Tryd.ntmps10
  go_wp2_with fail
  refine (awake_any _ HT.out).mono ?_
  rintro e w1 ⟨rfl, hb1⟩
  go_wp2_with fail
  refine (copied_any A n c w.heap.size s.data.toList _ (hr.below hb1) hb1.size (by rw [size_data]; exact HL.out) (by omega)).mono ?_
  rintro e w2 ⟨v2, rfl, hown2, hb2⟩
  obtain ⟨A2, c2, rfl, hn2, hm2⟩ := own_slice hown2
  have hB2 := hb1.trans (hb2.mono hb1.size)
  have za := hb1.size
  have zb := hb2.size
  go_wp2_with (at_builtin; refine Lib.wpList_append_own_string _ rfl _ _ 24 9 rfl w1.heap.size 5 i0 Tryd.underlying24 Tryd.underlying9 hi0 hz0 hz1 hz2 _ n _ rfl hown2 room rfl ?c3 ?c4 ?c5 ?_)
  case c3 => rw [room_size]; simp only [maxLen]; omega
  case c4 => rw [room_size]; omega
  case c5 => exact zb
  intro v3 w3 hown3 hg3 _
  rw [room_size] at hown3
  have hown3 : w3.ownsRow w1.heap.size 5 1 v3 (n + 36) (Lib.byteCells (s.data.toList ++ tailB)) := by rw [bytes_app]; exact hown3
  have hb3 := below_append (Below.refl w1.heap.size w2) hown2 (Nat.le_refl _) hg3 zb
  have hB3 := hB2.trans (hb3.mono za)
  have zc := hg3.size
  obtain ⟨A3, c3, rfl, hn3, hm3⟩ := own_slice hown3
  obtain ⟨g3, rfl, hg31, hg32, _⟩ := own_form hown3 (by omega)
  have hc3 : n ≤ c3 := by omega
  clear hown2 hg3 hb3 hb2
  go_wp2_with fail
  refine (Decode_bytes' _ n c3 w3.heap.size s zs k _ (front (n := n) (l := s.data.toList) (Rd.of_own hown3) (by rw [size_data]; exact HL.out)) HL.out HD.out (by rw [HL.out]; omega) (Utf8Tabs_below HT.out hB3)).mono ?_
  rintro e w4 ⟨v4, rfl, hown4, hb4⟩
  rw [HM.out] at hown4
  obtain ⟨A4, c4, rfl, _, _⟩ := own_slice hown4
  have hB4 := hB3.trans (hb4.mono hB3.size)
  have hown3 := own_below hown3 hb4
  go_wp2_with fail
  refine (Decode_bytes' _ n c3 w4.heap.size s zs k _ (front (n := n) (l := s.data.toList) (Rd.of_own hown3) (by rw [size_data]; exact HL.out)) HL.out HD.out (by rw [HL.out]; omega) (Utf8Tabs_below HT.out hB4)).mono ?_
  rintro e w5 ⟨v5, rfl, hown5, hb5⟩
  rw [HM.out] at hown5
  obtain ⟨A5, c5, rfl, _, _⟩ := own_slice hown5
  have hB5 := hB4.trans (hb5.mono hB4.size)
  have hown3 := own_below hown3 hb5
  have H4lt : Hid (∀ g, (Value.slice A4 m c4).ownBlock = some g → g < w4.heap.size) := fun g h => (hown4.lt g h).2
  have H5lt : Hid (∀ g, (Value.slice A5 m c5).ownBlock = some g → w4.heap.size ≤ g) := fun g h => (hown5.lt g h).1
  have hown4 := own_below hown4 hb5
  go_wp2_with fail
  refine (copied_any A n c w.heap.size s.data.toList _ (hr.below hB5) hB5.size (by rw [size_data]; exact HL.out) (by omega)).mono ?_
  rintro e w6 ⟨v6, rfl, hown6, hb6⟩
  obtain ⟨A6, c6, rfl, hn6, hm6⟩ := own_slice hown6
  have hB6 := hB5.trans (hb6.mono hB5.size)
  have hown3 := own_below hown3 hb6
  have hown4 := own_below hown4 hb6
  have hown5 := own_below hown5 hb6
  go_wp2_with fail
  refine (RefDecode_any A6 n c6 w6.heap.size s.data.toList _ (Rd.of_own hown6) (Nat.le_refl _) (by rw [size_data]; exact HL.out) hn6 hm6 (by omega)).mono ?_
  intro e w7 hp
  obtain ⟨v7, rfl, hown7, hb7⟩ := dec_at HD.out hp
  clear hp
  rw [HM.out] at hown7
  obtain ⟨A7, c7, rfl, _, _⟩ := own_slice hown7
  have hB7 := hB6.trans (hb7.mono hB6.size)
  have hown3 := own_below hown3 hb7
  have hown4 := own_below hown4 hb7
  have hown5 := own_below hown5 hb7
  go_wp2_with fail
  refine (alike_b A4 A7 m c4 c7 w7.heap.size w7.heap.size zs _ (Rd.of_own hown4) (Rd.of_own hown7) HM.out (by simp only [maxLen]; omega)).mono ?_
  rintro e w8 ⟨rfl, hb8⟩
  have hB8 := hB7.trans (hb8.mono hB7.size)
  have hown3 := own_below hown3 hb8
  have hown4 := own_below hown4 hb8
  have hown5 := own_below hown5 hb8
  have hown7 := own_below hown7 hb8
  go_wp2_with fail
  refine (alike_b A5 A7 m c5 c7 w8.heap.size w8.heap.size zs _ (Rd.of_own hown5) (Rd.of_own hown7) HM.out (by simp only [maxLen]; omega)).mono ?_
  rintro e w9 ⟨rfl, hb9⟩
  have hB9 := hB8.trans (hb9.mono hB8.size)
  have hown3 := own_below hown3 hb9
  have hown4 := own_below hown4 hb9
  have hown5 := own_below hown5 hb9
  go_wp2_with fail
  refine (Clean_bytes _ n c3 w9.heap.size s _ (front (n := n) (l := s.data.toList) (Rd.of_own hown3) (by rw [size_data]; exact HL.out)) HL.out (by rw [HL.out]; omega) (Utf8Tabs_below HT.out hB9)).mono ?_
  rintro e w10 ⟨he, hb10⟩
  rw [HV.out] at he
  subst he
  have hB10 := hB9.trans (hb10.mono hB9.size)
  have hown3 := own_below hown3 hb10
  have hown4 := own_below hown4 hb10
  have hown5 := own_below hown5 hb10
  have z310 : w3.heap.size ≤ w10.heap.size := Nat.le_trans hb4.size (Nat.le_trans hb5.size (Nat.le_trans hb6.size (Nat.le_trans hb7.size (Nat.le_trans hb8.size (Nat.le_trans hb9.size hb10.size)))))
  have zd := hb4.size
  clear hown6 hown7 hb4 hb5 hb6 hb7 hb8 hb9 hb10 hB2 hB3 hB4 hB5 hB6 hB7 hB8 hB9 hb1
  have hboth := eq_both k n
  have hK : (⟨#[48, 49, 50, 51, 52, 53, 54, 55, 56, 57, 97, 98, 99, 100, 101, 102, 103, 104, 105, 106, 107, 108, 109, 110, 111, 112, 113, 114, 115, 116, 117, 118, 119, 120, 121, 122]⟩ : ByteArray) = room := rfl
  have hcv3 := str_bytes (P := Tryd.prog) (c := c3) (n := n + 36) (s := s ++ room) 24 5 9 Tryd.underlying24 Tryd.underlying5 Tryd.underlying9 (by rw [ByteArray.size_append, HL.out, room_size]) (w := w10) (B := w10.heap.size) (A := some ⟨g3, 0, none⟩) (by
    rw [show (s ++ room).data.toList = s.data.toList ++ tailB by simp [tailB]]
    exact Rd.of_own hown3)
  have hcv0 := str_bytes (P := Tryd.prog) (c := c) 24 5 9 Tryd.underlying24 Tryd.underlying5 Tryd.underlying9 HL.out (hr.below hB10)
  have hrz := room_size
  go_wp2_with fail
  · have h1 := HL.out
    exfalso
    omega
  have hne : Hid ((Value.slice A4 m c4).ownBlock = none ∨ (Value.slice A4 m c4).ownBlock ≠ (Value.slice A5 m c5).ownBlock) := by
    by_cases h0 : (Value.slice A4 m c4).ownBlock = none
    · exact .inl h0
    · obtain ⟨g, hg⟩ := Option.ne_none_iff_exists'.1 h0
      refine .inr fun e => ?_
      have h1 := H4lt.out g hg
      have h2 := H5lt.out g (e.symm.trans hg)
      omega
  have hrows := rows_push (rows_push (rows_nil w10 w3.heap.size) (v := .slice A4 m c4) (l := zs) (by rw [HM.out]; exact hown4) (fun u hu => by cases hu)) (v := .slice A5 m c5) (l := zs) (by rw [HM.out]; exact own_older hown5 zd) (fun u hu => by
    simp only [List.nil_append, List.mem_singleton] at hu
    subst hu
    exact hne.out)
  have hrows1 := rows_kept hrows (World.grownBy_alloc _ (.cells #[.slice A4 m c4, .slice A5 m c5] 26) none) (fun v _ => by cases v.ownBlock <;> simp)
  have hownl := World.ownsRow_lit (base := w3.heap.size) (e := 26) (size := 1) w10 #[.slice A4 m c4, .slice A5 m c5] 2 z310 (by simp only [maxLen]; omega) rfl
  have hB10' := hB10.alloc hB10.size (.cells #[.slice A4 m c4, .slice A5 m c5] 26)
  have hown3 := hown3.alloc (.cells #[.slice A4 m c4, .slice A5 m c5] 26)
  refine (apart_any _ 2 2 w3.heap.size _ _ _ hownl hrows1 (Nat.le_trans z310 (by simp)) (by omega) (fun l hl => ?_)).mono ?_
  · have : l = zs := by simpa using hl
    subst this
    rw [HM.out]
    omega
  rintro e w11 ⟨rfl, hb11⟩
  have hB11 := hB10'.trans (hb11.mono (Nat.le_trans za (Nat.le_trans zb zc)))
  have hown3 := own_far hown3 hb11 (fun g hg => by injection hg with hg; have hg : g3 = g := hg; omega)
  clear hcv3 hcv0 hown4 hown5 hrows hrows1 hownl hB10 hB10' hb11 hK
  go_wp2_with fail
  go_loopw [13] (fun i wr => ∃ (q : Nat) (l : List UInt8), q ≤ n ∧ i = .int .i64 q ∧ Hid (l.length = n) ∧ wr.ownsRow w1.heap.size 5 1 (.slice (some ⟨g3, 0, none⟩) (n + 36) c3) (n + 36) (Lib.byteCells (l ++ tailB)) ∧ Below w.heap.size w wr) (fun i _ => n - (intOf i).toNat)
  case atStart => exact ⟨0, s.data.toList, Nat.zero_le _, rfl, by show _ = _; rw [size_data]; exact HL.out, hown3, hB11⟩
  case round =>
    clear hown3 hB11
    obtain ⟨q, l, hq, rfl, hll, hown3, hb⟩ := hrel
    by_cases hlt : q < n
    · have hqI : (q : Int) < (n : Int) := by omega
      have hqI2 : (q : Int) < (n : Int) + 36 := by omega
      obtain ⟨z, hcz⟩ : ∃ x, wr.cell? ⟨g3, q, none⟩ = some x := ⟨_, (hown3.cellAt q (by omega)).trans (List.getElem?_eq_getElem (by rw [hown3.1]; omega))⟩
      have hfz := hown3.frozenAt q
      have hs1 := (hown3.stored q (.int .u8 122)).1
      rw [show (Value.int .u8 122) = .int .u8 (((122 : UInt8).toNat : Nat) : Int) from rfl, bytes_set (by rw [hll.out]; exact hlt)] at hs1
      have hs1 : (wr.setCell ⟨g3, q, none⟩ (.int .u8 122)).ownsRow w1.heap.size 5 1 (.slice (some ⟨g3, 0, none⟩) (n + 36) c3) (n + 36) (Lib.byteCells (l.set q 122 ++ tailB)) := hs1
      have hlen1 : Hid ((l.set q 122).length = n) := by show _ = _; rw [List.length_set]; exact hll.out
      by_cases hlt2 : q < n'
      · have hq2 : (q : Int) < (n' : Int) := by omega
        have hb1 : Below w.heap.size w (wr.setCell ⟨g3, q, none⟩ (.int .u8 122)) := hb.setCell (by show w.heap.size ≤ g3; omega) _
        obtain ⟨ad, b, rfl, hbz, had, hcb⟩ := rd_byte (hr'.below hb1) (k := q) (by rw [size_data, HL'.out]; exact hlt2)
        obtain ⟨z2, hcz2⟩ : ∃ x, (wr.setCell ⟨g3, q, none⟩ (.int .u8 122)).cell? ⟨g3, q, none⟩ = some x := ⟨_, (hs1.cellAt q (by omega)).trans (List.getElem?_eq_getElem (by rw [hs1.1]; omega))⟩
        have hfz2 := hs1.frozenAt q
        have hs2 := (hs1.stored q (.int .u8 (b.toNat : Int))).1
        rw [bytes_set (by rw [hlen1.out]; exact hlt)] at hs2
        have hlen2 : Hid (((l.set q 122).set q b).length = n) := by show _ = _; rw [List.length_set]; exact hlen1.out
        have hb2 := hb1.setCell (show w.heap.size ≤ (⟨g3, q, none⟩ : Addr).block by show w.heap.size ≤ g3; omega) (.int .u8 (b.toNat : Int))
        have HBZ := hide hbz
        clear hbz
        go_wp2_with fail
        go_roundw
        case rel => exact ⟨q + 1, _, by omega, by go_num, hlen2, hs2, hb2⟩
        case measure => simp [intOf]; omega
      · have hq2 : ¬ ((q : Int) < (n' : Int)) := by omega
        go_wp2_with fail
        go_roundw
        case rel => exact ⟨q + 1, _, by omega, by go_num, hlen1, hs1, hb.setCell (by show w.heap.size ≤ g3; omega) _⟩
        case measure => simp [intOf]; omega
    · obtain rfl : q = n := by omega
      obtain ⟨wo, hwo⟩ : ∃ wo : World, wo = wr := ⟨_, rfl⟩
      rw [← hwo] at hown3 hb ⊢
      clear hwo wr
      obtain ⟨ts, j, hd⟩ : ∃ ts j, decF l = (ts, j) := ⟨_, _, rfl⟩
      have hts := decF_len l
      have hj := decF_le l
      have hval2 := validD_iff l
      rw [hd] at hts hj hval2
      rw [hll.out] at hj hval2
      dsimp only at hts hj hval2
      have HD2 : Hid (decF (txt l).data.toList = (ts, j)) := by show _ = _; rw [txt_data]; exact hd
      have HD2' := hide hd
      have HV2 := hide hval2
      obtain ⟨m2, hm2'⟩ : ∃ m, ts.length = m := ⟨_, rfl⟩
      have HM2 := hide hm2'
      rw [hm2'] at hts
      have HTZ : Hid ((txt l).size = q) := by show _ = _; rw [txt_size]; exact hll.out
      clear hd hval2 hm2'
      have hfr : ∀ (w' : World), w'.ownsRow w1.heap.size 5 1 (.slice (some ⟨g3, 0, none⟩) (q + 36) c3) (q + 36) (Lib.byteCells (l ++ tailB)) → Rd w' w'.heap.size (some ⟨g3, 0, none⟩) (Lib.byteCells (txt l).data.toList) := fun w' h => by
        rw [txt_data]
        exact front (n := q) (Rd.of_own h) hll.out
      have HFR := hide hfr
      clear hfr
      go_wp2_with fail
      refine (Decode_bytes' _ q c3 wo.heap.size (txt l) ts j _ (HFR.out _ hown3) HTZ.out HD2.out (by rw [HTZ.out]; omega) (Utf8Tabs_below HT.out hb)).mono ?_
      rintro e w12 ⟨v12, rfl, hown12, hb12⟩
      rw [HM2.out] at hown12
      obtain ⟨A12, c12, rfl, _, _⟩ := own_slice hown12
      have hB12 := hb.trans (hb12.mono hb.size)
      have hown3 := own_below hown3 hb12
      go_wp2_with fail
      refine (Clean_bytes _ q c3 w12.heap.size (txt l) _ (HFR.out _ hown3) HTZ.out (by rw [HTZ.out]; omega) (Utf8Tabs_below HT.out hB12)).mono ?_
      rintro e w13 ⟨he, hb13⟩
      rw [txt_data, HV2.out] at he
      subst he
      have hB13 := hB12.trans (hb13.mono hB12.size)
      have hown3 := own_below hown3 hb13
      have hown12 := own_below hown12 hb13
      go_wp2_with fail
      refine (copied_any _ q c3 w13.heap.size l _ (by have := HFR.out _ hown3; rwa [txt_data] at this) (Nat.le_refl _) hll.out (by omega)).mono ?_
      rintro e w14 ⟨v14, rfl, hown14, hb14⟩
      obtain ⟨A14, c14, rfl, hn14, hm14⟩ := own_slice hown14
      have hB14 := hB13.trans (hb14.mono hB13.size)
      have hown12 := own_below hown12 hb14
      go_wp2_with fail
      refine (RefDecode_any A14 q c14 w14.heap.size l _ (Rd.of_own hown14) (Nat.le_refl _) hll.out hn14 hm14 (by omega)).mono ?_
      intro e w15 hp
      obtain ⟨v15, rfl, hown15, hb15⟩ := dec_at HD2'.out hp
      clear hp
      rw [HM2.out] at hown15
      obtain ⟨A15, c15, rfl, _, _⟩ := own_slice hown15
      have hB15 := hB14.trans (hb15.mono hB14.size)
      have hown12 := own_below hown12 hb15
      go_wp2_with fail
      refine (alike_b A12 A15 m2 c12 c15 w15.heap.size w15.heap.size ts _ (Rd.of_own hown12) (Rd.of_own hown15) HM2.out (by simp only [maxLen]; omega)).mono ?_
      rintro e w16 ⟨rfl, hb16⟩
      have hB16 := hB15.trans (hb16.mono hB15.size)
      have hboth2 := eq_both2 j q
      go_wp2_with fail
      go_ret
      exact ⟨rfl, hB16⟩

/-! the frame -/
theorem cells_rune : Tryd.prog.cellsOf 21 = 1 := by kernel_rfl
theorem cells_byte : Tryd.prog.cellsOf 5 = 1 := by kernel_rfl
theorem cells_int : Tryd.prog.cellsOf 3 = 1 := by kernel_rfl
theorem cells_runes : Tryd.prog.cellsOf 26 = 1 := by kernel_rfl
theorem cells_bytes : Tryd.prog.cellsOf 24 = 1 := by kernel_rfl

/-- what the walk gives, for every argument within the bound and every world that holds the tables -/
theorem contract (H : Type) (enc : TypeId × Value → H) (W : World) (base : Nat) (args : Array Value) (ds gs : List (DataW H)) (before : List MemPlace)
    (hval : ∀ (j : Nat) t v, Tryd.f10.params[j]? = some t → args[j]? = some v → Value.okWide Tryd.prog W .any base t v)
    (hW : DataW.Whole enc Tryd.prog Tryd.f10.params.toList Rows.utfFreshSpec.vars false W args.toList ds gs before) (hk : Rows.uptoSmall H (ds ++ gs) = true) (hL : laidMetH Tryd.prog tabs.laid2 W) :
    Calls Tryd.prog 10 args W fun e W' => ∃ v, e = .returned v ∧ Rows.utfFreshSpec.post enc Tryd.prog Tryd.f10 false true false false W args v W' := by
  have hT : Lib.Utf8Tabs 0 1 W := tabs.tabs_of hL
  have hW' := hW
  obtain ⟨p, q, hA0, hV, rfl, hfz, hnd⟩ := hW
  have hA : DataW.TrodAll enc Tryd.prog W 0 (fun _ => true) true Tryd.f10.params.toList args.toList ds p := hA0
  rw [Tryd.params10] at hA hval
  obtain ⟨v0, vs0, d0, ds0, p0, q0, hargs, rfl, rfl, h0, r0⟩ := trodAll_cons hA
  obtain ⟨v1, vs1, d1, ds1, p1, q1, rfl, rfl, rfl, h1, r1⟩ := trodAll_cons r0
  obtain ⟨rfl, rfl, rfl⟩ := trodAll_nil r1
  obtain rfl : args = #[v0, v1] := by cases args; simp_all
  obtain ⟨rfl, rfl⟩ := trodVars_none hV
  have hbulk := tabs.bound hk
  simp only [List.append_nil, Rows.uptoBulkAll] at hbulk
  clear hk
  have fin : ∀ (e : Ending) (W' : World), (e = .returned (.bool true) ∧ Below W.heap.size W W') → ∃ v, e = .returned v ∧ Rows.utfFreshSpec.post enc Tryd.prog Tryd.f10 false true false false W #[v0, v1] v W' := fun e W' ⟨he, hb⟩ => by
    subst he
    refine ⟨_, rfl, law_post rfl rfl rfl rfl tabs.laidOut ?_ (by kernel_rfl) Tryd.underlying4 hW' hb⟩
    rw [Tryd.params10]
    intro t ht
    simp only [List.mem_cons, List.mem_nil_iff, or_false] at ht
    rcases ht with rfl | rfl
    all_goals exact ⟨by kernel_rfl, of_decide_eq_true (by kernel_rfl)⟩
  obtain ⟨A, n, c, zs, rfl, hl0, hn0, hm0, hr0, hw0, hd0⟩ := rd_ints Tryd.underlying24 Tryd.underlying5 cells_byte (hval 0 24 v0 rfl rfl) h0
  have hs0 : n ≤ 1048576 := by
    rcases hd0 with ⟨_, h⟩ | ⟨r, hd, _⟩
    · omega
    · have i1 := tabs.slice_le (lits (H := H) .u8 zs) (lits .u8 r)
      rw [hd] at hbulk
      have e1 : (lits (H := H) .u8 zs).length = zs.length := by simp [lits]
      have e2 : (lits (H := H) .u8 r).length = r.length := by simp [lits]
      omega
  obtain ⟨s, hs⟩ := string_of hw0
  have hss : s.size = n := by rw [← hl0, ← hs]; simp [ints]
  have hrb := hr0
  rw [show zs.map (Value.int .u8) = Lib.byteCells s.data.toList by rw [← hs]; simp [ints, Lib.byteCells]] at hrb
  obtain ⟨A2, n2, c2, bs, rfl, hl1, hn1, hm1, hr1, hw1, hd1⟩ := rd_ints Tryd.underlying24 Tryd.underlying5 cells_byte (hval 1 24 v1 rfl rfl) h1
  have hs1 : n2 ≤ 1048576 := by
    rcases hd1 with ⟨_, h⟩ | ⟨r, hd, _⟩
    · omega
    · have i1 := tabs.slice_le (lits (H := H) .u8 bs) (lits .u8 r)
      rw [hd] at hbulk
      have e1 : (lits (H := H) .u8 bs).length = bs.length := by simp [lits]
      have e2 : (lits (H := H) .u8 r).length = r.length := by simp [lits]
      omega
  obtain ⟨o, ht⟩ := string_of hw1
  have hso : o.size = n2 := by rw [← hl1, ← ht]; simp [ints]
  have hrc := hr1
  rw [show bs.map (Value.int .u8) = Lib.byteCells o.data.toList by rw [← ht]; simp [ints, Lib.byteCells]] at hrc
  exact (walk A A2 n c n2 c2 s o W hrb hrc hss hso hs0 hT).mono fin

theorem reads (os : Os) {H : Type} (enc : TypeId × Value → H) : ∃ places, DataW.whole enc Tryd.prog ((tabs.laidWorld os).forCall (fun _ _ => 0) ⟨#[], #[.slice none 0 0, .slice none 0 0], []⟩).memory Tryd.f10.params.toList Rows.utfFreshSpec.vars false (#[.slice none 0 0, .slice none 0 0] : Array Value).toList 8 = some ([.nil, .nil], [], places) :=
  ⟨[], by kernel_rfl⟩

set_option maxRecDepth 100000 in
theorem lifted (os : Os) (started : os.Started) (H : Type) (enc : TypeId × Value → H) (F : Stop.Interp) :
    ReturnsInHanded {} Tryd.checked os 10 .any ((Rows.OpenSpec.upto Rows.utfFreshSpec).preRow enc Tryd.prog Tryd.f10 Rows.utfFreshUptoRow.domain false Rows.utfFreshUptoRow.laid) (((Rows.OpenSpec.upto Rows.utfFreshSpec).at F).post enc Tryd.prog Tryd.f10 false true false false) := by
  obtain ⟨places, hx⟩ := reads os enc
  refine returnsInHanded_of_row (C := Tryd.checked) (s := Rows.OpenSpec.upto Rows.utfFreshSpec) tabs.own started (by kernel_rfl) Tryd.func10
    (witness_row_at (enc := enc) (C := Tryd.checked) false (tabs.laidWorld os) #[.slice none 0 0, .slice none 0 0] rfl (by kernel_rfl) (by kernel_rfl) (by kernel_rfl)
      (OpenSpec.preRow_of_cond 8 hx (by kernel_rfl) (fun k hk => by cases hk; kernel_rfl) (by kernel_rfl) (tabs.laid_met os _))) ?_
  intro W base args ds gs before hval hW _ hcond _ hL _ _
  exact contract H enc W base args ds gs before hval hW (hcond _ rfl) hL

theorem saidUpto : Rows.UtfFreshUptoSaid :=
  OpenClaim.holds_of_cond 10 Tryd.f10 rfl rfl rfl rfl rfl rfl rfl ⟨rfl, rfl, rfl, rfl, rfl⟩ rfl rfl rfl rfl rfl (by kernel_rfl) Tryd.func10 (by kernel_rfl)
    (of_decide_eq_true (by kernel_rfl)) (by unfold Func.isWrapper; first | (rw [if_pos (by decide +kernel)]; kernel_rfl) | (rw [if_neg (by decide +kernel)]; exact ⟨rfl, rfl⟩))
    (fun os started H enc _ F => by rw [OpenClaim.pre_eq_preRow]; exact lifted os started H enc F)

theorem plain (f : FuncId) (fn : Func) (hf : Tryd.pinned.checked.prog.funcNamed Rows.utfFreshUptoRow.func = some f) (hfn : Tryd.pinned.checked.prog.funcs[f]? = some fn) :
    false = Tryd.pinned.checked.prog.looks [] ∧ ∀ (j : Nat) t, fn.params[j]? = some t → Tryd.pinned.checked.prog.wantsStandIn t = false := by
  obtain rfl : f = 10 := Option.some.inj ((show Tryd.prog.funcNamed Rows.utfFreshUptoRow.func = some 10 by kernel_rfl).symm.trans hf) |>.symm
  obtain rfl : fn = Tryd.f10 := (Option.some.inj (Tryd.func10.symm.trans hfn)).symm
  refine ⟨by kernel_rfl, fun j t ht => ?_⟩
  rw [Tryd.params10] at ht
  have hm := Array.mem_of_getElem? ht
  simp only [List.mem_toArray, List.mem_cons, List.mem_nil_iff, or_false] at hm
  rcases hm with rfl | rfl
  all_goals exact (show Tryd.prog.wantsStandIn _ = false by kernel_rfl)

/-- the statement: the second form's card -/
theorem card : Rows.UtfFreshUptoCardSaid :=
  Claim7.holds_tied_plain_at .later [] _ _ _ _ saidUpto (fun _ h => by cases h) (by kernel_rfl) (fun _ h => by cases h) utfFreshUpto_row_tie rfl ⟨rfl, rfl⟩ (by kernel_rfl) rfl plain (by kernel_rfl)
#print axioms card
end Go.Proofs.YtomkkagopjpfkaaDoor.utfFresh
