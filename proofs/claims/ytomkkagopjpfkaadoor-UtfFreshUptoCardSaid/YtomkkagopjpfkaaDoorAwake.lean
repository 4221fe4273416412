/-
  The walk of 'awake': the calls whose answers the document's examples fix.
-/
import Derived.Test.YtomkkagopjpfkaaDoorPlaces
import Derived.Lib.SlBytesConst
namespace Go.Proofs.YtomkkagopjpfkaaDoor.lines
open Go.RowKit
open Go.Proofs.YtomkkagopjpfkaaDoor.words Go.Proofs.YtomkkagopjpfkaaDoor.enc Go.Proofs.YtomkkagopjpfkaaDoor.utf Go.Proofs.YtomkkagopjpfkaaDoor.dec Go.Proofs.YtomkkagopjpfkaaDoor.ref Go.Proofs.YtomkkagopjpfkaaDoor.ln
set_option linter.unusedVariables false

theorem ex_dec : decF [97, 195, 169, 195] = ([97, 233], 3) := by kernel_rfl
theorem ex_valid : Lib.validD [195, 169] = true := by kernel_rfl
theorem ex_enc : encS [97, 128512] = ⟨#[97, 240, 159, 152, 128]⟩ := by kernel_rfl
theorem ex_ok : okL [97, 128512] = true := by kernel_rfl
theorem ex_lines : linesOf [97, 13, 10, 98] = [[97], [98]] := by kernel_rfl
theorem ex_places : places [97, 10] 3 = [(1, 1), (1, 2), (2, 1)] := by kernel_rfl

theorem rd_mark (w : World) (l : List UInt8) (B : Nat) (fr : Nat × Nat) (hB : w.heap.size < B) : Rd (w.alloc (.cells (Lib.byteCells l).toArray 5 fr)) B (some ⟨w.heap.size, 0, none⟩) (Lib.byteCells l) := fun _ =>
  ⟨_, rfl, hB, fun j u hu => by
    have hadd : (⟨w.heap.size, 0, none⟩ : Addr).add j = ⟨w.heap.size, j, none⟩ := by unfold Addr.add; split <;> simp_all
    rw [hadd, World.cell?_alloc_mark]
    simpa using hu⟩
theorem rd_runes (w : World) (zs : List Int) (B : Nat) (hB : w.heap.size < B) : Rd (w.alloc (.cells (zs.map (Value.int .i32)).toArray 21)) B (some ⟨w.heap.size, 0, none⟩) (zs.map (Value.int .i32)) :=
  rd_new w _ _ hB

theorem awake_any (w : World) (hT : Lib.Utf8Tabs 0 1 w) :
    Calls Tryd.prog 15 #[] w fun e w' => e = .returned (.bool true) ∧ Below w.heap.size w w' := by
  have kc := fun (w : World) (C : Array Value) (n c : Nat) => Lib.run_convert_bytes_const (P := Tryd.prog) w 24 5 C n c Tryd.underlying24 Tryd.underlying5
  have HT := hide hT
  clear hT
  go_enter Tryd.func15, Tryd.ntmps15
  go_wp2_with fail
  refine (Decode_bytes _ 4 4 (w.heap.size + 1) ⟨#[97, 195, 169, 195]⟩ _ (rd_mark w [97, 195, 169, 195] _ _ (by omega)) rfl (by show 4 ≤ _; omega) (Utf8Tabs_below HT.out ((Below.refl _ _).alloc (Nat.le_refl _) _))).mono ?_
  rintro e w1 ⟨v1, rfl, hown1, hb1⟩
  have hb01 : Below w.heap.size w w1 := ((Below.refl _ _).alloc (Nat.le_refl _) _).trans (hb1.mono (by simp))
  rw [show (⟨#[97, 195, 169, 195]⟩ : ByteArray).data.toList = [97, 195, 169, 195] from rfl, ex_dec] at hown1 ⊢
  dsimp only at hown1 ⊢
  obtain ⟨A1, c1, rfl, _, _⟩ := own_slice hown1
  clear hb1 kc
  go_wp2_with fail
  have hr1 := (Rd.of_own hown1).alloc (Nat.le_refl _) (.cells #[.int .i32 97, .int .i32 233] 21)
  refine (alike_b A1 _ 2 c1 2 _ (w1.heap.size + 1) [97, 233] _ hr1 (rd_runes w1 [97, 233] _ (by omega)) rfl (by simp only [maxLen]; omega)).mono ?_
  rintro e w2 ⟨rfl, hb2⟩
  have hb02 : Below w.heap.size w w2 := (hb01.alloc hb01.size _).trans (hb2.mono (by have := hb01.size; simp; omega))
  clear hb2 hr1 hown1
  go_wp2_with fail
  refine (Clean_string ⟨#[195, 169]⟩ _ (by show 2 ≤ _; omega) (Utf8Tabs_below HT.out hb02)).mono ?_
  rintro e w3 ⟨rfl, hb3⟩
  rw [show (⟨#[195, 169]⟩ : ByteArray).data.toList = [195, 169] from rfl, ex_valid]
  have hb03 := hb02.trans (hb3.mono hb02.size)
  clear hb3
  go_wp2_with fail
  refine (Encode_any _ 2 2 (w3.heap.size + 1) [97, 128512] _ (rd_runes w3 [97, 128512] _ (by omega)) (by simp) rfl (by unfold Fits; decide) (by omega)).mono ?_
  rintro e w4 ⟨rfl, hb4⟩
  rw [ex_enc, ex_ok]
  have hb04 : Below w.heap.size w w4 := (hb03.alloc hb03.size _).trans (hb4.mono (by have := hb03.size; simp; omega))
  clear hb4
  go_wp2_with fail
  refine (Lines_any _ 4 4 (w4.heap.size + 1) [97, 13, 10, 98] _ (rd_runes w4 [97, 13, 10, 98] _ (by omega)) (by simp) rfl (by omega)).mono ?_
  rintro e w5 ⟨v5, cs, rfl, hown5, hrows5, hb5⟩
  have hb05 : Below w.heap.size w w5 := (hb04.alloc hb04.size _).trans (hb5.mono (by have := hb04.size; simp; omega))
  rw [ex_lines] at hrows5
  obtain ⟨u0, u1, rfl⟩ : ∃ u0 u1, cs = [u0, u1] := by
    have := hrows5.len
    match cs, this with
    | [a, b], _ => exact ⟨a, b, rfl⟩
  obtain ⟨u, hu, hownu⟩ := hrows5.rows 0 [97] rfl
  obtain rfl : u0 = u := by simpa using hu
  obtain ⟨Au, cu, rfl, _, _⟩ := own_slice hownu
  obtain ⟨A5, c5, rfl, _, _⟩ := own_slice hown5
  have hro := Rd.of_own hown5
  have hrl := Rd.of_own hownu
  clear hb5 hrows5 hown5 hownu hu
  go_wp2_with fail
  refine (Places_any _ 2 2 (w5.heap.size + 1) [97, 10] _ (rd_runes w5 [97, 10] _ (by omega)) (by simp) rfl (by omega)).mono ?_
  rintro e w6 ⟨v6, rfl, hown6, hb6⟩
  have hb06 : Below w.heap.size w w6 := (hb05.alloc hb05.size _).trans (hb6.mono (by have := hb05.size; simp; omega))
  have hz56 : w5.heap.size + 1 ≤ w6.heap.size := by have := hb6.size; simpa using this
  have hro6 := ((hro.alloc (Nat.le_refl _) (.cells #[.int .i32 97, .int .i32 10] 21)).below' hb6 (by simp))
  have hrl6 := ((hrl.alloc (Nat.le_refl _) (.cells #[.int .i32 97, .int .i32 10] 21)).below' hb6 (by simp))
  rw [ex_places] at hown6
  obtain ⟨A6, c6, rfl, _, _⟩ := own_slice hown6
  obtain ⟨ad, rfl, _, hc0⟩ := hro6.at (k := 0) (by simp)
  have hc0' : w6.cell? ad = some (.slice Au 1 cu) := by rw [show ad.add 0 = ad by unfold Addr.add; simp] at hc0; exact hc0
  clear hc0 hb6 hro hrl hro6
  go_wp2_with fail
  refine (alike_b Au _ 1 cu 1 w5.heap.size (w6.heap.size + 1) [97] _ (hrl6.alloc (by omega) _) (rd_runes w6 [97] _ (by omega)) rfl (by simp only [maxLen]; omega)).mono ?_
  rintro e w7 ⟨rfl, hb7⟩
  have hb07 : Below w.heap.size w w7 := (hb06.alloc hb06.size _).trans (hb7.mono (by have := hb06.size; simp; omega))
  have hp7 := ((Rd.of_own hown6).alloc (Nat.le_refl _) (.cells #[.int .i32 97] 21)).below' hb7 (by simp)
  obtain ⟨ap, rfl, _, hp4⟩ := hp7.at (k := 4) (by simp [pcells])
  obtain ⟨ap', ea, _, hp5⟩ := hp7.at (k := 5) (by simp [pcells])
  injection ea with ea
  subst ea
  rw [add_succ] at hp4 hp5
  have hq4 : w7.cell? ⟨ap.block, ap.off + 4, none⟩ = some (.int .i64 2) := hp4
  have hq5 : w7.cell? ⟨ap.block, ap.off + 5, none⟩ = some (.int .i64 1) := hp5
  clear hp4 hp5 hp7 hb7 hown6 hrl6
  go_wp2_with fail
  go_ret
  exact ⟨rfl, hb07⟩
end Go.Proofs.YtomkkagopjpfkaaDoor.lines
