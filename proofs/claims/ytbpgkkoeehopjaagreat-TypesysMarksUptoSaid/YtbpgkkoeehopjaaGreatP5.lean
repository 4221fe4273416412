/- Part 5 of 17 of a proof: see the last part. -/
import Derived.Test.YtbpgkkoeehopjaaGreatP1
import Derived.Test.YtbpgkkoeehopjaaGreatP3
import Derived.Test.YtbpgkkoeehopjaaGreatP4
import Derived.Deep.Cut
import Derived.Deep.RegionHeld3
import Derived.Deep.AppendLies
import Derived.Deep.DrawnRows
import Derived.Deep.RegionHeld
import Derived.Deep.MidRow
set_option linter.unusedVariables false
set_option linter.unusedSimpArgs false
namespace Go.Proofs.YtbpgkkoeehopjaaGreat.lex
open Go.RowKit Go.Proofs.YtbpgkkoeehopjaaGreat.words Go.Proofs.YtbpgkkoeehopjaaGreat.enc Go.Proofs.YtbpgkkoeehopjaaGreat.utf Go.Proofs.YtbpgkkoeehopjaaGreat.dec Go.Proofs.YtbpgkkoeehopjaaGreat.ln Go.Proofs.YtbpgkkoeehopjaaGreat.lines Go.Proofs.YtbpgkkoeehopjaaGreat.tree Go.Proofs.YtbpgkkoeehopjaaGreat.gram
set_option maxRecDepth 100000
def seen (c : Int) : Int := if sourceF c = true then c else -1
def lookF (zs : List Int) (clean : Bool) : List Int := zs.map seen ++ (if clean = true then [] else [-1]) ++ [-2]
set_option maxHeartbeats 4000000 in
theorem Look_any (A : Option Addr) (n c B : Nat) (zs : List Int) (clean : Bool) (w : World) (hr : Rd w B A (zs.map (Value.int .i32))) (hB : B ≤ w.heap.size) (hn : zs.length = n) (h63 : n ≤ 4194304) :
  Calls Tryz.prog 136 #[.slice A n c, .bool clean] w fun e w' => ∃ v, e = .returned v ∧ w'.ownsRow w.heap.size 21 1 v (lookF zs clean).length ((lookF zs clean).map (Value.int .i32)) ∧ Below w.heap.size w w' := by
 obtain ⟨i0, hi0, hz0, hz1, hz2⟩ := info_parts rune_info
 have HN := hide hn
 clear hn
 go_enter Tryz.func136, Tryz.ntmps136
 go_wp2_with fail
 go_loopw [5, 6] (fun v iv wr => ∃ k : Nat, k ≤ n ∧ iv = .int .i64 k ∧ wr.ownsRow w.heap.size 21 1 v k (((zs.map seen).take k).map (Value.int .i32)) ∧ Below w.heap.size w wr) (fun _ iv _ => n - (intOf iv).toNat)
 case atStart => exact ⟨0, Nat.zero_le _, rfl, World.ownsRow_nil _ _ _ _, Below.refl _ _⟩
 case round =>
  obtain ⟨k, hk, rfl, hown, hb⟩ := hrel
  obtain ⟨Av, cv, rfl, _, hcv⟩ := own_slice hown
  by_cases hlt : k < n
  · have hkI : (k : Int) < (n : Int) := by omega
    obtain ⟨z, hz⟩ : ∃ z, zs[k]? = some z := ⟨_, List.getElem?_eq_getElem (by rw [HN.out]; exact hlt)⟩
    obtain ⟨ad, rfl, hc⟩ := at_i32 (hr.below' hb hB) hz
    have hnext : ∀ (v2 : Value) (w2 : World), w2.ownsRow w.heap.size 21 1 v2 (k + 1) (((zs.map seen).take k).map (Value.int .i32) ++ [.int .i32 (seen z)]) → w2.ownsRow w.heap.size 21 1 v2 (k + 1) (((zs.map seen).take (k + 1)).map (Value.int .i32)) := fun v2 w2 h => by
     have e : (zs.map seen)[k]? = some (seen z) := by rw [List.getElem?_map, hz]; rfl
     obtain ⟨hk', he⟩ := List.getElem?_eq_some_iff.1 e
     rw [List.take_succ_eq_append_getElem hk', he]
     simpa using h
    have HNX := hide hnext
    clear hnext hz
    cases hs : sourceF z with
    | true =>
     have hse : seen z = z := by unfold seen; rw [if_pos hs]
     have HSE := hide hse
     have HS := hide hs
     clear hs hse
     go_wp2_with fail
     refine (Source_any z _).mono ?_
     rintro e wr ⟨rfl, rfl⟩
     rw [HS.out]
     go_wp2_with (at_builtin; refine wpList_append_rd _ rfl _ _ 187 rfl w.heap.size 21 i0 (.int .i32 0) 1 4 Tryz.underlying187 hi0 hz0 hz1 hz2 rfl (by decide) _ _ _ rfl (hown.alloc _) _ _ 1 1 [_] rfl (by rfl) (rd_new _ [_] _ (Nat.lt_succ_self _)) (one_i32 [_]) (by simp only [maxLen]; omega) (by omega) (Nat.le_trans hb.size (by simp)) ?_)
     intro v2 w2 hown2 hg2 hat2
     have hb2 := below_append (hb.alloc hb.size _) (hown.alloc _) (Nat.le_refl _) hg2 (Nat.le_trans hb.size (by simp))
     have hown3 := HNX.out v2 w2 (by rw [HSE.out]; simpa [List.map_take] using hown2)
     go_wp2_with fail
     go_roundw
     case rel => exact ⟨k + 1, by omega, by go_num, hown3, hb2⟩
     case measure => simp [intOf]; omega
    | false =>
     have hse : seen z = -1 := by unfold seen; rw [if_neg (by rw [hs]; decide)]
     have HSE := hide hse
     have HS := hide hs
     clear hs hse
     go_wp2_with fail
     refine (Source_any z _).mono ?_
     rintro e wr ⟨rfl, rfl⟩
     rw [HS.out]
     go_wp2_with (at_builtin; refine wpList_append_rd _ rfl _ _ 187 rfl w.heap.size 21 i0 (.int .i32 0) 1 4 Tryz.underlying187 hi0 hz0 hz1 hz2 rfl (by decide) _ _ _ rfl (hown.alloc _) _ _ 1 1 [_] rfl (by rfl) (rd_new _ [_] _ (Nat.lt_succ_self _)) (one_i32 [_]) (by simp only [maxLen]; omega) (by omega) (Nat.le_trans hb.size (by simp)) ?_)
     intro v2 w2 hown2 hg2 hat2
     have hb2 := below_append (hb.alloc hb.size _) (hown.alloc _) (Nat.le_refl _) hg2 (Nat.le_trans hb.size (by simp))
     have hown3 := HNX.out v2 w2 (by rw [HSE.out]; simpa [List.map_take] using hown2)
     go_wp2_with fail
     go_roundw
     case rel => exact ⟨k + 1, by omega, by go_num, hown3, hb2⟩
     case measure => simp [intOf]; omega
  · obtain rfl : k = n := by omega
    rw [List.take_of_length_le (by rw [List.length_map, HN.out]; exact Nat.le_refl _)] at hown
    have hbs := hb.size
    cases clean with
    | true =>
     have hlen : (lookF zs true).length = k + 1 := by simp [lookF, HN.out]
     have hcells : (lookF zs true).map (Value.int .i32) = (zs.map seen).map (Value.int .i32) ++ [.int .i32 (-2)] := by simp [lookF]
     have HL1 := hide hlen
     have HC1 := hide hcells
     clear hlen hcells
     go_wp2_with (at_builtin; refine wpList_append_rd _ rfl _ _ 187 rfl w.heap.size 21 i0 (.int .i32 0) 1 4 Tryz.underlying187 hi0 hz0 hz1 hz2 rfl (by decide) _ _ _ rfl (hown.alloc _) _ _ 1 1 [_] rfl (by rfl) (rd_new _ [_] _ (Nat.lt_succ_self _)) (one_i32 [_]) (by simp only [maxLen]; omega) (by omega) (Nat.le_trans hbs (by simp)) ?_)
     intro v2 w2 hown2 hg2 hat2
     have hb2 := below_append (hb.alloc hbs _) (hown.alloc _) (Nat.le_refl _) hg2 (Nat.le_trans hbs (by simp))
     go_wp2_with fail
     go_ret
     exact ⟨_, rfl, by rw [HL1.out, HC1.out]; simpa using hown2, hb2⟩
    | false =>
     have hlen : (lookF zs false).length = k + 2 := by simp [lookF, HN.out]
     have hcells : (lookF zs false).map (Value.int .i32) = (zs.map seen).map (Value.int .i32) ++ [.int .i32 (-1)] ++ [.int .i32 (-2)] := by simp [lookF]
     have HL1 := hide hlen
     have HC1 := hide hcells
     clear hlen hcells
     go_wp2_with (at_builtin; refine wpList_append_rd _ rfl _ _ 187 rfl w.heap.size 21 i0 (.int .i32 0) 1 4 Tryz.underlying187 hi0 hz0 hz1 hz2 rfl (by decide) _ _ _ rfl (hown.alloc _) _ _ 1 1 [_] rfl (by rfl) (rd_new _ [_] _ (Nat.lt_succ_self _)) (one_i32 [_]) (by simp only [maxLen]; omega) (by omega) (Nat.le_trans hbs (by simp)) ?_)
     intro v2 w2 hown2 hg2 hat2
     have hb2 := below_append (hb.alloc hbs _) (hown.alloc _) (Nat.le_refl _) hg2 (Nat.le_trans hbs (by simp))
     have hbs2 := hb2.size
     go_wp2_with (at_builtin; refine wpList_append_rd _ rfl _ _ 187 rfl w.heap.size 21 i0 (.int .i32 0) 1 4 Tryz.underlying187 hi0 hz0 hz1 hz2 rfl (by decide) _ _ _ rfl (hown2.alloc _) _ _ 1 1 [_] rfl (by rfl) (rd_new _ [_] _ (Nat.lt_succ_self _)) (one_i32 [_]) (by simp only [maxLen]; omega) (by omega) (Nat.le_trans hbs2 (by simp)) ?_)
     intro v3 w3 hown3 hg3 hat3
     have hb3 := below_append (hb2.alloc hbs2 _) (hown2.alloc _) (Nat.le_refl _) hg3 (Nat.le_trans hbs2 (by simp))
     go_wp2_with fail
     go_ret
     exact ⟨_, rfl, by rw [HL1.out, HC1.out]; simpa using hown3, hb3⟩
theorem res_seven {w : World} {g : Nat} {a b c d e f h : Value} {t : TypeId} (hg : w.heap[g]? = some (.cells #[a, b, c, d, e, f, h] t (0, 0))) (u0 u1 u2 u3 u4 u5 u6 : Value) :
  let w' := (((((((w.setCell ⟨g, 0, none⟩ u0).setCell ⟨g, 1, none⟩ u1).setCell ⟨g, 2, none⟩ u2).setCell ⟨g, 3, none⟩ u3).setCell ⟨g, 4, none⟩ u4).setCell ⟨g, 5, none⟩ u5).setCell ⟨g, 6, none⟩ u6)
  w'.cell? ⟨g, 0, none⟩ = some u0 ∧ w'.cell? ⟨g, 1, none⟩ = some u1 ∧ w'.cell? ⟨g, 2, none⟩ = some u2 ∧ w'.cell? ⟨g, 3, none⟩ = some u3 ∧ w'.cell? ⟨g, 4, none⟩ = some u4 ∧ w'.cell? ⟨g, 5, none⟩ = some u5 ∧ w'.cell? ⟨g, 6, none⟩ = some u6 := by
 refine ⟨?_, ?_, ?_, ?_, ?_, ?_, ?_⟩ <;> simp [World.setCell, World.cell?, Array.getElem?_modify, hg]
def tokenF (zs s : List Int) (f i : Nat) : Option TokD :=
 match behF s f i with
 | none => none
 | some a => match oneF s f a with
  | none => none
  | some r => if a ≤ r.1 ∧ r.1 ≤ s.length ∧ a ≤ zs.length then some ⟨r.2.1, (pl zs a).1, (pl zs a).2, a, r.1, (encS ((s.drop a).take (r.1 - a))).data.toList, r.2.2⟩ else none
theorem token_stop {zs s : List Int} {f i : Nat} {t : TokD} (h : tokenF zs s f i = some t) : ∃ too : Nat, t.stop = (too : Int) := by
 unfold tokenF at h
 cases ha : behF s f i with
 | none => rw [ha] at h; cases h
 | some a =>
  rw [ha] at h
  dsimp only at h
  cases ho : oneF s f a with
  | none => rw [ho] at h; cases h
  | some r =>
   rw [ho] at h
   dsimp only at h
   by_cases hok : a ≤ r.1 ∧ r.1 ≤ s.length ∧ a ≤ zs.length
   · rw [if_pos hok] at h
     injection h with h
     subst h
     exact ⟨r.1, rfl⟩
   · rw [if_neg hok] at h; cases h
set_option maxHeartbeats 4000000 in
theorem token_any (HB : BlockOk) (A Ap : Option Addr) (n c np cp B : Nat) (zs s : List Int) (w : World) (hr : Rd w B A (s.map (Value.int .i32))) (hB : B ≤ w.heap.size) (hn : s.length = n) (hnc : n ≤ c) (hcm : c ≤ maxLen) (h63 : n ≤ 4000000) (hlast : s.getLast? = some (-2))
  (hp : Rd w B Ap (pcells (places zs (np)))) (hnp : np = zs.length + 1) (f i : Nat) (t : TokD) (h : tokenF zs s f i = some t) :
  Calls Tryz.prog 138 #[.slice A n c, .slice Ap np cp, .int .i64 i] w fun e w' => e = .returned (tokV t) ∧ Below w.heap.size w w' := by
 have hc63 : c ≤ 9223372036854775807 := by simpa [maxLen] using hcm
 unfold tokenF at h
 cases ha : behF s f i with
 | none => rw [ha] at h; cases h
 | some a =>
  rw [ha] at h
  dsimp only at h
  cases ho : oneF s f a with
  | none => rw [ho] at h; cases h
  | some r =>
   rw [ho] at h
   dsimp only at h
   by_cases hok : a ≤ r.1 ∧ r.1 ≤ s.length ∧ a ≤ zs.length
   · rw [if_pos hok] at h
     injection h with h
     subst h
     obtain ⟨g1, g2, g3⟩ := hok
     obtain ⟨too, kind, value⟩ := r
     dsimp only at g1 g2 ⊢
     obtain ⟨sub, hsub⟩ : ∃ l, (s.drop a).take (too - a) = l := ⟨_, rfl⟩
     have hsl : sub.length = too - a := by rw [← hsub, List.length_take, List.length_drop]; omega
     have haI : (a : Int) ≤ (too : Int) := by omega
     have htc : too ≤ c := by omega
     have hst : str (encS sub).data.toList = encS sub := str_of _
     rw [hsub]
     simp only [tokV]
     rw [hst]
     have HSL := hide hsl
     clear hst hsl
     have hbw : Below w.heap.size w (w.alloc (.cells #[.int .i64 0, .int .i64 0, .int .i64 0, .int .i64 0, .int .i64 0, .string ⟨#[]⟩, .string ⟨#[]⟩] 148)) := (Below.refl _ _).alloc (Nat.le_refl _) _
     have hblk : (w.alloc (.cells #[.int .i64 0, .int .i64 0, .int .i64 0, .int .i64 0, .int .i64 0, .string ⟨#[]⟩, .string ⟨#[]⟩] 148)).heap[w.heap.size]? = some (.cells #[.int .i64 0, .int .i64 0, .int .i64 0, .int .i64 0, .int .i64 0, .string ⟨#[]⟩, .string ⟨#[]⟩] 148 (0, 0)) := heap_alloc_new w _
     go_enter Tryz.func138, Tryz.ntmps138
     go_wp2_with fail
     generalize w.alloc (.cells #[.int .i64 0, .int .i64 0, .int .i64 0, .int .i64 0, .int .i64 0, .string ⟨#[]⟩, .string ⟨#[]⟩] 148) = w1 at hbw hblk ⊢
     have hr1 := hr.below' hbw hB
     have hp1 := hp.below' hbw hB
     have hB1 := Nat.le_trans hB hbw.size
     refine (Behind_any A n c B s w1 hr1 hn (by omega) f i a ha).mono ?_
     rintro e w1 ⟨rfl, rfl⟩
     go_wp2_with fail
     refine (One_any HB A n c B s w1 hr1 hB1 hn hnc hcm h63 hlast f a (too, kind, value) ho).mono ?_
     rintro e w2 ⟨rfl, hb2⟩
     have hB2 := hbw.trans (hb2.mono hbw.size)
     have hblk2 := (hb2.block w.heap.size (Array.getElem?_eq_some_iff.1 hblk).1).trans hblk
     have hr2 := hr.below' hB2 hB
     have hrs := (hr2.drop a).take (too - a)
     rw [← List.map_drop, ← List.map_take, hsub] at hrs
     clear hsub
     obtain ⟨ad, rfl, _, p0, p1⟩ := rd_place (hp.below' hB2 hB) (k := a) (by omega)
     have hanp : (a : Int) < (np : Int) := by omega
     go_wp2_with fail
     · have hrs0 : Rd w2 B A (sub.map (Value.int .i32)) := by
        rw [List.eq_nil_of_length_eq_zero (l := sub) (by have := HSL.out; omega)]
        exact Rd.nil
       refine (RefEncode_any A (too - a) _ B sub _ hrs0 (Nat.le_trans hB hB2.size) HSL.out (by omega)).mono ?_
       rintro e w3 ⟨rfl, hb3⟩
       have hB3 := hB2.trans (hb3.mono hB2.size)
       have hblk3 := (hb3.block w.heap.size (Array.getElem?_eq_some_iff.1 hblk2).1).trans hblk2
       have p0 := (hb3.cell (p := ad.add (a * 2)) (World.block_lt_of_cell? _ _ p0)).trans p0
       have p1 := (hb3.cell (p := ⟨(ad.add (a * 2)).block, (ad.add (a * 2)).off + 1, none⟩) (World.block_lt_of_cell? _ _ p1)).trans p1
       have c0 : w3.cell? ⟨w.heap.size, 0, none⟩ = some (.int .i64 0) := cell_of_row w3 w.heap.size 0 _ _ (0, 0) hblk3
       have c1 : w3.cell? ⟨w.heap.size, 1, none⟩ = some (.int .i64 0) := cell_of_row w3 w.heap.size 1 _ _ (0, 0) hblk3
       have c2 : w3.cell? ⟨w.heap.size, 2, none⟩ = some (.int .i64 0) := cell_of_row w3 w.heap.size 2 _ _ (0, 0) hblk3
       have c3 : w3.cell? ⟨w.heap.size, 3, none⟩ = some (.int .i64 0) := cell_of_row w3 w.heap.size 3 _ _ (0, 0) hblk3
       have c4 : w3.cell? ⟨w.heap.size, 4, none⟩ = some (.int .i64 0) := cell_of_row w3 w.heap.size 4 _ _ (0, 0) hblk3
       have c5 : w3.cell? ⟨w.heap.size, 5, none⟩ = some (.string ⟨#[]⟩) := cell_of_row w3 w.heap.size 5 _ _ (0, 0) hblk3
       have c6 : w3.cell? ⟨w.heap.size, 6, none⟩ = some (.string ⟨#[]⟩) := cell_of_row w3 w.heap.size 6 _ _ (0, 0) hblk3
       have f0 := frozen_of_row w3 w.heap.size 0 _ _ hblk3
       have f1 := frozen_of_row w3 w.heap.size 1 _ _ hblk3
       have f2 := frozen_of_row w3 w.heap.size 2 _ _ hblk3
       have f3 := frozen_of_row w3 w.heap.size 3 _ _ hblk3
       have f4 := frozen_of_row w3 w.heap.size 4 _ _ hblk3
       have f5 := frozen_of_row w3 w.heap.size 5 _ _ hblk3
       have f6 := frozen_of_row w3 w.heap.size 6 _ _ hblk3
       go_wp2_with fail
       obtain ⟨z0, z1, z2, z3, z4, z5, z6⟩ := res_seven hblk3 (.int .i64 kind) (.int .i64 (pl zs a).1) (.int .i64 (pl zs a).2) (.int .i64 a) (.int .i64 too) (.string (encS sub)) (.string (str value))
       exact bodyPost_ret (v := .agg #[.int .i64 kind, .int .i64 (pl zs a).1, .int .i64 (pl zs a).2, .int .i64 a, .int .i64 too, .string (encS sub), .string (str value)]) (by simp [results, Tryz.results138, go_sem, z0, z1, z2, z3, z4, z5, z6]) rfl ⟨rfl, ((((((hB3.setCell (Nat.le_refl _) _).setCell (Nat.le_refl _) _).setCell (Nat.le_refl _) _).setCell (Nat.le_refl _) _).setCell (Nat.le_refl _) _).setCell (Nat.le_refl _) _).setCell (Nat.le_refl _) _⟩
     · refine (RefEncode_any _ (too - a) _ B sub _ hrs (Nat.le_trans hB hB2.size) HSL.out (by omega)).mono ?_
       rintro e w3 ⟨rfl, hb3⟩
       have hB3 := hB2.trans (hb3.mono hB2.size)
       have hblk3 := (hb3.block w.heap.size (Array.getElem?_eq_some_iff.1 hblk2).1).trans hblk2
       have p0 := (hb3.cell (p := ad.add (a * 2)) (World.block_lt_of_cell? _ _ p0)).trans p0
       have p1 := (hb3.cell (p := ⟨(ad.add (a * 2)).block, (ad.add (a * 2)).off + 1, none⟩) (World.block_lt_of_cell? _ _ p1)).trans p1
       have c0 : w3.cell? ⟨w.heap.size, 0, none⟩ = some (.int .i64 0) := cell_of_row w3 w.heap.size 0 _ _ (0, 0) hblk3
       have c1 : w3.cell? ⟨w.heap.size, 1, none⟩ = some (.int .i64 0) := cell_of_row w3 w.heap.size 1 _ _ (0, 0) hblk3
       have c2 : w3.cell? ⟨w.heap.size, 2, none⟩ = some (.int .i64 0) := cell_of_row w3 w.heap.size 2 _ _ (0, 0) hblk3
       have c3 : w3.cell? ⟨w.heap.size, 3, none⟩ = some (.int .i64 0) := cell_of_row w3 w.heap.size 3 _ _ (0, 0) hblk3
       have c4 : w3.cell? ⟨w.heap.size, 4, none⟩ = some (.int .i64 0) := cell_of_row w3 w.heap.size 4 _ _ (0, 0) hblk3
       have c5 : w3.cell? ⟨w.heap.size, 5, none⟩ = some (.string ⟨#[]⟩) := cell_of_row w3 w.heap.size 5 _ _ (0, 0) hblk3
       have c6 : w3.cell? ⟨w.heap.size, 6, none⟩ = some (.string ⟨#[]⟩) := cell_of_row w3 w.heap.size 6 _ _ (0, 0) hblk3
       have f0 := frozen_of_row w3 w.heap.size 0 _ _ hblk3
       have f1 := frozen_of_row w3 w.heap.size 1 _ _ hblk3
       have f2 := frozen_of_row w3 w.heap.size 2 _ _ hblk3
       have f3 := frozen_of_row w3 w.heap.size 3 _ _ hblk3
       have f4 := frozen_of_row w3 w.heap.size 4 _ _ hblk3
       have f5 := frozen_of_row w3 w.heap.size 5 _ _ hblk3
       have f6 := frozen_of_row w3 w.heap.size 6 _ _ hblk3
       go_wp2_with fail
       obtain ⟨z0, z1, z2, z3, z4, z5, z6⟩ := res_seven hblk3 (.int .i64 kind) (.int .i64 (pl zs a).1) (.int .i64 (pl zs a).2) (.int .i64 a) (.int .i64 too) (.string (encS sub)) (.string (str value))
       exact bodyPost_ret (v := .agg #[.int .i64 kind, .int .i64 (pl zs a).1, .int .i64 (pl zs a).2, .int .i64 a, .int .i64 too, .string (encS sub), .string (str value)]) (by simp [results, Tryz.results138, go_sem, z0, z1, z2, z3, z4, z5, z6]) rfl ⟨rfl, ((((((hB3.setCell (Nat.le_refl _) _).setCell (Nat.le_refl _) _).setCell (Nat.le_refl _) _).setCell (Nat.le_refl _) _).setCell (Nat.le_refl _) _).setCell (Nat.le_refl _) _).setCell (Nat.le_refl _) _⟩
   · rw [if_neg hok] at h; cases h
def toksF (zs s : List Int) (fB : Nat) : Nat → Nat → Option (List TokD)
 | 0, _ => none
 | f + 1, i => match tokenF zs s fB i with
  | none => none
  | some t => if t.kind = 0 ∨ t.kind = 1 then some [t] else if 3000000 < t.stop then none else (match toksF zs s fB f t.stop.toNat with
   | none => none
   | some l => some (t :: l))
def tokensF (src : List UInt8) : Option (List TokD) :=
 toksF (decF src).1 (lookF (decF src).1 (decide ((decF src).2 = src.length))) (src.length + 3) (src.length + 3) 0
theorem tok_info : (Tryz.prog.info? 148).map (fun i => (i.zero, i.size, i.bytes)) = some (some (.agg #[.int .i64 0, .int .i64 0, .int .i64 0, .int .i64 0, .int .i64 0, .string ⟨#[]⟩, .string ⟨#[]⟩]), 7, 72) := by kernel_rfl
theorem seven_cells {t : TokD} : ∀ u ∈ tokC t, u.oneCell' = true := fun u hu => by
 simp only [tokC, List.mem_cons, List.mem_nil_iff, or_false] at hu
 rcases hu with rfl | rfl | rfl | rfl | rfl | rfl | rfl <;> rfl
theorem reads_toks {w : World} {S : Nat → Prop} : ∀ (l : List TokD), ReadsL w S (toksL l) (l.flatMap tokC)
 | [] => ReadsL.nil
 | t :: l => by
  have h : ReadsL w S (tokL t) (tokC t) := ReadsL.cons (lit_reads rfl) (ReadsL.cons (lit_reads rfl) (ReadsL.cons (lit_reads rfl) (ReadsL.cons (lit_reads rfl) (ReadsL.cons (lit_reads rfl) (ReadsL.cons (lit_reads rfl) (ReadsL.cons (lit_reads rfl) ReadsL.nil))))))
  exact h.app (reads_toks l)
theorem look_last (zs : List Int) (b : Bool) : (lookF zs b).getLast? = some (-2) := by unfold lookF; simp
set_option maxHeartbeats 8000000 in
theorem Tokens_any (HB : BlockOk) (A : Option Addr) (n c B : Nat) (src : List UInt8) (w : World) (hr : Rd w B A (Lib.byteCells src)) (hB : B ≤ w.heap.size) (hn : src.length = n) (hnc : n ≤ c) (hcm : c ≤ maxLen) (h63 : n ≤ 2200000) (r : List TokD) (h : tokensF src = some r) :
  Calls Tryz.prog 95 #[.slice A n c] w fun e w' => ∃ v, e = .returned v ∧ Reads w' (fun b => w.heap.size ≤ b ∧ b < w'.heap.size) (.list r.length (toksL r)) v ∧ Below w.heap.size w w' := by
 obtain ⟨i0, hi0, hz0, hz1, hz2⟩ := info_parts tok_info
 unfold tokensF at h
 obtain ⟨zs, m, hd⟩ : ∃ zs m, decF src = (zs, m) := ⟨_, _, rfl⟩
 have hzs := decF_len src
 have hmle := decF_le src
 rw [hd] at h hzs hmle
 dsimp only at h hzs hmle
 obtain ⟨cl, hcl⟩ : ∃ b, decide (m = src.length) = b := ⟨_, rfl⟩
 rw [hcl] at h
 obtain ⟨s, hs⟩ : ∃ s, lookF zs cl = s := ⟨_, rfl⟩
 rw [hs] at h
 have hsl : s.length ≤ n + 2 := by rw [← hs]; unfold lookF; cases cl <;> simp <;> omega
 obtain ⟨k, hk⟩ : ∃ k, zs.length = k := ⟨_, rfl⟩
 have hkn : k ≤ n := by omega
 have HD := hide hd
 have HS := hide hs
 have HK := hide hk
 have HH := hide h
 have HLA : Hid (s.getLast? = some (-2)) := by show _ = _; rw [← hs]; exact look_last zs cl
 have hbool : ((m : Int) == (n : Int)) = cl := by
  rw [← hcl, hn]
  by_cases e : m = n
  · rw [decide_eq_true e]; simp [e]
  · rw [decide_eq_false e, beq_eq_false_iff_ne]; omega
 clear hd hs hk h hcl hzs
 go_enter Tryz.func95, Tryz.ntmps95
 go_wp2_with fail
 refine (one.RefDecode_any A n c B src _ hr hB hn hnc hcm (by omega)).mono ?_
 intro e w1 hp
 unfold DecPost at hp
 rw [HD.out] at hp
 obtain ⟨v1, rfl, hown1, hb1⟩ := hp
 dsimp only at hown1
 rw [HK.out] at hown1
 obtain ⟨A1, c1, rfl, hc11, hc12⟩ := own_slice hown1
 go_wp2_with fail
 refine (Look_any A1 k c1 w1.heap.size zs cl _ (Rd.of_own hown1) (Nat.le_refl _) HK.out (by omega)).mono ?_
 rintro e w2 ⟨v2, rfl, hown2, hb2⟩
 rw [HS.out] at hown2
 obtain ⟨A2, c2, rfl, hc21, hc22⟩ := own_slice hown2
 have hB2 := hb1.trans (hb2.mono hb1.size)
 have hown1 := own_below hown1 hb2
 go_wp2_with fail
 refine (RefPlaces_any A1 k c1 w2.heap.size zs _ (Rd.of_own hown1) (Nat.le_refl _) HK.out (by omega)).mono ?_
 rintro e w3 ⟨v3, rfl, hown3, hb3⟩
 obtain ⟨A3, c3, rfl, hc31, hc32⟩ := own_slice hown3
 have hB3 := hB2.trans (hb3.mono hB2.size)
 have hown2 := own_below hown2 hb3
 have rd2 := Rd.of_own hown2
 have rd3 := Rd.of_own hown3
 clear hown1 hown2 hown3 hb1 hb2 hb3 hB2
 go_wp2_with fail
 go_loopg [7, 8] (n + 3) (fun fu v iv wr => ∃ (i : Nat) (done : List TokD), fu ≤ n + 3 ∧ iv = .int .i64 i ∧ Hid (∃ l, toksF zs s (n + 3) fu i = some l ∧ r = done ++ l) ∧ Hid (done.length + fu ≤ n + 3) ∧ wr.ownsRow w3.heap.size 148 7 v done.length (done.flatMap tokC) ∧ Below w3.heap.size w3 wr)
 case atStart => exact ⟨0, [], Nat.le_refl _, rfl, ⟨r, by have h := HH.out; rw [hn] at h; exact h, rfl⟩, (by show 0 + _ ≤ _; omega), World.ownsRow_nil _ _ _ _, Below.refl _ _⟩
 case round =>
  obtain ⟨i, done, hfu, rfl, hto, hdl, hown, hb⟩ := hrel
  obtain ⟨Av, cv, rfl, _, hcv⟩ := own_slice hown
  obtain ⟨l, hl, hrl⟩ := hto.out
  cases gk with
  | zero => rw [toksF] at hl; cases hl
  | succ fu =>
   rw [toksF] at hl
   cases ht : tokenF zs s (n + 3) i with
   | none => rw [ht] at hl; cases hl
   | some t =>
    rw [ht] at hl
    dsimp only at hl
    have hcall := token_any HB A2 A3 s.length c2 (k + 1) c3 w3.heap.size zs s wr (rd2.below' hb (Nat.le_refl _)) hb.size rfl hc21 hc22 (by omega) HLA.out (rd3.below' hb (Nat.le_refl _)) (by rw [HK.out]) (n + 3) i t ht
    have hdl' : done.length + (fu + 1) ≤ n + 3 := hdl.out
    have HL := hide hl
    have HRL := hide hrl
    have HTO := hide (token_stop ht)
    obtain ⟨kind, line, col, start, stop, text, value⟩ := t
    clear ht hl hrl hto
    go_wp2_with fail
    refine hcall.mono ?_
    rintro e w4 ⟨rfl, hb4⟩
    clear hcall
    have hown4 := own_below hown hb4
    have hB4 := hb.trans (hb4.mono hb.size)
    have hbs4 := hB4.size
    go_upto_region 7 with (fail)
    have hblk5 : TokAt (w4.alloc (.cells #[.int .i64 kind, .int .i64 line, .int .i64 col, .int .i64 start, .int .i64 stop, .string (str text), .string (str value)] 148)) w4.heap.size ⟨kind, line, col, start, stop, text, value⟩ := heap_alloc_new w4 _
    have hown5 := hown4.alloc (.cells #[.int .i64 kind, .int .i64 line, .int .i64 col, .int .i64 start, .int .i64 stop, .string (str text), .string (str value)] 148)
    have hB5 := hB4.alloc hbs4 (.cells #[.int .i64 kind, .int .i64 line, .int .i64 col, .int .i64 start, .int .i64 stop, .string (str text), .string (str value)] 148)
    have hz5 : (w4.alloc (.cells #[.int .i64 kind, .int .i64 line, .int .i64 col, .int .i64 start, .int .i64 stop, .string (str text), .string (str value)] 148)).heap.size = w4.heap.size + 1 := by simp
    obtain ⟨g5, hg5⟩ : ∃ g, w4.heap.size = g := ⟨_, rfl⟩
    have hlt5 : ∀ g, (Value.slice Av done.length cv).ownBlock = some g → g < g5 := fun g h => by rw [← hg5]; exact (hown4.lt g h).2
    generalize w4.alloc (.cells #[.int .i64 kind, .int .i64 line, .int .i64 col, .int .i64 start, .int .i64 stop, .string (str text), .string (str value)] 148) = w5 at hblk5 hown5 hB5 hz5 ⊢
    rw [hg5] at hblk5 hbs4 hz5 ⊢
    have x0 := hblk5.cell 0
    have x1 := hblk5.cell 1
    have x2 := hblk5.cell 2
    have x3 := hblk5.cell 3
    have x4 := hblk5.cell 4
    have x5 := hblk5.cell 5
    have x6 := hblk5.cell 6
    have hrd5 : Rd (w5.alloc (.cells #[.int .i64 kind, .int .i64 line, .int .i64 col, .int .i64 start, .int .i64 stop, .string (str text), .string (str value)] 148)) (g5 + 2) (some ⟨g5 + 1, 0, none⟩) (tokC ⟨kind, line, col, start, stop, text, value⟩) := by
     have h := rd_new (B := w5.heap.size + 1) w5 (tokC ⟨kind, line, col, start, stop, text, value⟩) 148 (Nat.lt_succ_self _)
     rw [hz5] at h
     exact h
    clear hown hown4 hb4 hb hB4
    go_wp2_with (at_builtin; refine wpList_append_rd _ rfl _ _ 137 rfl w3.heap.size 148 i0 (.agg #[.int .i64 0, .int .i64 0, .int .i64 0, .int .i64 0, .int .i64 0, .string ⟨#[]⟩, .string ⟨#[]⟩]) 7 72 Tryz.underlying137 hi0 hz0 hz1 hz2 rfl (by decide) _ _ _ rfl (hown5.alloc _) _ _ 1 1 (tokC ⟨kind, line, col, start, stop, text, value⟩) rfl (by rfl) hrd5 seven_cells (by simp only [maxLen]; omega) (by omega) (by simp; omega) ?_)
    intro v6 w6 hown6 hg6 hat6
    have hb6 := below_append (hB5.alloc (by omega) _) (hown5.alloc _) (Nat.le_refl _) hg6 (by simp; omega)
    have hblk6 : TokAt w6 g5 ⟨kind, line, col, start, stop, text, value⟩ := by
     show w6.heap[g5]? = _
     rw [hg6.block g5 (by simp; omega) (fun e => by have := hlt5 g5 e.symm; omega), Below.heap_alloc _ _ _ (by omega)]
     exact hblk5
    have y0 : w6.cell? ⟨g5, 0, none⟩ = some (.int .i64 kind) := hblk6.cell 0
    have y4 : w6.cell? ⟨g5, 4, none⟩ = some (.int .i64 stop) := hblk6.cell 4
    have hown7 : w6.ownsRow w3.heap.size 148 7 v6 (done ++ [(⟨kind, line, col, start, stop, text, value⟩ : TokD)]).length ((done ++ [(⟨kind, line, col, start, stop, text, value⟩ : TokD)]).flatMap tokC) := by
     rw [List.length_append, List.flatMap_append]
     simpa using hown6
    have hl := HL.out
    clear x0 x1 x2 x3 x4 x5 x6 hown6 hown5
    by_cases k0 : kind = 0
    · rw [if_pos (.inl k0)] at hl
      injection hl with hl
      subst k0
      have hr1 : r = done ++ [⟨0, line, col, start, stop, text, value⟩] := by rw [HRL.out, ← hl]
      have HR1 := hide hr1
      clear hl hr1
      go_wp2_with fail
      go_ret
      rw [HR1.out]
      obtain ⟨A7, c7, rfl, h71, h72⟩ := own_slice hown7
      have hB6 := hB3.trans (hb6.mono hB3.size)
      exact ⟨_, rfl, own_reads hown7 (reads_toks _) (fun b hb => ⟨Nat.le_trans hB3.size (hown7.lt b hb).1, (hown7.lt b hb).2⟩), hB6⟩
    · have b0 : ((kind : Int) == 0) = false := by rw [beq_eq_false_iff_ne]; exact k0
      by_cases k1 : kind = 1
      · rw [if_pos (.inr k1)] at hl
        injection hl with hl
        subst k1
        have hr1 : r = done ++ [⟨1, line, col, start, stop, text, value⟩] := by rw [HRL.out, ← hl]
        have HR1 := hide hr1
        clear hl hr1
        go_wp2_with fail
        go_ret
        rw [HR1.out]
        obtain ⟨A7, c7, rfl, h71, h72⟩ := own_slice hown7
        have hB6 := hB3.trans (hb6.mono hB3.size)
        exact ⟨_, rfl, own_reads hown7 (reads_toks _) (fun b hb => ⟨Nat.le_trans hB3.size (hown7.lt b hb).1, (hown7.lt b hb).2⟩), hB6⟩
      · have b1 : ((kind : Int) == 1) = false := by rw [beq_eq_false_iff_ne]; exact k1
        rw [if_neg (by rintro (h | h); exact k0 h; exact k1 h)] at hl
        by_cases hbig : 3000000 < stop
        · rw [if_pos hbig] at hl; cases hl
        rw [if_neg hbig] at hl
        obtain ⟨too, hto⟩ := HTO.out
        subst hto
        rw [Int.toNat_natCast] at hl
        cases hrest : toksF zs s (n + 3) fu too with
        | none => rw [hrest] at hl; cases hl
        | some l2 =>
         rw [hrest] at hl
         injection hl with hl
         have hnx : Hid (∃ l, toksF zs s (n + 3) fu too = some l ∧ r = (done ++ [(⟨kind, line, col, start, too, text, value⟩ : TokD)]) ++ l) := ⟨l2, hrest, by rw [HRL.out, ← hl]; simp⟩
         have hdn : Hid ((done ++ [(⟨kind, line, col, start, too, text, value⟩ : TokD)]).length + fu ≤ n + 3) := by show _ ≤ _; rw [List.length_append, List.length_singleton]; omega
         clear hl hrest k0 k1
         go_wp2_with fail
         go_roundg fu
         case rel => exact ⟨too, done ++ [⟨kind, line, col, start, too, text, value⟩], by omega, rfl, hnx, hdn, hown7, hb6⟩
         case measure => omega
end Go.Proofs.YtbpgkkoeehopjaaGreat.lex
namespace Go.Proofs.YtbpgkkoeehopjaaGreat.rd
open Go.RowKit Go.Proofs.YtbpgkkoeehopjaaGreat.words Go.Proofs.YtbpgkkoeehopjaaGreat.enc Go.Proofs.YtbpgkkoeehopjaaGreat.tree Go.Proofs.YtbpgkkoeehopjaaGreat.gram Go.Proofs.YtbpgkkoeehopjaaGreat.lex
set_option maxRecDepth 100000
theorem grown_cell (w : World) (g i : Nat) (u : Value) : w.grownBy (w.setCell ⟨g, i, none⟩ u) (some g) := grown_setCell w ⟨g, i, none⟩ u
def isF (t : TokD) (x : Txt) : Bool := decide (t.text = x) && (t.kind != 6) && (t.kind != 7)
theorem is_cases (kind : Int) (text x : Txt) (P : Bool → Prop) (h1 : ((str text).toList == (str x).toList) = false → P false) (h2 : ((str text).toList == (str x).toList) = true → ((kind : Int) != 6) = false → P false)
  (h3 : ((str text).toList == (str x).toList) = true → ((kind : Int) != 6) = true → ((kind : Int) != 7) = false → P false) (h4 : ((str text).toList == (str x).toList) = true → ((kind : Int) != 6) = true → ((kind : Int) != 7) = true → P true) :
  P (decide (text = x) && (kind != 6) && (kind != 7)) := by
 rw [str_eq] at h1 h2 h3 h4
 cases a : decide (text = x) with
 | false => rw [Bool.false_and, Bool.false_and]; exact h1 a
 | true =>
  cases b : (kind != 6) with
  | false => rw [Bool.true_and, Bool.false_and]; exact h2 a b
  | true =>
   cases c : (kind != 7) with
   | false => exact h3 a b c
   | true => exact h4 a b c
def nextK (n k : Nat) : Nat := if k + 1 < n then k + 1 else k
theorem grown_of {w w' : World} (hb : Below w.heap.size w w') (row : Option Nat) : w.grownBy w' row := ⟨hb.os, hb.tape, hb.output, hb.size, fun i hi _ => hb.block i hi⟩
def setL (w : World) (g : Nat) : Nat → List Value → World
 | _, [] => w
 | i, u :: us => setL (w.setCell ⟨g, i, none⟩ u) g (i + 1) us
theorem setL_grown {g : Nat} : ∀ {us : List Value} {w : World} {i : Nat}, w.grownBy (setL w g i us) (some g)
 | [], w, i => grown_of (Below.refl _ _) _
 | u :: us, w, i => (grown_cell w g i u).trans (setL_grown (us := us))
theorem setL_at {g : Nat} {t : TypeId} : ∀ {us : List Value} {w : World} {i : Nat} {pre old post : List Value}, w.heap[g]? = some (.cells (pre ++ old ++ post).toArray t (0, 0)) → pre.length = i → old.length = us.length →
  (setL w g i us).heap[g]? = some (.cells (pre ++ us ++ post).toArray t (0, 0))
 | [], w, i, pre, old, post, h, hp, ho => by
  obtain rfl : old = [] := List.eq_nil_of_length_eq_zero ho
  exact h
 | u :: us, w, i, pre, old, post, h, hp, ho => by
  cases old with
  | nil => simp at ho
  | cons o old =>
   have h2 := heap_setCell_same w g i _ _ u h
   have e : ((pre ++ (o :: old) ++ post).toArray.setIfInBounds i u) = ((pre ++ [u]) ++ old ++ post).toArray := by
    subst hp
    simp
   rw [e] at h2
   have h3 := setL_at (us := us) (i := i + 1) (pre := pre ++ [u]) (old := old) (post := post) h2 (by simp [hp]) (by simpa using ho)
   rw [setL]
   simpa using h3
structure NamedD where
 name : Txt
 line : Int
 col : Int
def namedC (d : NamedD) : List Value := [.string (str d.name), .int .i64 d.line, .int .i64 d.col]
abbrev namedV (d : NamedD) : Value := .agg #[.string (str d.name), .int .i64 d.line, .int .i64 d.col]
def namedOf (t : TokD) : NamedD := ⟨t.text, t.line, t.col⟩
def kindsT : Txt := [115, 99, 104, 101, 109, 97, 32, 115, 99, 97, 108, 97, 114, 32, 116, 121, 112, 101, 32, 105, 110, 116, 101, 114, 102, 97, 99, 101, 32, 117, 110, 105, 111, 110, 32, 101, 110, 117, 109, 32, 105, 110, 112, 117, 116, 32, 100, 105, 114, 101, 99, 116, 105, 118, 101]
def kindAt (word : Txt) : List Txt → Nat → Nat
 | [], _ => 0
 | x :: r, i => if x = word then i + 1 else kindAt word r (i + 1)
def kindF (word : Txt) : Nat := kindAt word (wordsF kindsT) 0
theorem named_info : (Tryz.prog.info? 34).map (fun i => (i.zero, i.size, i.bytes)) = some (some (.slice none 0 0), 1, 24) := by kernel_rfl
def itemsF (toks : List TokD) (mark : Txt) : Nat → Nat → Option (List NamedD × Nat)
 | 0, _ => none
 | f + 1, k => match toks[k]? with
  | none => none
  | some t => match toks[nextK toks.length k]? with
   | none => none
   | some t1 => if isF t1 mark = true then (match itemsF toks mark f (nextK toks.length k + 1) with
    | none => none
    | some r => some (namedOf t :: r.1, r.2)) else some ([namedOf t], nextK toks.length k)
def listedF (toks : List TokD) (mark : Txt) (f k : Nat) : Option (List NamedD × Nat) := match toks[k]? with
 | none => none
 | some t => itemsF toks mark f (if isF t mark = true then k + 1 else k)
theorem str_push (l : Txt) (b : UInt8) : str l ++ ⟨#[b]⟩ = str (l ++ [b]) := by
 apply ByteArray.ext
 simp [str]
def bangF (toks : List TokD) (r : Txt × Txt) (k : Nat) : Option ((Txt × Txt) × Nat) := if r.2.length ≤ 2000 then (match toks[k]? with
 | none => none
 | some t => if isF t [33] = true then some ((r.1, r.2 ++ [33]), k + 1) else some (r, k)) else none
def typF (toks : List TokD) : Nat → Nat → Option ((Txt × Txt) × Nat)
 | 0, _ => none
 | f + 1, k => match toks[k]? with
  | none => none
  | some t => if isF t [91] = true then (match typF toks f (k + 1) with
   | none => none
   | some r => match toks[r.2]? with
    | none => none
    | some t1 => if r.1.2.length ≤ 1000 then bangF toks (r.1.1, r.1.2 ++ [93]) (if isF t1 [93] = true then r.2 + 1 else r.2) else none) else bangF toks (t.text, []) (nextK toks.length k)
abbrev typV (r : Txt × Txt) : Value := .agg #[.string (str r.1), .string (str r.2)]
end Go.Proofs.YtbpgkkoeehopjaaGreat.rd
namespace Go.Proofs.YtbpgkkoeehopjaaGreat.dat
open Go.RowKit Go.Proofs.YtbpgkkoeehopjaaGreat.words Go.Proofs.YtbpgkkoeehopjaaGreat.tree Go.Proofs.YtbpgkkoeehopjaaGreat.gram Go.Proofs.YtbpgkkoeehopjaaGreat.rd
mutual
inductive LitD where
 | mk (kind : Int) (text : Txt) (block : Bool) (items : List LitD) (fields : List PairD) (line col : Int)
inductive PairD where
 | mk (name : Txt) (value : LitD) (line col : Int)
end
abbrev str' (l : Txt) : Leaf := .lit (.string (str l))
abbrev int' (i : Int) : Leaf := .lit (.int .i64 i)
abbrev bool' (b : Bool) : Leaf := .lit (.bool b)
mutual
def litL : LitD → List Leaf
 | .mk kind text block items fields line col => [int' kind, str' text, bool' block, .list items.length (litsL items), .list fields.length (pairsL fields), int' line, int' col]
def litsL : List LitD → List Leaf
 | [] => []
 | d :: r => litL d ++ litsL r
def pairL : PairD → List Leaf
 | .mk name value line col => str' name :: (litL value ++ [int' line, int' col])
def pairsL : List PairD → List Leaf
 | [] => []
 | d :: r => pairL d ++ pairsL r
end
theorem litL_len (d : LitD) : (litL d).length = 7 := by cases d; rfl
theorem pairL_len (d : PairD) : (pairL d).length = 10 := by cases d; simp [pairL, litL_len]
theorem litsL_eq : ∀ l, litsL l = l.flatMap litL
 | [] => rfl
 | d :: r => by rw [litsL, litsL_eq r, List.flatMap_cons]
theorem pairsL_eq : ∀ l, pairsL l = l.flatMap pairL
 | [] => rfl
 | d :: r => by rw [pairsL, pairsL_eq r, List.flatMap_cons]
theorem litsL_app (a b : List LitD) : litsL (a ++ b) = litsL a ++ litsL b := by rw [litsL_eq, litsL_eq, litsL_eq, List.flatMap_append]
theorem pairsL_app (a b : List PairD) : pairsL (a ++ b) = pairsL a ++ pairsL b := by rw [pairsL_eq, pairsL_eq, pairsL_eq, List.flatMap_append]
def litZ : LitD := .mk 0 [] false [] [] 0 0
structure NoteD where
 has : Bool
 block : Bool
 text : Txt
abbrev noteZ : NoteD := ⟨false, false, []⟩
def noteL (d : NoteD) : List Leaf := [bool' d.has, bool' d.block, str' d.text]
def namedL (d : NamedD) : List Leaf := [str' d.name, int' d.line, int' d.col]
structure RootD where
 op : Int
 type : Txt
 line : Int
 col : Int
def rootL (d : RootD) : List Leaf := [int' d.op, str' d.type, int' d.line, int' d.col]
structure DirD where
 name : Txt
 args : List PairD
 line : Int
 col : Int
def dirL (d : DirD) : List Leaf := [str' d.name, .list d.args.length (pairsL d.args), int' d.line, int' d.col]
def dirsL (l : List DirD) : List Leaf := l.flatMap dirL
structure InputD where
 note : NoteD
 name : Txt
 ty : Txt × Txt
 has : Bool
 lit : LitD
 dirs : List DirD
 line : Int
 col : Int
def inputL (d : InputD) : List Leaf := noteL d.note ++ ([str' d.name, str' d.ty.1, str' d.ty.2, bool' d.has] ++ (litL d.lit ++ [.list d.dirs.length (dirsL d.dirs), int' d.line, int' d.col]))
def inputsL (l : List InputD) : List Leaf := l.flatMap inputL
theorem inputL_len (d : InputD) : (inputL d).length = 17 := by simp [inputL, noteL, litL_len]
structure FieldD where
 note : NoteD
 name : Txt
 args : List InputD
 ty : Txt × Txt
 dirs : List DirD
 line : Int
 col : Int
def fieldL (d : FieldD) : List Leaf := noteL d.note ++ [str' d.name, .list d.args.length (inputsL d.args), str' d.ty.1, str' d.ty.2, .list d.dirs.length (dirsL d.dirs), int' d.line, int' d.col]
def fieldsL (l : List FieldD) : List Leaf := l.flatMap fieldL
structure ValueD where
 note : NoteD
 name : Txt
 dirs : List DirD
 line : Int
 col : Int
def valueL (d : ValueD) : List Leaf := noteL d.note ++ [str' d.name, .list d.dirs.length (dirsL d.dirs), int' d.line, int' d.col]
def valuesL (l : List ValueD) : List Leaf := l.flatMap valueL
def namedsL (l : List NamedD) : List Leaf := l.flatMap namedL
def rootsL (l : List RootD) : List Leaf := l.flatMap rootL
structure DefD where
 kind : Int
 ext : Bool
 note : NoteD
 name : Txt
 ifaces : List NamedD
 dirs : List DirD
 fields : List FieldD
 inputs : List InputD
 members : List NamedD
 values : List ValueD
 roots : List RootD
 rep : Bool
 places : List NamedD
 line : Int
 col : Int
def defL (d : DefD) : List Leaf := [int' d.kind, bool' d.ext, bool' d.note.has, bool' d.note.block, str' d.note.text, str' d.name, .list d.ifaces.length (namedsL d.ifaces), .list d.dirs.length (dirsL d.dirs), .list d.fields.length (fieldsL d.fields), .list d.inputs.length (inputsL d.inputs),
 .list d.members.length (namedsL d.members), .list d.values.length (valuesL d.values), .list d.roots.length (rootsL d.roots), bool' d.rep, .list d.places.length (namedsL d.places), int' d.line, int' d.col]
def defsL (l : List DefD) : List Leaf := l.flatMap defL
theorem defL_len (d : DefD) : (defL d).length = 17 := rfl
def In (a b : Nat) : Nat → Prop := fun x => a ≤ x ∧ x < b
structure Dat (w : World) (a T : Nat) (t : Leaf) (v : Value) : Prop where
 reads : Reads w (In a T) t v
 le : T ≤ w.heap.size
structure DatL (w : World) (a T : Nat) (ts : List Leaf) (vs : List Value) : Prop where
 reads : ReadsL w (In a T) ts vs
 le : T ≤ w.heap.size
section
variable {w w' : World} {a T : Nat} {t : Leaf} {v : Value} {ts : List Leaf} {vs : List Value}
theorem Dat.other {row : Option Nat} (h : Dat w a T t v) (hg : w.grownBy w' row) (hrow : ∀ b, row = some b → b < a ∨ T ≤ b) : Dat w' a T t v :=
 ⟨h.reads.keep (fun _ h => h) (fun p hp => World.cell?_of_block (hg.block p.block (Nat.lt_of_lt_of_le hp.2 h.le) (fun e => by have := hrow _ e.symm; have := hp.1; have := hp.2; omega))), Nat.le_trans h.le hg.size⟩
theorem DatL.other {row : Option Nat} (h : DatL w a T ts vs) (hg : w.grownBy w' row) (hrow : ∀ b, row = some b → b < a ∨ T ≤ b) : DatL w' a T ts vs :=
 ⟨ReadsL.keep (fun _ h => h) (fun p hp => World.cell?_of_block (hg.block p.block (Nat.lt_of_lt_of_le hp.2 h.le) (fun e => by have := hrow _ e.symm; have := hp.1; have := hp.2; omega))) _ _ h.reads, Nat.le_trans h.le hg.size⟩
theorem Dat.below (h : Dat w a T t v) (hb : Below w.heap.size w w') : Dat w' a T t v := h.other (grown_of hb none) (fun b e => by cases e)
theorem DatL.below (h : DatL w a T ts vs) (hb : Below w.heap.size w w') : DatL w' a T ts vs := h.other (grown_of hb none) (fun b e => by cases e)
theorem Dat.lift {a' T' : Nat} (h : Dat w a T t v) (ha : a' ≤ a) (hT : T ≤ T') (hw : T' ≤ w.heap.size) : Dat w a' T' t v :=
 ⟨h.reads.keep (fun b hb => ⟨Nat.le_trans ha hb.1, Nat.lt_of_lt_of_le hb.2 hT⟩) (fun _ _ => rfl), hw⟩
theorem DatL.lift {a' T' : Nat} (h : DatL w a T ts vs) (ha : a' ≤ a) (hT : T ≤ T') (hw : T' ≤ w.heap.size) : DatL w a' T' ts vs :=
 ⟨ReadsL.keep (fun b hb => ⟨Nat.le_trans ha hb.1, Nat.lt_of_lt_of_le hb.2 hT⟩) (fun _ _ => rfl) _ _ h.reads, hw⟩
theorem DatL.nil (h : T ≤ w.heap.size) : DatL w a T [] [] := ⟨ReadsL.nil, h⟩
theorem DatL.cons (h : Dat w a T t v) (h' : DatL w a T ts vs) : DatL w a T (t :: ts) (v :: vs) := ⟨ReadsL.cons h.reads h'.reads, h.le⟩
theorem DatL.lit {u : Value} (h' : DatL w a T ts vs) (h : u.oneCell' = true := by rfl) : DatL w a T (.lit u :: ts) (u :: vs) := ⟨ReadsL.cons (lit_reads h) h'.reads, h'.le⟩
theorem DatL.app {ts' : List Leaf} {vs' : List Value} (h : DatL w a T ts vs) (h' : DatL w a T ts' vs') : DatL w a T (ts ++ ts') (vs ++ vs') := ⟨h.reads.app h'.reads, h.le⟩
theorem DatL.one (h : DatL w a T ts vs) : ∀ u ∈ vs, u.oneCell' = true := h.reads.one
theorem DatL.len (h : DatL w a T ts vs) : vs.length = ts.length := h.reads.len
theorem DatL.nil_inv (h : DatL w a T [] vs) : vs = [] := by have := h.reads; simp only [ReadsL] at this; exact this
theorem DatL.cons_inv (h : DatL w a T (t :: ts) vs) : ∃ v r, vs = v :: r ∧ Dat w a T t v ∧ DatL w a T ts r := by
 have := h.reads
 simp only [ReadsL] at this
 obtain ⟨v, r, e, h1, h2⟩ := this
 exact ⟨v, r, e, ⟨h1, h.le⟩, ⟨h2, h.le⟩⟩
theorem DatL.lit_inv {u : Value} (h : DatL w a T (.lit u :: ts) vs) : ∃ r, vs = u :: r ∧ DatL w a T ts r := by
 obtain ⟨v, r, e, h1, h2⟩ := h.cons_inv
 have := reads_lit h1.reads
 subst this
 exact ⟨r, e, h2⟩
theorem DatL.list_inv {n : Nat} {cs : List Leaf} (h : DatL w a T (.list n cs :: ts) vs) : ∃ A c r, vs = .slice A n c :: r ∧ Dat w a T (.list n cs) (.slice A n c) ∧ DatL w a T ts r := by
 obtain ⟨v, r, e, h1, h2⟩ := h.cons_inv
 obtain ⟨A, c, vs', rfl, _⟩ := reads_list h1.reads
 exact ⟨A, c, r, e, h1, h2⟩
theorem Dat.nil (h : T ≤ w.heap.size) : Dat w a T (.list 0 []) (.slice none 0 0) := ⟨list_reads (Nat.le_refl _) (Nat.zero_le _) ReadsL.nil (fun h => absurd rfl h), h⟩
theorem lit_cells {kind : Int} {text : Txt} {block : Bool} {items : List LitD} {fields : List PairD} {line col : Int} (h : DatL w a T (litL (.mk kind text block items fields line col)) vs) :
  ∃ Ai ci Af cf, vs = [.int .i64 kind, .string (str text), .bool block, .slice Ai items.length ci, .slice Af fields.length cf, .int .i64 line, .int .i64 col] ∧ Dat w a T (.list items.length (litsL items)) (.slice Ai items.length ci) ∧ Dat w a T (.list fields.length (pairsL fields)) (.slice Af fields.length cf) := by
 obtain ⟨r1, rfl, h1⟩ := h.lit_inv
 obtain ⟨r2, rfl, h2⟩ := h1.lit_inv
 obtain ⟨r3, rfl, h3⟩ := h2.lit_inv
 obtain ⟨Ai, ci, r4, rfl, hi, h4⟩ := h3.list_inv
 obtain ⟨Af, cf, r5, rfl, hf, h5⟩ := h4.list_inv
 obtain ⟨r6, rfl, h6⟩ := h5.lit_inv
 obtain ⟨r7, rfl, h7⟩ := h6.lit_inv
 rw [h7.nil_inv]
 exact ⟨Ai, ci, Af, cf, rfl, hi, hf⟩
theorem cells_lit {kind : Int} {text : Txt} {block : Bool} {items : List LitD} {fields : List PairD} {line col : Int} {vi vf : Value} (hi : Dat w a T (.list items.length (litsL items)) vi) (hf : Dat w a T (.list fields.length (pairsL fields)) vf) :
  DatL w a T (litL (.mk kind text block items fields line col)) [.int .i64 kind, .string (str text), .bool block, vi, vf, .int .i64 line, .int .i64 col] :=
 .lit (.lit (.lit (.cons hi (.cons hf (.lit (.lit (.nil hi.le)))))))
end
open Go.Proofs.YtbpgkkoeehopjaaGreat.enc Go.Proofs.YtbpgkkoeehopjaaGreat.lex Go.Proofs.YtbpgkkoeehopjaaGreat.dec
set_option maxRecDepth 100000
theorem not_in {a b T : Nat} (h : b < a ∨ T ≤ b) : ¬ In a T b := fun hb => by have := hb.1; have := hb.2; omega
theorem _root_.Go.Proofs.YtbpgkkoeehopjaaGreat.tree.RowT.dat {w : World} {B b0 k n : Nat} {e : TypeId} {v : Value} {cs : List Leaf} {vs : List Value} (h : RowT w (In B w.heap.size) b0 e k v n cs vs) (hB : B ≤ b0) : Dat w B w.heap.size (.list n cs) v := by
 refine ⟨own_reads h.own (ReadsL.keep (fun b hb => hb.1) (fun _ _ => rfl) _ _ h.reads) (fun g hg => ⟨?_, ?_⟩), Nat.le_refl _⟩
 · have := (h.own.lt g hg).1; omega
 · exact (h.own.lt g hg).2
def noteF (toks : List TokD) (k : Nat) : Option (NoteD × Nat) := toks[k]?.map fun t => if t.kind = 6 ∨ t.kind = 7 then (⟨true, t.kind == 7, t.value⟩, k + 1) else (noteZ, k)
abbrev noteV (d : NoteD) : Value := .agg #[.bool d.has, .bool d.block, .string (str d.text)]
def wordF (t : TokD) : Int × Txt :=
 if t.text = [116, 114, 117, 101] then (5, t.text)
 else if t.text = [102, 97, 108, 115, 101] then (5, t.text)
 else if t.text = [110, 117, 108, 108] then (6, [])
 else (7, t.text)
def litsGo (toks : List TokD) (g : Nat → Option (LitD × Nat)) : Nat → Nat → Option (List LitD × Nat)
 | 0, _ => none
 | f + 1, k => toks[k]?.bind fun t => if isF t [93] = true then some ([], k + 1) else (g k).bind fun q => (litsGo toks g f q.2).bind fun r => some (q.1 :: r.1, r.2)
def pairsGo (toks : List TokD) (cl : Txt) (g : Nat → Option (LitD × Nat)) : Nat → Nat → Option (List PairD × Nat)
 | 0, _ => none
 | f + 1, k => toks[k]?.bind fun t => if isF t cl = true then some ([], k + 1) else (toks[nextK toks.length k]?).bind fun t1 => (g (if isF t1 [58] = true then nextK toks.length k + 1 else nextK toks.length k)).bind fun q => (pairsGo toks cl g f q.2).bind fun r => some (.mk t.text q.1 t.line t.col :: r.1, r.2)
def litF (toks : List TokD) (L : Nat) : Nat → Nat → Option (LitD × Nat)
 | 0, _ => none
 | f + 1, k => toks[k]?.bind fun t =>
  if t.kind = 3 then some (.mk (wordF t).1 (wordF t).2 false [] [] t.line t.col, nextK toks.length k)
  else if t.kind = 4 then some (.mk 2 t.text false [] [] t.line t.col, nextK toks.length k)
  else if t.kind = 5 then some (.mk 3 t.text false [] [] t.line t.col, nextK toks.length k)
  else if t.kind = 6 ∨ t.kind = 7 then some (.mk 4 t.value (t.kind == 7) [] [] t.line t.col, nextK toks.length k)
  else if t.text = [91] then (litsGo toks (litF toks L f) L (nextK toks.length k)).bind fun r => some (.mk 8 [] false r.1 [] t.line t.col, r.2)
  else (pairsGo toks [125] (litF toks L f) L (nextK toks.length k)).bind fun r => some (.mk 9 [] false [] r.1 t.line t.col, r.2)
theorem dir_info : (Tryz.prog.info? 181).map (fun i => (i.zero, i.size, i.bytes)) = some (some (.agg #[.string ⟨#[]⟩, .slice none 0 0, .int .i64 0, .int .i64 0]), 4, 56) := by kernel_rfl
def argsF (toks : List TokD) (L f k : Nat) : Option (List PairD × Nat) := toks[k]?.bind fun t => if isF t [40] = true then pairsGo toks [41] (litF toks L f) L (k + 1) else some ([], k)
def dirsGo (toks : List TokD) (L f : Nat) : Nat → Nat → Option (List DirD × Nat)
 | 0, _ => none
 | fu + 1, k => toks[k]?.bind fun t => if isF t [64] = true then
   (toks[nextK toks.length k]?).bind fun t1 => (argsF toks L f (nextK toks.length (nextK toks.length k))).bind fun q => (dirsGo toks L f fu q.2).bind fun r => some (⟨t1.text, q.1, t.line, t.col⟩ :: r.1, r.2)
  else some ([], k)
def dirsF (toks : List TokD) (L f k : Nat) : Option (List DirD × Nat) := dirsGo toks L f L k
theorem dirsL_app (a b : List DirD) : dirsL (a ++ b) = dirsL a ++ dirsL b := by simp [dirsL]
theorem input_info : (Tryz.prog.info? 123).map (fun i => (i.zero, i.size, i.bytes)) = some (some (.agg #[.bool false, .bool false, .string ⟨#[]⟩, .string ⟨#[]⟩, .string ⟨#[]⟩, .string ⟨#[]⟩, .bool false, .int .i64 0, .string ⟨#[]⟩, .bool false, .slice none 0 0, .slice none 0 0, .int .i64 0, .int .i64 0, .slice none 0 0, .int .i64 0, .int .i64 0]), 17, 216) := by kernel_rfl
def inputF (toks : List TokD) (L f k : Nat) : Option (InputD × Nat) :=
 (noteF toks k).bind fun p => (toks[p.2]?).bind fun t0 => (toks[nextK toks.length p.2]?).bind fun t1 =>
 (typF toks f (if isF t1 [58] = true then nextK toks.length p.2 + 1 else nextK toks.length p.2)).bind fun r => (toks[r.2]?).bind fun t3 =>
 (if isF t3 [61] = true then litF toks L f (r.2 + 1) else some (litZ, r.2)).bind fun q => (dirsF toks L f q.2).bind fun s =>
 some (⟨p.1, t0.text, r.1, isF t3 [61], q.1, s.1, t0.line, t0.col⟩, s.2)
def inputsGo (toks : List TokD) (too : Txt) (L f : Nat) : Nat → Nat → Option (List InputD × Nat)
 | 0, _ => none
 | fu + 1, k => toks[k]?.bind fun t => if isF t too = true then some ([], k + 1) else (inputF toks L f k).bind fun q => (inputsGo toks too L f fu q.2).bind fun r => some (q.1 :: r.1, r.2)
def inputsF (toks : List TokD) (fr too : Txt) (L f k : Nat) : Option (List InputD × Nat) := toks[k]?.bind fun t => if isF t fr = true then inputsGo toks too L f L (k + 1) else some ([], k)
theorem inputsL_app (a b : List InputD) : inputsL (a ++ b) = inputsL a ++ inputsL b := by simp [inputsL]
theorem input_parts {toks : List TokD} {L f k : Nat} {d : InputD} {k' : Nat} (h : inputF toks L f k = some (d, k')) : ∃ p t0 t1 ty k3 t3 q, noteF toks k = some p ∧ toks[p.2]? = some t0 ∧ toks[nextK toks.length p.2]? = some t1 ∧
  typF toks f (if isF t1 [58] = true then nextK toks.length p.2 + 1 else nextK toks.length p.2) = some (ty, k3) ∧ toks[k3]? = some t3 ∧
  (if isF t3 [61] = true then litF toks L f (k3 + 1) else some (litZ, k3)) = some q ∧ dirsF toks L f q.2 = some (d.dirs, k') ∧
  d = ⟨p.1, t0.text, ty, isF t3 [61], q.1, d.dirs, t0.line, t0.col⟩ := by
 unfold inputF at h
 simp only [Option.bind_eq_some_iff] at h
 obtain ⟨p, hp, t0, h0, t1, h1, r, hr, t3, h3, q, hq, s, hs, h6⟩ := h
 injection h6 with h6
 injection h6 with e1 e2
 subst e1 e2
 exact ⟨p, t0, t1, r.1, r.2, t3, q, hp, h0, h1, hr, h3, hq, hs, rfl⟩
theorem input_leaf {w : World} {a T : Nat} {nh nb : Bool} {nt dn tn tw : Txt} {dh : Bool} {lit : LitD} {dirs : List DirD} {dl dc : Int} {ls : List Value} {dv : Value} (h : DatL w a T (litL lit) ls) (hd : Dat w a T (.list dirs.length (dirsL dirs)) dv) :
  DatL w a T (inputL ⟨⟨nh, nb, nt⟩, dn, (tn, tw), dh, lit, dirs, dl, dc⟩) ([.bool nh, .bool nb, .string (str nt), .string (str dn), .string (str tn), .string (str tw), .bool dh] ++ (ls ++ [dv, .int .i64 dl, .int .i64 dc])) :=
 .lit (.lit (.lit (.lit (.lit (.lit (.lit (h.app (.cons hd (.lit (.lit (.nil h.le)))))))))))
theorem field_info : (Tryz.prog.info? 52).map (fun i => (i.zero, i.size, i.bytes)) = some (some (.agg #[.bool false, .bool false, .string ⟨#[]⟩, .string ⟨#[]⟩, .slice none 0 0, .string ⟨#[]⟩, .string ⟨#[]⟩, .slice none 0 0, .int .i64 0, .int .i64 0]), 10, 136) := by kernel_rfl
theorem value_info : (Tryz.prog.info? 133).map (fun i => (i.zero, i.size, i.bytes)) = some (some (.agg #[.bool false, .bool false, .string ⟨#[]⟩, .string ⟨#[]⟩, .slice none 0 0, .int .i64 0, .int .i64 0]), 7, 80) := by kernel_rfl
theorem root_info : (Tryz.prog.info? 100).map (fun i => (i.zero, i.size, i.bytes)) = some (some (.agg #[.int .i64 0, .string ⟨#[]⟩, .int .i64 0, .int .i64 0]), 4, 40) := by kernel_rfl
abbrev defA (u0 u1 u2 u3 u4 u5 u6 u7 u8 u9 u10 u11 u12 u13 u14 u15 u16 : Value) : Array Value := #[u0, u1, u2, u3, u4, u5, u6, u7, u8, u9, u10, u11, u12, u13, u14, u15, u16]
def fieldF (toks : List TokD) (L f k : Nat) : Option (FieldD × Nat) :=
 (noteF toks k).bind fun p => (toks[p.2]?).bind fun t0 => (inputsF toks [40] [41] L f (nextK toks.length p.2)).bind fun r => (toks[r.2]?).bind fun t2 =>
 (typF toks f (if isF t2 [58] = true then r.2 + 1 else r.2)).bind fun q => (dirsF toks L f q.2).bind fun s => some (⟨p.1, t0.text, r.1, q.1, s.1, t0.line, t0.col⟩, s.2)
def valueF (toks : List TokD) (L f k : Nat) : Option (ValueD × Nat) :=
 (noteF toks k).bind fun p => (toks[p.2]?).bind fun t0 => (dirsF toks L f (nextK toks.length p.2)).bind fun s => some (⟨p.1, t0.text, s.1, t0.line, t0.col⟩, s.2)
def opF (t : Txt) : Int := if t = [115, 117, 98, 115, 99, 114, 105, 112, 116, 105, 111, 110] then 3 else if t = [109, 117, 116, 97, 116, 105, 111, 110] then 2 else 1
def rootF (toks : List TokD) (k : Nat) : Option (RootD × Nat) :=
 (noteF toks k).bind fun p => (toks[p.2]?).bind fun t0 => (toks[nextK toks.length p.2]?).bind fun t1 => (toks[if isF t1 [58] = true then nextK toks.length p.2 + 1 else nextK toks.length p.2]?).bind fun t2 =>
 some (⟨opF t0.text, t2.text, t0.line, t0.col⟩, nextK toks.length (if isF t1 [58] = true then nextK toks.length p.2 + 1 else nextK toks.length p.2))
theorem fieldsL_app (a b : List FieldD) : fieldsL (a ++ b) = fieldsL a ++ fieldsL b := by simp [fieldsL]
theorem valuesL_app (a b : List ValueD) : valuesL (a ++ b) = valuesL a ++ valuesL b := by simp [valuesL]
theorem rootsL_app (a b : List RootD) : rootsL (a ++ b) = rootsL a ++ rootsL b := by simp [rootsL]
theorem field_leaf {w : World} {a T : Nat} {nh nb : Bool} {nt dn tn tw : Txt} {args : List InputD} {dirs : List DirD} {dl dc : Int} {av dv : Value} (h : Dat w a T (.list args.length (inputsL args)) av) (hd : Dat w a T (.list dirs.length (dirsL dirs)) dv) :
  DatL w a T (fieldL ⟨⟨nh, nb, nt⟩, dn, args, (tn, tw), dirs, dl, dc⟩) [.bool nh, .bool nb, .string (str nt), .string (str dn), av, .string (str tn), .string (str tw), dv, .int .i64 dl, .int .i64 dc] :=
 .lit (.lit (.lit (.lit (.cons h (.lit (.lit (.cons hd (.lit (.lit (.nil h.le))))))))))
theorem value_leaf {w : World} {a T : Nat} {nh nb : Bool} {nt dn : Txt} {dirs : List DirD} {dl dc : Int} {dv : Value} (hd : Dat w a T (.list dirs.length (dirsL dirs)) dv) :
  DatL w a T (valueL ⟨⟨nh, nb, nt⟩, dn, dirs, dl, dc⟩) [.bool nh, .bool nb, .string (str nt), .string (str dn), dv, .int .i64 dl, .int .i64 dc] :=
 .lit (.lit (.lit (.lit (.cons hd (.lit (.lit (.nil hd.le)))))))
theorem root_leaf {w : World} {a T : Nat} {op : Int} {ty : Txt} {dl dc : Int} (h : T ≤ w.heap.size) : DatL w a T (rootL ⟨op, ty, dl, dc⟩) [.int .i64 op, .string (str ty), .int .i64 dl, .int .i64 dc] :=
 .lit (.lit (.lit (.lit (.nil h))))
def partsGo {α : Type} (toks : List TokD) (e : Nat → Option (α × Nat)) : Nat → Nat → Option (List α × Nat)
 | 0, _ => none
 | fu + 1, k => toks[k]?.bind fun t => if isF t [125] = true then some ([], k + 1) else (e k).bind fun q => (partsGo toks e fu q.2).bind fun r => some (q.1 :: r.1, r.2)
def partsF {α : Type} (toks : List TokD) (e : Nat → Option (α × Nat)) (L k : Nat) : Option (List α × Nat) := toks[k]?.bind fun t => if isF t [123] = true then partsGo toks e L (k + 1) else some ([], k)
theorem def_size : (Tryz.prog.info? 43).map (·.size) = some 17 := by kernel_rfl
theorem setCells_eq {g : Nat} : ∀ {us : List Value} {w : World} {i : Nat}, w.setCells g i us = setL w g i us
 | [], _, _ => rfl
 | _ :: us, _, _ => setCells_eq (us := us)
theorem setCells_grown {w : World} {g i : Nat} {us : List Value} : w.grownBy (w.setCells g i us) (some g) := by rw [setCells_eq]; exact setL_grown
theorem def_leaf {w : World} {a T : Nat} {kind : Int} {ext nh nb rep : Bool} {nt name : Txt} {ifaces : List NamedD} {dirs : List DirD} {fields : List FieldD} {inputs : List InputD} {members : List NamedD} {values : List ValueD} {roots : List RootD} {places : List NamedD} {l c : Int}
  {iv dv fv nv mv vv rv pv : Value} (h1 : Dat w a T (.list ifaces.length (namedsL ifaces)) iv) (h2 : Dat w a T (.list dirs.length (dirsL dirs)) dv) (h3 : Dat w a T (.list fields.length (fieldsL fields)) fv) (h4 : Dat w a T (.list inputs.length (inputsL inputs)) nv)
  (h5 : Dat w a T (.list members.length (namedsL members)) mv) (h6 : Dat w a T (.list values.length (valuesL values)) vv) (h7 : Dat w a T (.list roots.length (rootsL roots)) rv) (h8 : Dat w a T (.list places.length (namedsL places)) pv) :
  DatL w a T (defL ⟨kind, ext, ⟨nh, nb, nt⟩, name, ifaces, dirs, fields, inputs, members, values, roots, rep, places, l, c⟩) (defA (.int .i64 kind) (.bool ext) (.bool nh) (.bool nb) (.string (str nt)) (.string (str name)) iv dv fv nv mv vv rv (.bool rep) pv (.int .i64 l) (.int .i64 c)).toList :=
 .lit (.lit (.lit (.lit (.lit (.lit (.cons h1 (.cons h2 (.cons h3 (.cons h4 (.cons h5 (.cons h6 (.cons h7 (.lit (.cons h8 (.lit (.lit (.nil h1.le)))))))))))))))))
def headF (toks : List TokD) (k : Nat) : Option (NoteD × Bool × TokD × Nat) :=
 (noteF toks k).bind fun p => (toks[p.2]?).bind fun t0 => (toks[if isF t0 [101, 120, 116, 101, 110, 100] = true then p.2 + 1 else p.2]?).bind fun t1 =>
 some (p.1, isF t0 [101, 120, 116, 101, 110, 100], t1, nextK toks.length (if isF t0 [101, 120, 116, 101, 110, 100] = true then p.2 + 1 else p.2))
def optF (toks : List TokD) (mark sep : Txt) (L k : Nat) : Option (List NamedD × Nat) := (toks[k]?).bind fun t => if isF t mark = true then listedF toks sep L (k + 1) else some ([], k)
def dirF (toks : List TokD) (L f : Nat) (h : NoteD × Bool × TokD × Nat) : Option (DefD × Nat) :=
 (toks[h.2.2.2]?).bind fun t2 => (toks[if isF t2 [64] = true then h.2.2.2 + 1 else h.2.2.2]?).bind fun t3 =>
 (inputsF toks [40] [41] L f (nextK toks.length (if isF t2 [64] = true then h.2.2.2 + 1 else h.2.2.2))).bind fun i => (toks[i.2]?).bind fun t5 =>
 (toks[if isF t5 [114, 101, 112, 101, 97, 116, 97, 98, 108, 101] = true then i.2 + 1 else i.2]?).bind fun t6 =>
 (listedF toks [124] L (if isF t6 [111, 110] = true then (if isF t5 [114, 101, 112, 101, 97, 116, 97, 98, 108, 101] = true then i.2 + 1 else i.2) + 1 else (if isF t5 [114, 101, 112, 101, 97, 116, 97, 98, 108, 101] = true then i.2 + 1 else i.2))).bind fun p =>
 some (⟨8, h.2.1, h.1, t3.text, [], [], [], i.1, [], [], [], isF t5 [114, 101, 112, 101, 97, 116, 97, 98, 108, 101], p.1, t3.line, t3.col⟩, p.2)
def schemaF (toks : List TokD) (L f : Nat) (h : NoteD × Bool × TokD × Nat) : Option (DefD × Nat) :=
 (dirsF toks L f h.2.2.2).bind fun d => (partsF toks (rootF toks) L d.2).bind fun r => some (⟨1, h.2.1, h.1, [], [], d.1, [], [], [], [], r.1, false, [], h.2.2.1.line, h.2.2.1.col⟩, r.2)
def scalarF (toks : List TokD) (L f : Nat) (h : NoteD × Bool × TokD × Nat) : Option (DefD × Nat) :=
 (toks[h.2.2.2]?).bind fun t => (dirsF toks L f (nextK toks.length h.2.2.2)).bind fun d => some (⟨2, h.2.1, h.1, t.text, [], d.1, [], [], [], [], [], false, [], t.line, t.col⟩, d.2)
def objectF (kind : Int) (toks : List TokD) (L f : Nat) (h : NoteD × Bool × TokD × Nat) : Option (DefD × Nat) :=
 (toks[h.2.2.2]?).bind fun t => (optF toks [105, 109, 112, 108, 101, 109, 101, 110, 116, 115] [38] L (nextK toks.length h.2.2.2)).bind fun i => (dirsF toks L f i.2).bind fun d =>
 (partsF toks (fieldF toks L f) L d.2).bind fun r => some (⟨kind, h.2.1, h.1, t.text, i.1, d.1, r.1, [], [], [], [], false, [], t.line, t.col⟩, r.2)
def unionF (toks : List TokD) (L f : Nat) (h : NoteD × Bool × TokD × Nat) : Option (DefD × Nat) :=
 (toks[h.2.2.2]?).bind fun t => (dirsF toks L f (nextK toks.length h.2.2.2)).bind fun d => (optF toks [61] [124] L d.2).bind fun m => some (⟨5, h.2.1, h.1, t.text, [], d.1, [], [], m.1, [], [], false, [], t.line, t.col⟩, m.2)
def enumF (toks : List TokD) (L f : Nat) (h : NoteD × Bool × TokD × Nat) : Option (DefD × Nat) :=
 (toks[h.2.2.2]?).bind fun t => (dirsF toks L f (nextK toks.length h.2.2.2)).bind fun d => (partsF toks (valueF toks L f) L d.2).bind fun r => some (⟨6, h.2.1, h.1, t.text, [], d.1, [], [], [], r.1, [], false, [], t.line, t.col⟩, r.2)
def inDefF (toks : List TokD) (L f : Nat) (h : NoteD × Bool × TokD × Nat) : Option (DefD × Nat) :=
 (toks[h.2.2.2]?).bind fun t => (dirsF toks L f (nextK toks.length h.2.2.2)).bind fun d => (inputsF toks [123] [125] L f d.2).bind fun r => some (⟨7, h.2.1, h.1, t.text, [], d.1, [], r.1, [], [], [], false, [], t.line, t.col⟩, r.2)
def bodyF (toks : List TokD) (L f : Nat) (h : NoteD × Bool × TokD × Nat) : Option (DefD × Nat) :=
 match kindF h.2.2.1.text with
 | 1 => schemaF toks L f h
 | 2 => scalarF toks L f h
 | 3 => objectF 3 toks L f h
 | 4 => objectF 4 toks L f h
 | 5 => unionF toks L f h
 | 6 => enumF toks L f h
 | 7 => inDefF toks L f h
 | 8 => dirF toks L f h
 | _ => none
def defF (toks : List TokD) (L f k : Nat) : Option (DefD × Nat) := (headF toks k).bind (bodyF toks L f)
theorem def_cells {w : World} {a T : Nat} {vs : List Value} {d : DefD} (h : DatL w a T (defL d) vs) : ∃ A6 c6 A7 c7 A8 c8 A9 c9 A10 c10 A11 c11 A12 c12 A14 c14,
  vs = [.int .i64 d.kind, .bool d.ext, .bool d.note.has, .bool d.note.block, .string (str d.note.text), .string (str d.name), .slice A6 d.ifaces.length c6, .slice A7 d.dirs.length c7, .slice A8 d.fields.length c8, .slice A9 d.inputs.length c9,
   .slice A10 d.members.length c10, .slice A11 d.values.length c11, .slice A12 d.roots.length c12, .bool d.rep, .slice A14 d.places.length c14, .int .i64 d.line, .int .i64 d.col] ∧
  Dat w a T (.list d.ifaces.length (namedsL d.ifaces)) (.slice A6 d.ifaces.length c6) ∧ Dat w a T (.list d.dirs.length (dirsL d.dirs)) (.slice A7 d.dirs.length c7) ∧ Dat w a T (.list d.fields.length (fieldsL d.fields)) (.slice A8 d.fields.length c8) ∧
  Dat w a T (.list d.inputs.length (inputsL d.inputs)) (.slice A9 d.inputs.length c9) ∧ Dat w a T (.list d.members.length (namedsL d.members)) (.slice A10 d.members.length c10) ∧ Dat w a T (.list d.values.length (valuesL d.values)) (.slice A11 d.values.length c11) ∧
  Dat w a T (.list d.roots.length (rootsL d.roots)) (.slice A12 d.roots.length c12) ∧ Dat w a T (.list d.places.length (namedsL d.places)) (.slice A14 d.places.length c14) := by
 obtain ⟨r0, rfl, h0⟩ := h.lit_inv
 obtain ⟨r1, rfl, h1⟩ := h0.lit_inv
 obtain ⟨r2, rfl, h2⟩ := h1.lit_inv
 obtain ⟨r3, rfl, h3⟩ := h2.lit_inv
 obtain ⟨r4, rfl, h4⟩ := h3.lit_inv
 obtain ⟨r5, rfl, h5⟩ := h4.lit_inv
 obtain ⟨A6, c6, r6, rfl, d6, h6⟩ := h5.list_inv
 obtain ⟨A7, c7, r7, rfl, d7, h7⟩ := h6.list_inv
 obtain ⟨A8, c8, r8, rfl, d8, h8⟩ := h7.list_inv
 obtain ⟨A9, c9, r9, rfl, d9, h9⟩ := h8.list_inv
 obtain ⟨A10, c10, r10, rfl, d10, h10⟩ := h9.list_inv
 obtain ⟨A11, c11, r11, rfl, d11, h11⟩ := h10.list_inv
 obtain ⟨A12, c12, r12, rfl, d12, h12⟩ := h11.list_inv
 obtain ⟨r13, rfl, h13⟩ := h12.lit_inv
 obtain ⟨A14, c14, r14, rfl, d14, h14⟩ := h13.list_inv
 obtain ⟨r15, rfl, h15⟩ := h14.lit_inv
 obtain ⟨r16, rfl, h16⟩ := h15.lit_inv
 rw [h16.nil_inv]
 exact ⟨A6, c6, A7, c7, A8, c8, A9, c9, A10, c10, A11, c11, A12, c12, A14, c14, rfl, d6, d7, d8, d9, d10, d11, d12, d14⟩
def defsGo (toks : List TokD) (L f : Nat) : Nat → Nat → Option (List DefD)
 | 0, _ => none
 | fu + 1, k => toks[k]?.bind fun t => if t.kind = 0 then some [] else (defF toks L f k).bind fun q => (defsGo toks L f fu q.2).bind fun r => some (q.1 :: r)
theorem defsL_app (a b : List DefD) : defsL (a ++ b) = defsL a ++ defsL b := by simp [defsL]
theorem def_info : (Tryz.prog.info? 43).map (fun i => (i.zero, i.size, i.bytes)) = some (some (.agg #[.int .i64 0, .bool false, .bool false, .bool false, .string ⟨#[]⟩, .string ⟨#[]⟩, .slice none 0 0, .slice none 0 0, .slice none 0 0, .slice none 0 0, .slice none 0 0, .slice none 0 0, .slice none 0 0, .bool false, .slice none 0 0, .int .i64 0, .int .i64 0]), 17, 272) := by kernel_rfl
theorem take_next {α : Type} {l : List α} {k : Nat} {x : α} (h : l[k]? = some x) : l.take (k + 1) = l.take k ++ [x] := by
 obtain ⟨hk, rfl⟩ := List.getElem?_eq_some_iff.1 h
 exact List.take_succ_eq_append_getElem hk
theorem DatL.app_inv {w : World} {a T : Nat} : ∀ {t1 t2 : List Leaf} {vs : List Value}, DatL w a T (t1 ++ t2) vs → ∃ v1 v2, vs = v1 ++ v2 ∧ DatL w a T t1 v1 ∧ DatL w a T t2 v2
 | [], t2, vs, h => ⟨[], vs, rfl, .nil h.le, h⟩
 | s :: t1, t2, vs, h => by
  rw [List.cons_append] at h
  obtain ⟨v, r, rfl, h1, h2⟩ := h.cons_inv
  obtain ⟨v1, v2, rfl, h3, h4⟩ := h2.app_inv
  exact ⟨v :: v1, v2, rfl, .cons h1 h3, h4⟩
theorem pair_cells {w : World} {a T : Nat} {nm : Txt} {v : LitD} {l c : Int} {vs : List Value} (h : DatL w a T (pairL (.mk nm v l c)) vs) : ∃ ls, vs = .string (str nm) :: (ls ++ [.int .i64 l, .int .i64 c]) ∧ DatL w a T (litL v) ls := by
 obtain ⟨r, rfl, h1⟩ := h.lit_inv
 obtain ⟨v1, v2, rfl, h2, h3⟩ := h1.app_inv
 obtain ⟨r2, rfl, h4⟩ := h3.lit_inv
 obtain ⟨r3, rfl, h5⟩ := h4.lit_inv
 rw [h5.nil_inv]
 exact ⟨v1, rfl, h2⟩
theorem dir_cells {w : World} {a T : Nat} {d : DirD} {vs : List Value} (h : DatL w a T (dirL d) vs) : ∃ A c, vs = [.string (str d.name), .slice A d.args.length c, .int .i64 d.line, .int .i64 d.col] ∧ Dat w a T (.list d.args.length (pairsL d.args)) (.slice A d.args.length c) := by
 obtain ⟨r0, rfl, h0⟩ := h.lit_inv
 obtain ⟨A, c, r1, rfl, hd, h1⟩ := h0.list_inv
 obtain ⟨r2, rfl, h2⟩ := h1.lit_inv
 obtain ⟨r3, rfl, h3⟩ := h2.lit_inv
 rw [h3.nil_inv]
 exact ⟨A, c, rfl, hd⟩
theorem input_cells {w : World} {a T : Nat} {nh nb : Bool} {nt dn tn tw : Txt} {dh : Bool} {lit : LitD} {dirs : List DirD} {dl dc : Int} {vs : List Value} (h : DatL w a T (inputL ⟨⟨nh, nb, nt⟩, dn, (tn, tw), dh, lit, dirs, dl, dc⟩) vs) :
  ∃ ls A c, vs = [.bool nh, .bool nb, .string (str nt), .string (str dn), .string (str tn), .string (str tw), .bool dh] ++ (ls ++ [.slice A dirs.length c, .int .i64 dl, .int .i64 dc]) ∧ DatL w a T (litL lit) ls ∧ Dat w a T (.list dirs.length (dirsL dirs)) (.slice A dirs.length c) := by
 obtain ⟨r0, rfl, h0⟩ := h.lit_inv
 obtain ⟨r1, rfl, h1⟩ := h0.lit_inv
 obtain ⟨r2, rfl, h2⟩ := h1.lit_inv
 obtain ⟨r3, rfl, h3⟩ := h2.lit_inv
 obtain ⟨r4, rfl, h4⟩ := h3.lit_inv
 obtain ⟨r5, rfl, h5⟩ := h4.lit_inv
 obtain ⟨r6, rfl, h6⟩ := h5.lit_inv
 have h6' : DatL w a T (litL lit ++ [.list dirs.length (dirsL dirs), int' dl, int' dc]) r6 := h6
 obtain ⟨v1, v2, rfl, h7, h8⟩ := h6'.app_inv
 obtain ⟨A, c, r9, rfl, hd, h9⟩ := h8.list_inv
 obtain ⟨r10, rfl, h10⟩ := h9.lit_inv
 obtain ⟨r11, rfl, h11⟩ := h10.lit_inv
 rw [h11.nil_inv]
 exact ⟨v1, A, c, rfl, h7, hd⟩
theorem field_cells {w : World} {a T : Nat} {nh nb : Bool} {nt dn tn tw : Txt} {args : List InputD} {dirs : List DirD} {dl dc : Int} {vs : List Value} (h : DatL w a T (fieldL ⟨⟨nh, nb, nt⟩, dn, args, (tn, tw), dirs, dl, dc⟩) vs) :
  ∃ A c A2 c2, vs = [.bool nh, .bool nb, .string (str nt), .string (str dn), .slice A args.length c, .string (str tn), .string (str tw), .slice A2 dirs.length c2, .int .i64 dl, .int .i64 dc] ∧ Dat w a T (.list args.length (inputsL args)) (.slice A args.length c) ∧ Dat w a T (.list dirs.length (dirsL dirs)) (.slice A2 dirs.length c2) := by
 obtain ⟨r0, rfl, h0⟩ := h.lit_inv
 obtain ⟨r1, rfl, h1⟩ := h0.lit_inv
 obtain ⟨r2, rfl, h2⟩ := h1.lit_inv
 obtain ⟨r3, rfl, h3⟩ := h2.lit_inv
 obtain ⟨A, c, r4, rfl, hd, h4⟩ := h3.list_inv
 obtain ⟨r5, rfl, h5⟩ := h4.lit_inv
 obtain ⟨r6, rfl, h6⟩ := h5.lit_inv
 obtain ⟨A2, c2, r7, rfl, hd2, h7⟩ := h6.list_inv
 obtain ⟨r8, rfl, h8⟩ := h7.lit_inv
 obtain ⟨r9, rfl, h9⟩ := h8.lit_inv
 rw [h9.nil_inv]
 exact ⟨A, c, A2, c2, rfl, hd, hd2⟩
theorem named_info : (Tryz.prog.info? 113).map (fun i => (i.zero, i.size, i.bytes)) = some (some (.agg #[.string ⟨#[]⟩, .int .i64 0, .int .i64 0]), 3, 32) := by kernel_rfl
theorem namedsL_len : ∀ l : List NamedD, (namedsL l).length = l.length * 3
 | [] => rfl
 | x :: r => by rw [namedsL, List.flatMap_cons, List.length_append, ← namedsL, namedsL_len r, List.length_cons, Nat.succ_mul]; simp [namedL]; omega
theorem rootsL_len : ∀ l : List RootD, (rootsL l).length = l.length * 4
 | [] => rfl
 | x :: r => by rw [rootsL, List.flatMap_cons, List.length_append, ← rootsL, rootsL_len r, List.length_cons, Nat.succ_mul]; simp [rootL]; omega
theorem value_cells {w : World} {a T : Nat} {nh nb : Bool} {nt dn : Txt} {dirs : List DirD} {dl dc : Int} {vs : List Value} (h : DatL w a T (valueL ⟨⟨nh, nb, nt⟩, dn, dirs, dl, dc⟩) vs) :
  ∃ A c, vs = [.bool nh, .bool nb, .string (str nt), .string (str dn), .slice A dirs.length c, .int .i64 dl, .int .i64 dc] ∧ Dat w a T (.list dirs.length (dirsL dirs)) (.slice A dirs.length c) := by
 obtain ⟨r0, rfl, h0⟩ := h.lit_inv
 obtain ⟨r1, rfl, h1⟩ := h0.lit_inv
 obtain ⟨r2, rfl, h2⟩ := h1.lit_inv
 obtain ⟨r3, rfl, h3⟩ := h2.lit_inv
 obtain ⟨A, c, r4, rfl, hd, h4⟩ := h3.list_inv
 obtain ⟨r5, rfl, h5⟩ := h4.lit_inv
 obtain ⟨r6, rfl, h6⟩ := h5.lit_inv
 rw [h6.nil_inv]
 exact ⟨A, c, rfl, hd⟩
end Go.Proofs.YtbpgkkoeehopjaaGreat.dat
namespace Go.Proofs.YtbpgkkoeehopjaaGreat.dat
open Go.RowKit Go.Proofs.YtbpgkkoeehopjaaGreat.words Go.Proofs.YtbpgkkoeehopjaaGreat.enc Go.Proofs.YtbpgkkoeehopjaaGreat.tree Go.Proofs.YtbpgkkoeehopjaaGreat.gram Go.Proofs.YtbpgkkoeehopjaaGreat.lex Go.Proofs.YtbpgkkoeehopjaaGreat.rd Go.Proofs.YtbpgkkoeehopjaaGreat.dec
structure RowI (w : World) (lo hi : Nat) (e : TypeId) (m : Nat) (v : Value) (n : Nat) (cs : List Leaf) (vs : List Value) : Prop where
 row : RowT w (In lo hi) lo e m v n cs vs
 lt : ∀ b, v.ownBlock = some b → b < hi
 le : hi ≤ w.heap.size
section
variable {w w' : World} {lo hi n m : Nat} {e : TypeId} {v : Value} {cs : List Leaf} {vs : List Value}
theorem RowI.of (h : RowT w (In lo w.heap.size) lo e m v n cs vs) : RowI w lo w.heap.size e m v n cs vs := ⟨h, fun b hb => (h.own.lt b hb).2, Nat.le_refl _⟩
theorem RowI.other {row : Option Nat} (h : RowI w lo hi e m v n cs vs) (hg : w.grownBy w' row) (hrow : ∀ b, row = some b → b < lo ∨ hi ≤ b) : RowI w' lo hi e m v n cs vs :=
 ⟨h.row.other hg (fun b hb => not_in (hrow b hb)) (by
   cases hv : v.ownBlock with
   | none => exact .inl rfl
   | some b => exact .inr (fun e => by have := (h.row.own.lt b hv).1; have := h.lt b hv; have := hrow b e.symm; omega)), h.lt, Nat.le_trans h.le hg.size⟩
theorem RowI.below (h : RowI w lo hi e m v n cs vs) (hb : Below w.heap.size w w') : RowI w' lo hi e m v n cs vs := h.other (grown_of hb none) (fun b e => by cases e)
theorem RowI.dat (h : RowI w lo hi e m v n cs vs) : Dat w lo hi (.list n cs) v :=
 ⟨own_reads h.row.own (ReadsL.keep (fun b hb => hb.1) (fun _ _ => rfl) _ _ h.row.reads) (fun g hg => ⟨(h.row.own.lt g hg).1, h.lt g hg⟩), h.le⟩
end
def Inn (w : World) (base : Nat) (own : Nat → Nat) : Nat → Prop := fun b => own b = 0 ∧ base ≤ b ∧ b < w.heap.size
structure RowC (w : World) (base : Nat) (own : Nat → Nat) (id : Nat) (e : TypeId) (m : Nat) (v : Value) (n : Nat) (cs : List Leaf) (vs : List Value) : Prop where
 row : w.ownsRow base e m v n vs
 reads : ReadsL w (Inn w base own) cs vs
 mine : ∀ b, v.ownBlock = some b → own b = id
def upd (own : Nat → Nat) (v : Value) (id : Nat) : Nat → Nat := fun b => if v.ownBlock = some b then id else own b
section
variable {w w' : World} {base id n k m : Nat} {own own' : Nat → Nat} {e : TypeId} {v v' : Value} {cs cs' : List Leaf} {vs vs' : List Value}
theorem own_frame (h : w.ownsRow base e m v n vs) (hk : ∀ b, v.ownBlock = some b → w'.heap[b]? = w.heap[b]?) : w'.ownsRow base e m v n vs := by
 refine ⟨h.1, ?_⟩
 rcases h.2 with h2 | ⟨g, cap, cur, rfl, hb, hc, h4⟩
 · exact .inl h2
 · exact .inr ⟨g, cap, cur, rfl, hb, (hk g rfl).trans hc, h4⟩
theorem own_base {base' : Nat} (h : w.ownsRow base e m v n vs) (hb : base' ≤ base) : w.ownsRow base' e m v n vs := by
 refine ⟨h.1, ?_⟩
 rcases h.2 with h2 | ⟨g, cap, cur, rfl, hb', hc, h4⟩
 · exact .inl h2
 · exact .inr ⟨g, cap, cur, rfl, Nat.le_trans hb hb', hc, h4⟩
theorem RowC.frame (h : RowC w base own id e m v n cs vs) (hs : w.heap.size ≤ w'.heap.size) (hk : ∀ b, base ≤ b → b < w.heap.size → own b = 0 ∨ own b = id → w'.heap[b]? = w.heap[b]?) (ha : ∀ b, b < w.heap.size → own' b = own b) : RowC w' base own' id e m v n cs vs :=
 ⟨own_frame h.row (fun b hb => hk b (h.row.lt b hb).1 (h.row.lt b hb).2 (.inr (h.mine b hb))),
  ReadsL.keep (fun b hb => ⟨(ha b hb.2.2).trans hb.1, hb.2.1, Nat.lt_of_lt_of_le hb.2.2 hs⟩) (fun p hp => World.cell?_of_block (hk p.block hp.2.1 hp.2.2 (.inl hp.1))) _ _ h.reads,
  fun b hb => (ha b (h.row.lt b hb).2).trans (h.mine b hb)⟩
theorem upd_agree (h : RowC w base own id e m v n cs vs) (hat : v'.ownBlock = v.ownBlock ∨ v'.ownBlock = some w.heap.size) : ∀ b, b < w.heap.size → upd own v' id b = own b := by
 intro b hb
 unfold upd
 split
 · rename_i hv
   rcases hat with hat | hat
   · exact (h.mine b (hat.symm.trans hv)).symm
   · rw [hat] at hv; injection hv with hv; omega
 · rfl
theorem RowC.push (h : RowC w base own id e m v n cs vs) (hid : id ≠ 0) (ho : w'.ownsRow base e m v' (n + k) (vs ++ vs')) (hg : w.grownBy w' v.ownBlock) (hat : v'.ownBlock = v.ownBlock ∨ v'.ownBlock = some w.heap.size) (hr : ReadsL w (Inn w base own) cs' vs') :
  RowC w' base (upd own v' id) id e m v' (n + k) (cs ++ cs') (vs ++ vs') := by
 refine ⟨ho, ?_, fun b hb => by unfold upd; rw [if_pos hb]⟩
 refine ReadsL.keep (fun b hb => ⟨(upd_agree h hat b hb.2.2).trans hb.1, hb.2.1, Nat.lt_of_lt_of_le hb.2.2 hg.size⟩) (fun p hp => World.cell?_of_block (hg.block p.block hp.2.2 (fun e => hid ((h.mine _ e.symm).symm.trans hp.1)))) _ _ (h.reads.app hr)
theorem RowC.of {lo hi : Nat} (h : RowI w lo hi e m v n cs vs) (hb : base ≤ lo) (hin : ∀ b, lo ≤ b → b < hi → v.ownBlock ≠ some b → own b = 0) (hmine : ∀ b, v.ownBlock = some b → own b = id) : RowC w base own id e m v n cs vs :=
 ⟨own_base h.row.own hb, ReadsL.keep (fun b hb' => ⟨hin b hb'.1.1 hb'.1.2 hb'.2, Nat.le_trans hb hb'.1.1, Nat.lt_of_lt_of_le hb'.1.2 h.le⟩) (fun _ _ => rfl) _ _ h.row.reads, hmine⟩
theorem RowC.dat (h : RowC w base own id e m v n cs vs) : Dat w base w.heap.size (.list n cs) v :=
 ⟨own_reads h.row (ReadsL.keep (fun b hb => ⟨hb.2.1, hb.2.2⟩) (fun _ _ => rfl) _ _ h.reads) (fun g hg => h.row.lt g hg), Nat.le_refl _⟩
end
end Go.Proofs.YtbpgkkoeehopjaaGreat.dat
namespace Go.Proofs.YtbpgkkoeehopjaaGreat.dat
open Go.RowKit Go.Proofs.YtbpgkkoeehopjaaGreat.words Go.Proofs.YtbpgkkoeehopjaaGreat.gram Go.Proofs.YtbpgkkoeehopjaaGreat.tree Go.Proofs.YtbpgkkoeehopjaaGreat.rd
mutual
def litN : LitD → Nat
 | .mk _ _ _ items fields _ _ => litsN items + pairsN fields + 1
def litsN : List LitD → Nat
 | [] => 0
 | d :: r => litN d + litsN r
def pairN : PairD → Nat
 | .mk _ v _ _ => litN v + 1
def pairsN : List PairD → Nat
 | [] => 0
 | d :: r => pairN d + pairsN r
end
theorem litN_pos (d : LitD) : 0 < litN d := by cases d; simp [litN]
theorem lits_len : ∀ l, l.length ≤ litsN l
 | [] => Nat.le_refl _
 | d :: r => by have := litN_pos d; have := lits_len r; simp only [List.length_cons, litsN]; omega
theorem pairN_pos (d : PairD) : 0 < pairN d := by cases d; simp [pairN]
theorem pairs_len : ∀ l, l.length ≤ pairsN l
 | [] => Nat.le_refl _
 | d :: r => by have := pairN_pos d; have := pairs_len r; simp only [List.length_cons, pairsN]; omega
theorem lits_at : ∀ {l : List LitD} {k : Nat} {d : LitD}, l[k]? = some d → litN d ≤ litsN l
 | [], k, d, h => by simp at h
 | x :: r, 0, d, h => by simp only [List.getElem?_cons_zero] at h; injection h with h; subst h; simp only [litsN]; omega
 | x :: r, k + 1, d, h => by simp only [List.getElem?_cons_succ] at h; have := lits_at h; simp only [litsN]; omega
theorem pairs_at : ∀ {l : List PairD} {k : Nat} {d : PairD}, l[k]? = some d → pairN d ≤ pairsN l
 | [], k, d, h => by simp at h
 | x :: r, 0, d, h => by simp only [List.getElem?_cons_zero] at h; injection h with h; subst h; simp only [pairsN]; omega
 | x :: r, k + 1, d, h => by simp only [List.getElem?_cons_succ] at h; have := pairs_at h; simp only [pairsN]; omega
def sumN {α : Type} (f : α → Nat) : List α → Nat
 | [] => 0
 | d :: r => f d + sumN f r
theorem sum_at {α : Type} {f : α → Nat} : ∀ {l : List α} {k : Nat} {d : α}, l[k]? = some d → f d ≤ sumN f l
 | [], k, d, h => by simp at h
 | x :: r, 0, d, h => by simp only [List.getElem?_cons_zero] at h; injection h with h; subst h; simp only [sumN]; omega
 | x :: r, k + 1, d, h => by simp only [List.getElem?_cons_succ] at h; have := sum_at (f := f) h; simp only [sumN]; omega
theorem sum_len {α : Type} {f : α → Nat} (hf : ∀ a, 0 < f a) : ∀ l : List α, l.length ≤ sumN f l
 | [] => Nat.le_refl _
 | d :: r => by have := hf d; have := sum_len hf r; simp only [List.length_cons, sumN]; omega
theorem sum_app {α : Type} {f : α → Nat} : ∀ (a b : List α), sumN f (a ++ b) = sumN f a + sumN f b
 | [], b => by simp [sumN]
 | d :: r, b => by rw [List.cons_append, sumN, sum_app r b, sumN]; omega
def dirN (d : DirD) : Nat := pairsN d.args + 1
def inputN (d : InputD) : Nat := litN d.lit + sumN dirN d.dirs + 1
def fieldN (d : FieldD) : Nat := sumN inputN d.args + sumN dirN d.dirs + 1
def valueN (d : ValueD) : Nat := sumN dirN d.dirs + 1
def defN (d : DefD) : Nat := d.ifaces.length + sumN dirN d.dirs + sumN fieldN d.fields + sumN inputN d.inputs + d.members.length + sumN valueN d.values + d.roots.length + d.places.length + 1
def defsN (l : List DefD) : Nat := sumN defN l
theorem dirN_pos (d : DirD) : 0 < dirN d := Nat.succ_pos _
theorem inputN_pos (d : InputD) : 0 < inputN d := Nat.succ_pos _
theorem fieldN_pos (d : FieldD) : 0 < fieldN d := Nat.succ_pos _
theorem valueN_pos (d : ValueD) : 0 < valueN d := Nat.succ_pos _
theorem defN_pos (d : DefD) : 0 < defN d := Nat.succ_pos _
theorem elem_at {w : World} {a T n c m : Nat} {A : Option Addr} {α : Type} {f : α → List Leaf} (hf : ∀ x, (f x).length = m) {l : List α} (h : Dat w a T (.list n (l.flatMap f)) (.slice A n c)) {k : Nat} {x : α} (hk : l[k]? = some x) (hm : 0 < m) :
  ∃ ad vs, A = some ad ∧ DatL w a T (f x) vs ∧ vs.length = m ∧ In a T (ad.add (k * m)).block ∧ (∀ u, vs[0]? = some u → w.cell? (ad.add (k * m)) = some u) ∧ ∀ j u, vs[j + 1]? = some u → w.cell? ⟨(ad.add (k * m)).block, (ad.add (k * m)).off + (j + 1), none⟩ = some u := by
 obtain ⟨A', c', us, he, _, _, hl, hd⟩ := reads_list h.reads
 injection he with e1 e2 e3
 subst e1 e3
 have key : ∀ (l : List α) (k : Nat) (us : List Value), ReadsL w (In a T) (l.flatMap f) us → l[k]? = some x → ∃ vs, ReadsL w (In a T) (f x) vs ∧ vs.length = m ∧ ∀ j, j < m → us[k * m + j]? = vs[j]? := by
  intro l
  induction l with
  | nil => intro k us _ hk; simp at hk
  | cons y r ih =>
   intro k us hl hk
   rw [List.flatMap_cons] at hl
   have hsplit : ∀ (t1 t2 : List Leaf) (us : List Value), ReadsL w (In a T) (t1 ++ t2) us → ∃ v1 v2, us = v1 ++ v2 ∧ ReadsL w (In a T) t1 v1 ∧ ReadsL w (In a T) t2 v2 := by
    intro t1
    induction t1 with
    | nil => intro t2 us h; exact ⟨[], us, rfl, ReadsL.nil, h⟩
    | cons s t1 ih2 =>
     intro t2 us h
     rw [List.cons_append] at h
     simp only [ReadsL] at h
     obtain ⟨v, r, rfl, h1, h2⟩ := h
     obtain ⟨v1, v2, rfl, h3, h4⟩ := ih2 t2 r h2
     exact ⟨v :: v1, v2, rfl, ReadsL.cons h1 h3, h4⟩
   obtain ⟨v1, v2, rfl, h1, h2⟩ := hsplit _ _ _ hl
   have hlen1 : v1.length = m := by rw [h1.len, hf]
   cases k with
   | zero =>
    simp only [List.getElem?_cons_zero] at hk
    injection hk with hk
    subst hk
    exact ⟨v1, h1, hlen1, fun j hj => by rw [Nat.zero_mul, Nat.zero_add, List.getElem?_append_left (by omega)]⟩
   | succ k =>
    simp only [List.getElem?_cons_succ] at hk
    obtain ⟨vs, h3, h4, h5⟩ := ih k v2 h2 hk
    refine ⟨vs, h3, h4, fun j hj => ?_⟩
    rw [List.getElem?_append_right (by rw [hlen1, Nat.succ_mul]; omega), hlen1, show (k + 1) * m + j - m = k * m + j by rw [Nat.succ_mul]; omega]
    exact h5 j hj
 obtain ⟨vs, h1, h2, h3⟩ := key l k us hl hk
 have h0 : us[k * m + 0]? = vs[0]? := h3 0 hm
 have hne : ∃ u, vs[0]? = some u := ⟨_, List.getElem?_eq_getElem (by omega)⟩
 obtain ⟨u0, hu0⟩ := hne
 obtain ⟨ad, rfl, hS, hc0⟩ := hd.at (h0.trans hu0)
 have hat : ∀ j u, vs[j]? = some u → w.cell? (ad.add (k * m + j)) = some u := fun j u hj => by
  have hjm : j < m := by rw [← h2]; exact (List.getElem?_eq_some_iff.1 hj).1
  obtain ⟨ad', e, _, hc⟩ := hd.at ((h3 j hjm).trans hj)
  injection e with e
  subst e
  exact hc
 exact ⟨ad, vs, rfl, ⟨h1, h.le⟩, h2, by rw [add_block]; exact hS, fun u hu => hat 0 u hu, fun j u hj => cell_fld (hat (j + 1) u hj)⟩
end Go.Proofs.YtbpgkkoeehopjaaGreat.dat
namespace Go.Proofs.YtbpgkkoeehopjaaGreat.held
open Go.RowKit
section
variable {P : Program} {ops : Array Oper} {Q : Exit → Act → World → Prop} {md : Region.Mode} {S : World → Prop}
def AnyL (P : Program) (md : Region.Mode) (ops : Array Oper) (Q : Exit → Act → World → Prop) (S : World → Prop) (F : List Nat) : Nat → Array Bool → Act → World → Prop
 | 0, listed, a, w => Region.ready md ops listed = [] ∧ Q .normal a w
 | fuel + 1, listed, a, w =>
  (Region.ready md ops listed = [] → Q .normal a w) ∧
  ∀ i ∈ Region.ready md ops listed, wpOp P ops Q i (fun a' w' => (i ∉ F → S w') ∧ AnyL P md ops Q S F fuel (listed.setIfInBounds i true) a' w') a w
def dep (md : Region.Mode) (ops : Array Oper) : Nat → Nat → Nat → Bool
 | 0, _, _ => false
 | f + 1, j, i => match ops[j]? with
  | some o => o.after.toList.any fun e => Region.binds md e && (e.on == i || dep md ops f e.on i)
  | none => false
def waits (md : Region.Mode) (ops : Array Oper) (F : List Nat) (i : Nat) : Bool := F.all fun j => dep md ops ops.size j i
def Closed (md : Region.Mode) (ops : Array Oper) (listed : Array Bool) : Prop := ∀ k ok, ops[k]? = some ok → listed.getD k false = true → ∀ e ∈ ok.after, Region.binds md e = true → listed.getD e.on false = true
def closed (md : Region.Mode) (ops : Array Oper) (listed : Array Bool) : Bool := (List.range ops.size).all fun k => match ops[k]? with
 | some o => !listed.getD k false || o.after.toList.all fun e => !Region.binds md e || listed.getD e.on false
 | none => true
theorem closed_spec {listed : Array Bool} (h : closed md ops listed = true) : Closed md ops listed := fun k ok hk hl e he hb => by
 have hlt : k < ops.size := by
  rcases Nat.lt_or_ge k ops.size with h' | h'
  · exact h'
  · rw [Array.getElem?_eq_none h'] at hk; cases hk
 have h1 := List.all_eq_true.1 h k (List.mem_range.2 hlt)
 rw [hk] at h1
 simp only [hl, Bool.not_true, Bool.false_or, List.all_eq_true, Bool.or_eq_true, Bool.not_eq_true'] at h1
 rcases h1 e (by simpa using he) with h2 | h2
 · rw [hb] at h2; cases h2
 · exact h2
theorem dep_not {listed : Array Bool} {i : Nat} (hc : Closed md ops listed) (hi : listed.getD i false = false) : ∀ (f j : Nat), dep md ops f j i = true → listed.getD j false = false ∧ j ∉ Region.ready md ops listed
 | 0, _, h => by cases h
 | f + 1, j, h => by
  unfold dep at h
  cases ho : ops[j]? with
  | none => rw [ho] at h; cases h
  | some o =>
   rw [ho] at h
   obtain ⟨e, he, hb⟩ := List.any_eq_true.1 h
   simp only [Bool.and_eq_true, Bool.or_eq_true, beq_iff_eq] at hb
   have hno : listed.getD e.on false = false := by
    rcases hb.2 with h1 | h1
    · rw [h1]; exact hi
    · exact (dep_not hc hi f e.on h1).1
   have he' : e ∈ o.after := by simpa using he
   refine ⟨?_, fun hm => ?_⟩
   · cases hj : listed.getD j false with
     | false => rfl
     | true => have := hc j o ho hj e he' hb.1; rw [hno] at this; cases this
   · obtain ⟨_, oj, hoj, hall⟩ := mem_ready.1 hm
     rw [ho] at hoj
     injection hoj with hoj
     subst hoj
     have := hall e he' hb.1
     rw [hno] at this; cases this
theorem closed_set {listed : Array Bool} {j : Nat} (hc : Closed md ops listed) (hj : j ∈ Region.ready md ops listed) : Closed md ops (listed.setIfInBounds j true) := fun k ok hk hl e he hb => by
 have up : ∀ x, listed.getD x false = true → (listed.setIfInBounds j true).getD x false = true := fun x hx => by
  by_cases h : j = x
  · subst h
    rw [Array.getD_eq_getD_getElem?] at hx ⊢
    rw [Array.getElem?_setIfInBounds]
    have hlt : j < listed.size := by
     rcases Nat.lt_or_ge j listed.size with h' | h'
     · exact h'
     · rw [Array.getElem?_eq_none h'] at hx; cases hx
    simp [hlt]
  · rw [getD_set_ne false h]; exact hx
 by_cases h : j = k
 · subst h
   obtain ⟨_, oj, hoj, hall⟩ := mem_ready.1 hj
   rw [hk] at hoj
   injection hoj with hoj
   subst hoj
   exact up _ (hall e he hb)
 · rw [getD_set_ne false h] at hl
   exact up _ (hc k ok hk hl e he hb)
variable {F : List Nat}
theorem any_of : ∀ (fuel : Nat) (listed : Array Bool) (a : Act) (w : World), AnyL P md ops Q S F fuel listed a w → wpAny P md ops Q fuel listed a w
 | 0, _, _, _, h => h
 | fuel + 1, _, _, _, h => ⟨h.1, fun i hi => wpOp_mono (fun a' w' h' => any_of fuel _ a' w' h'.2) (h.2 i hi)⟩
theorem first {i : Nat} {oi : Oper} {v : Value} (hi : ops[i]? = some oi) (hsel : ∀ (j : Nat) (o : Oper) cs b, ops[j]? = some o → o.op ≠ .select cs b) (hF : waits md ops F i = true)
  (hQ : ∀ c a w, Q (.panic c) (a.put oi.dst v) w → Q (.panic c) a w) :
  ∀ (fuel : Nat) (listed : Array Bool) (a : Act) (w : World),
   (∀ j oj, ops[j]? = some oj → j ≠ i → listed.getD j true = false → (∀ e ∈ oj.after, Region.binds md e = true → e.on ≠ i) → oi.apart ops oj = true) →
   Closed md ops listed → i ∈ Region.ready md ops listed → YieldsIf P ops S oi v a → S w →
   AnyL P md ops Q S F fuel (listed.setIfInBounds i true) (a.put oi.dst v) w → AnyL P md ops Q S F (fuel + 1) listed a w := by
 intro fuel
 induction fuel with
 | zero =>
  intro listed a w _ hcl hr hy hS H
  refine ⟨fun h => (by rw [h] at hr; cases hr), fun j hj => ?_⟩
  by_cases hji : j = i
  · subst hji; exact hy.wpOp hi hS ⟨fun _ => hS, H⟩
  · have := ready_mono hj hji
    rw [H.1] at this
    cases this
 | succ fuel ih =>
  intro listed a w hfree hcl hr hy hS H
  refine ⟨fun h => (by rw [h] at hr; cases hr), fun j hj => ?_⟩
  by_cases hji : j = i
  · subst hji; exact hy.wpOp hi hS ⟨fun _ => hS, H⟩
  · have h1 := H.2 j (ready_mono hj hji)
    obtain ⟨hjun, oj, hoj, hall⟩ := mem_ready.1 hj
    have hnot : ∀ e ∈ oj.after, Region.binds md e = true → e.on ≠ i := fun e he hb heq => by
     have h1 := hall e he hb
     have h0 := (mem_ready.1 hr).1
     rw [heq] at h1
     rcases Nat.lt_or_ge i listed.size with h' | h'
     · simp [h'] at h0 h1; rw [h0] at h1; cases h1
     · simp [Array.getElem?_eq_none h'] at h1
    have hiun : listed.getD i false = false := by
     have h0 := (mem_ready.1 hr).1
     rw [Array.getD_eq_getD_getElem?] at h0 ⊢
     cases hx : listed[i]? with
     | none => rfl
     | some b => rw [hx] at h0; exact h0
    have hjF : j ∉ F := fun hm => (dep_not hcl hiun ops.size j (List.all_eq_true.1 hF j hm)).2 hj
    have h2 := wpOp_putIf hoj (hfree j oj hoj hji hjun hnot) (fun cs b => hsel i oi cs b hi) (fun cs b => hsel j oj cs b hoj) hQ hy h1
    have hfree' : ∀ k ok, ops[k]? = some ok → k ≠ i → (listed.setIfInBounds j true).getD k true = false →
      (∀ e ∈ ok.after, Region.binds md e = true → e.on ≠ i) → oi.apart ops ok = true := fun k ok hk hki hun hno => by
     refine hfree k ok hk hki ?_ hno
     by_cases hjk : j = k
     · subst hjk; exact hjun
     · rw [getD_set_ne true hjk] at hun; exact hun
    refine wpOp_mono (fun a' w' h3 => ⟨h3.2.1, ih (listed.setIfInBounds j true) a' w' hfree' (closed_set hcl hj) (ready_mono hr (Ne.symm hji)) h3.1 (h3.2.1 hjF) ?_⟩) h2
    rw [Array.setIfInBounds_comm _ _ hji]
    exact h3.2.2
theorem take {i : Nat} {oi : Oper} {v : Value} {fuel : Nat} {listed : Array Bool} {a : Act} {w : World} (hi : ops[i]? = some oi)
  (hs : Region.noSelect ops = true) (hf : Region.free md ops listed i = true) (hr : (Region.ready md ops listed).contains i = true) (hF : waits md ops F i = true) (hc : closed md ops listed = true)
  (hQ : ∀ c a w, Q (.panic c) (a.put oi.dst v) w → Q (.panic c) a w) (hy : YieldsIf P ops S oi v a) (hS : S w)
  (h : AnyL P md ops Q S F fuel (listed.setIfInBounds i true) (a.put oi.dst v) w) : AnyL P md ops Q S F (fuel + 1) listed a w :=
 first hi (Region.noSelect_spec hs) hF hQ fuel listed a w (Region.free_spec hi hf) (closed_spec hc) (by simpa using hr) hy hS h
theorem step {i : Nat} {o : Oper} {fuel : Nat} {listed : Array Bool} {a : Act} {w : World} (hr : Region.ready md ops listed = [i]) (ho : ops[i]? = some o)
  (h : ∀ K' : Act → World → Prop, Shut (∀ a w, (i ∉ F → S w) → ((i ∉ F → S w) → AnyL P md ops Q S F fuel (listed.setIfInBounds i true) a w) → K' a w) → if Region.wanted o (yielded ops a.tmps) = true then Oper.wp P o a w K' Q else K' (a.put o.dst undef) w) :
  AnyL P md ops Q S F (fuel + 1) listed a w :=
 ⟨fun h0 => (by rw [hr] at h0; cases h0), fun j hj => by
   rw [hr] at hj
   obtain rfl := List.mem_singleton.1 hj
   exact wpOp_step ho (fun K' hK => h K' (fun a w hS hW => hK a w ⟨hS, hW hS⟩))⟩
theorem done {listed : Array Bool} {a : Act} {w : World} (hr : Region.ready md ops listed = []) (h : Q .normal a w) : ∀ fuel, AnyL P md ops Q S F fuel listed a w
 | 0 => ⟨hr, h⟩
 | _ + 1 => ⟨fun _ => h, by rw [hr]; simp⟩
theorem begin_ {id : Nat} {a : Act} {w : World} (S : World → Prop) (F : List Nat) (hm : P.follows .mixedOrders = true)
  (h : AnyL P .any ops Q S F ops.size (Array.replicate ops.size false) a w.drew) : (Code.region id ops true).wp P Q a w :=
 wp_region_any hm (any_of _ _ _ _ h)
end
end Go.Proofs.YtbpgkkoeehopjaaGreat.held
namespace Go.Proofs.YtbpgkkoeehopjaaGreat.held
open Go
variable {P : Program}
def At (w : World) (p : Addr) (cs : List Value) : Prop := (∀ u, cs[0]? = some u → w.cell? p = some u) ∧ ∀ j u, cs[j + 1]? = some u → w.cell? ⟨p.block, p.off + (j + 1), none⟩ = some u
theorem run_loadVar_at (w : World) (p : Addr) (ty : TypeId) (cs : List Value) (d : TypeDesc) (hc : At w p cs)
  (hu : P.underlying ty = some d) (hd : d.isRow = true) (hi : (P.info? ty).map (·.size) = some cs.length) :
  (loadVar ty p).run P w = .ok (.agg cs.toArray) w := by
 have hl : (loadCells p cs.length).run P w = .ok cs.toArray w :=
  run_loadCells_list (P := P) w p cs (fun j v hv => by
   cases j with
   | zero => exact hc.1 v hv
   | succ j => exact hc.2 j v hv)
 cases hq : P.info? ty with
 | none => simp [hq] at hi
 | some i =>
  have hs : i.size = cs.length := by simpa [hq] using hi
  have hagg : (isAgg ty).run P w = .ok true w := by
   unfold isAgg
   rw [Sem.run_bind, run_underlying hu w]
   cases d <;> simp_all
  simp [loadVar, Sem.run_bind, hagg, sizeOf, typeInfo, hq, hs, hl]
theorem wp_load_at {op : Oper} {a : Act} {w : World} {K : Act → World → Prop} {Q : Exit → Act → World → Prop} (ty : TypeId) (x : Operand) (ho : op.op = .load ty x)
  (p : Addr) (hx : a.eval x = .pointer (some p)) (cs : List Value) (d : TypeDesc) (hc : At w p cs)
  (hu : P.underlying ty = some d) (hd : d.isRow = true) (hi : (P.info? ty).map (·.size) = some cs.length)
  (h : K (a.put op.dst (.agg cs.toArray)) w) : op.wp P a w K Q := by
 unfold Oper.wp execOp
 simp only [ho, hx, Instr.loadAt, Instr.sureAddr, Sem.run_bind, Sem.run_pure, Result.andThen_ok, run_loadVar_at w p ty cs d hc hu hd hi]
 exact h
theorem wpList_load_at {ops : Array Oper} {rest : List Oper} {op : Oper} {a : Act} {w : World} {Q : Exit → Act → World → Prop} (hgd : op.guard = none) (ty : TypeId) (x : Operand) (ho : op.op = .load ty x)
  (p : Addr) (hx : a.eval x = .pointer (some p)) (cs : List Value) (d : TypeDesc) (hc : At w p cs)
  (hu : P.underlying ty = some d) (hd : d.isRow = true) (hi : (P.info? ty).map (·.size) = some cs.length)
  (h : wpList P ops Q rest (a.put op.dst (.agg cs.toArray)) w) : wpList P ops Q (op :: rest) a w :=
 wpList_plain hgd fun _ hK => wp_load_at ty x ho p hx cs d hc hu hd hi (hK _ _ h)
end Go.Proofs.YtbpgkkoeehopjaaGreat.held
