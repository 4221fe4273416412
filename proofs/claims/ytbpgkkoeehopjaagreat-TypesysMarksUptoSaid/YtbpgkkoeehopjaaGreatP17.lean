/- TypesysMarks: a reference fits itself just if its name is a type; lists fit as their items do; marks of non-null count at the right alone; Item and Bare take off what was laid on. Of sources and texts of at most 1048576 letters and marks. -/
import Derived.Test.YtbpgkkoeehopjaaGreatP1
import Derived.Test.YtbpgkkoeehopjaaGreatP5
import Derived.Test.YtbpgkkoeehopjaaGreatP11
import Derived.Test.YtbpgkkoeehopjaaGreatP16
import Derived.Test.YtbpgkkoeehopjaaGreatRows
import Derived.ChangeArms
import Derived.ProofKit
import Derived.OpenShut
import Derived.Deep.Matrix
import Derived.SizedLaws
import Derived.WalkKit
import Derived.JoinedCond
set_option linter.unusedVariables false
set_option linter.unusedSimpArgs false
namespace Go.Proofs.YtbpgkkoeehopjaaGreat.hp
open Go.RowKit Go.Proofs.YtbpgkkoeehopjaaGreat.words Go.Proofs.YtbpgkkoeehopjaaGreat.enc Go.Proofs.YtbpgkkoeehopjaaGreat.tree Go.Proofs.YtbpgkkoeehopjaaGreat.gram Go.Proofs.YtbpgkkoeehopjaaGreat.lex Go.Proofs.YtbpgkkoeehopjaaGreat.rd Go.Proofs.YtbpgkkoeehopjaaGreat.dec Go.Proofs.YtbpgkkoeehopjaaGreat.dat Go.Proofs.YtbpgkkoeehopjaaGreat.held Go.Proofs.YtbpgkkoeehopjaaGreat.ty
set_option maxRecDepth 100000
set_option maxHeartbeats 40000000
attribute [local go_sem ↓] Go.wp_at_zero Go.wp_at_succ
section
theorem at_bool {w : World} {B : Nat} {A : Option Addr} {l : List Bool} {k : Nat} {m : Bool} (hr : Rd w B A (l.map Value.bool)) (hm : l[k]? = some m) : ∃ ad, A = some ad ∧ w.cell? (ad.add k) = some (.bool m) := by
 have hu : (l.map Value.bool)[k]? = some (.bool m) := by rw [List.getElem?_map, hm]; rfl
 obtain ⟨ad, e, _, hc⟩ := hr (by rintro h0; rw [h0] at hu; simp at hu)
 exact ⟨ad, e, hc k _ hu⟩
theorem wrapped_any (A : Option Addr) (n c B : Nat) (l : List Bool) (w : World) (hr : Rd w B A (l.map Value.bool)) (hn : l.length = n) (h63 : n ≤ 4000000) :
  Calls Tryz.prog 48 #[.slice A n c] w fun e w' => e = .returned (.string (str (wrapD l))) ∧ w' = w := by
 obtain ⟨r, hrr⟩ : ∃ r, wrapD l = r := ⟨_, rfl⟩
 rw [hrr]
 have HR : Hid (l.foldl wrapStep [] = r) := hrr
 have HN := hide hn
 clear hn hrr
 have he0 : (⟨#[]⟩ : ByteArray) = str [] := rfl
 go_enter Tryz.func48, Tryz.ntmps48
 go_wp2_with fail
 go_loopw [3, 8] (fun sv i wr => ∃ (k : Nat) (s : Txt), k ≤ n ∧ i = .int .i64 k ∧ sv = .string (str s) ∧ s.length = k ∧ Hid ((l.take k).foldl wrapStep [] = s) ∧ wr = w) (fun _ i _ => n - (intOf i).toNat)
 case atStart => exact ⟨0, [], Nat.zero_le _, rfl, by rw [← he0], rfl, rfl, rfl⟩
 case round =>
  obtain ⟨k, s, hk, rfl, rfl, hsl, hs, rfl⟩ := hrel
  by_cases hlt : k < n
  · have hkI : (k : Int) < (n : Int) := by omega
    obtain ⟨m, hm⟩ : ∃ m, l[k]? = some m := ⟨_, List.getElem?_eq_getElem (by rw [HN.out]; exact hlt)⟩
    obtain ⟨ad, rfl, hc⟩ := at_bool hr hm
    have hnx : (l.take (k + 1)).foldl wrapStep [] = wrapStep s m := by rw [fold_next hm, hs.out]
    have hsz := str_size s
    have p33 := hide (str_push s 33)
    have p93 := hide (str_push s 93)
    clear hm hs
    cases m with
    | false =>
     have HX : Hid ((l.take (k + 1)).foldl wrapStep [] = s ++ [93]) := by show _ = _; rw [hnx]; rfl
     clear hnx
     go_wp2_with fail
     go_roundw
     case rel => exact ⟨k + 1, s ++ [93], by omega, by go_num, by rw [p93.out], by simp; omega, HX, trivial⟩
     case measure => simp [intOf]; omega
    | true =>
     rcases List.eq_nil_or_concat s with rfl | ⟨s', b, rfl⟩
     · have HX : Hid ((l.take (k + 1)).foldl wrapStep [] = [] ++ [33]) := by show _ = _; rw [hnx]; rfl
       have e0 : ((str []).toList == []) = true := by kernel_rfl
       clear hnx
       go_wp2_with fail
       go_roundw
       case rel => exact ⟨k + 1, [] ++ [33], by omega, by go_num, by rw [p33.out], by simp at hsl ⊢; omega, HX, trivial⟩
       case measure => simp [intOf]; omega
     · rw [List.concat_eq_append] at *
       have e00 : ((str (s' ++ [b])).toList == (str []).toList) = false := by rw [str_toList]; exact decide_eq_false (by simp)
       have e0 : ((str (s' ++ [b])).toList == []) = false := by
        have h := str_toList (s' ++ [b]) []
        rw [show (str []).toList = [] by kernel_rfl] at h
        rw [h]; exact decide_eq_false (by simp)
       have hks : s'.length < (str (s' ++ [b])).size := by rw [hsz]; simp
       have hl0 : s'.length < (s' ++ [b]).length := by simp
       have hg0 : (s' ++ [b])[s'.length]'hl0 = b := by simp
       have hg : (str (s' ++ [b]))[s'.length]'hks = b := (str_get (l := s' ++ [b]) hl0 hks).trans hg0
       simp only [List.length_append, List.length_singleton] at hsl hsz
       subst hsl
       rw [add_succ] at hc
       by_cases hb : b = 93
       · subst hb
         have HX : Hid ((l.take (s'.length + 1 + 1)).foldl wrapStep [] = (s' ++ [93]) ++ [33]) := by show _ = _; rw [hnx]; unfold wrapStep; rw [if_pos ⟨rfl, .inr (by rw [lastB_snoc]; rfl)⟩]
         clear hnx
         go_wp2_with fail
         go_roundw
         case rel => exact ⟨s'.length + 1 + 1, (s' ++ [93]) ++ [33], by omega, by go_num, by rw [p33.out], by simp, HX, trivial⟩
         case measure => simp [intOf]; omega
       · have hbn : ((b.toNat : Int) == 93) = false := by
          rw [beq_eq_false_iff_ne]
          intro h
          exact hb (UInt8.toNat_inj.1 (show b.toNat = (93 : UInt8).toNat by have : (93 : UInt8).toNat = 93 := rfl; omega))
         have HX : Hid ((l.take (s'.length + 1 + 1)).foldl wrapStep [] = (s' ++ [b]) ++ [93]) := by
          show _ = _; rw [hnx]; unfold wrapStep
          rw [if_neg]
          rintro ⟨_, h | h⟩
          · simp at h
          · rw [lastB_snoc] at h
            rw [beq_eq_false_iff_ne] at hbn
            exact hbn h
         clear hnx hb
         go_wp2_with fail
         go_roundw
         case rel => exact ⟨s'.length + 1 + 1, (s' ++ [b]) ++ [93], by omega, by go_num, by rw [p93.out], by simp, HX, trivial⟩
         case measure => simp [intOf]; omega
  · have hkI : ¬ (k : Int) < (n : Int) := by omega
    obtain rfl : n = k := by omega
    have h1 := hs.out
    rw [List.take_of_length_le (by rw [HN.out]; exact Nat.le_refl _), HR.out] at h1
    subst h1
    clear hs
    go_wp2_with fail
    go_ret
    exact ⟨rfl, rfl⟩
theorem Marks_walk (src a b : Txt) (ms mo : List Bool) (A1 A2 : Option Addr) (n1 n2 c1 c2 : Nat) (w : World) (hsrc : src.length ≤ 1048576) (h1 : ms.length = n1) (h2 : mo.length = n2) (hn1 : n1 ≤ 1048576) (hn2 : n2 ≤ 1048576)
  (hr1 : Rd w w.heap.size A1 (ms.map Value.bool)) (hr2 : Rd w w.heap.size A2 (mo.map Value.bool)) :
  Calls Tryz.prog 10 #[.string (str src), .string (str a), .string (str b), .slice A1 n1 c1, .slice A2 n2 c2] w fun e w' => e = .returned (.bool true) ∧ Below w.heap.size w w' := by
 have H := Hp.start w
 have hN := read_N src (by omega)
 have hrd := fun {w1 K M} (H : Hp w w1 K M) => read_any H src (by omega)
 obtain ⟨defs, hdefs⟩ : ∃ d, readD src = d := ⟨_, rfl⟩
 rw [hdefs] at hN hrd
 clear hdefs
 have hW := buildD_W defs (by omega)
 have hw1 := fun {w1 K M} (H : Hp w w1 K M) => wrapped_any A1 n1 c1 w.heap.size ms w1 (hr1.below' H.bel (Nat.le_refl _)) h1 (by omega)
 have hw2 := fun {w1 K M} (H : Hp w w1 K M) => wrapped_any A2 n2 c2 w.heap.size mo w1 (hr2.below' H.bel (Nat.le_refl _)) h2 (by omega)
 have hl1 : (wrapD ms).length = n1 := by unfold wrapD; rw [wrap_len]; simpa using h1
 have hl2 : (wrapD mo).length = n2 := by unfold wrapD; rw [wrap_len]; simpa using h2
 have hself := wrap_fits (buildD defs) a ms
 obtain ⟨x, hx⟩ : ∃ x, wrapD ms = x := ⟨_, rfl⟩
 obtain ⟨y, hy⟩ : ∃ y, wrapD mo = y := ⟨_, rfl⟩
 rw [hx] at hw1 hl1 hself
 rw [hy] at hw2 hl2
 have hkk := types_kinds defs
 have ha1 : (lookD (typesOf defs) a).isSome = decide (kindOf (typesOf defs) a ≠ 0) := by rw [lookD_def, kind_nz hkk]
 obtain ⟨oa, hoa⟩ : ∃ o, decide (kindOf (typesOf defs) a ≠ 0) = o := ⟨_, rfl⟩
 rw [hoa] at ha1
 rw [within_self, buildD_types, hoa] at hself
 obtain ⟨f, hf⟩ : ∃ f, fitsD (buildD defs) a x b y = f := ⟨_, rfl⟩
 have hs1 := str_size x
 have hs2 := str_size y
 have hs3 := str_size (x ++ [93])
 have hs4 := str_size (y ++ [93])
 simp only [List.length_append, List.length_singleton] at hs3 hs4
 have p1 := hide (str_push x 93)
 have p2 := hide (str_push y 93)
 have p3 := hide (str_push (x ++ [93]) 33)
 have p4 := hide (str_push (y ++ [93]) 33)
 clear hkk hoa hx hy h1 h2 hr1 hr2
 go_enter Tryz.func10, Tryz.ntmps10
 go_upto_region 4 with (first | ((with_reducible refine (builds_hp _ _ _ _ H).mono ?_); clear H; rintro e w1 ⟨K1, rfl, hle1, H⟩) | ((with_reducible refine (hrd H).mono ?_); clear H; rintro e w2 ⟨K2, A3, c3, rfl, hle2, H, hd⟩) | ((with_reducible refine (Build_hp defs _ _ _ _ _ _ _ H rfl hd (by omega)).mono ?_); clear H; rintro e w3 ⟨K3, g, rfl, hle3, H, hT⟩))
 clear hrd hd hle1 hle2 hle3
 have hv := hT.tp
 clear hT
 obtain ⟨v, hve⟩ : ∃ v, Value.pointer (some ⟨g, 0, none⟩) = v := ⟨_, rfl⟩
 rw [hve] at hv ⊢
 clear hve
 have hTa := fun {w1 K M} (H : Hp w w1 K M) hv => Type_k v a (buildD defs) (K := K) (M := M) H hv hW ha1 rfl
 have hF1 := fun {w1 K M} (H : Hp w w1 K M) hv => Fits_t v a x a x (buildD defs) w w1 K M H hv hW (by omega) (by omega)
 have hF2 := fun {w1 K M} (H : Hp w w1 K M) hv => Fits_t v a x b y (buildD defs) w w1 K M H hv hW (by omega) (by omega)
 have hF3 := fun {w1 K M} (H : Hp w w1 K M) hv => Fits_t v a (x ++ [93]) b (y ++ [93]) (buildD defs) w w1 K M H hv hW (by simp; omega) (by simp; omega)
 have hF4 := fun {w1 K M} (H : Hp w w1 K M) hv => Fits_t v a (x ++ [93] ++ [33]) b (y ++ [93] ++ [33]) (buildD defs) w w1 K M H hv hW (by simp; omega) (by simp; omega)
 have hF5 := fun {w1 K M} (H : Hp w w1 K M) hv => Fits_t v a (x ++ [93] ++ [33]) b (y ++ [93]) (buildD defs) w w1 K M H hv hW (by simp; omega) (by simp; omega)
 have hF6 := fun {w1 K M} (H : Hp w w1 K M) hv => Fits_t v a (x ++ [93]) b (y ++ [93] ++ [33]) (buildD defs) w w1 K M H hv hW (by simp; omega) (by simp; omega)
 rw [hself] at hF1
 rw [fits_both, fits_list] at hF4
 rw [fits_left, fits_list] at hF5
 rw [fits_list] at hF3
 rw [hf] at hF2 hF3 hF4 hF5
 rw [fits_right] at hF6
 have hI1 := fun {w1 K M} (H : Hp w w1 K M) => Item_hp a (x ++ [93] ++ [33]) w w1 K M H (by simp; omega)
 have hI2 := fun {w1 K M} (H : Hp w w1 K M) => Item_hp a (x ++ [93]) w w1 K M H (by simp; omega)
 have hB1 := fun {w1 K M} (H : Hp w w1 K M) => Bare_hp a (x ++ [93] ++ [33]) w w1 K M H (by simp; omega)
 have hB2 := fun {w1 K M} (H : Hp w w1 K M) => Bare_hp a (x ++ [93]) w w1 K M H (by simp; omega)
 rw [item_bang] at hI1
 rw [item_list] at hI2
 rw [bare_bang] at hB1
 rw [bare_list] at hB2
 dsimp only [refB] at hI1 hI2 hB1 hB2
 clear hself hf ha1 hW hN
 have q1 := p1.out
 have q2 := p2.out
 have q3 := p3.out
 have q4 := p4.out
 clear p1 p2 p3 p4
 generalize x ++ [93] = x1 at q1 q3 hF3 hF4 hF5 hF6 hI1 hI2 hB1 hB2 hs3
 generalize y ++ [93] = y1 at q2 q4 hF3 hF4 hF5 hF6 hs4
 generalize x1 ++ [33] = x2 at q3 hF4 hF5 hI1 hB1
 generalize y1 ++ [33] = y2 at q4 hF4 hF6
 have p1 := hide q1
 have p2 := hide q2
 have p3 := hide q3
 have p4 := hide q4
 clear q1 q2 q3 q4
 go_upto_region 11 with (first | (refine oL H ?_) | ((with_reducible refine (hw1 H).mono ?_); rintro e w9 ⟨rfl, hw9⟩; subst w9) | ((with_reducible refine (hw2 H).mono ?_); rintro e w9 ⟨rfl, hw9⟩; subst w9) | ((with_reducible refine (hTa H hv).mono ?_); clear H hTa; rintro e w7 ⟨K7, cs7, rfl, hle7, H, hd7⟩; obtain ⟨B6, e6, B7, e7, B8, e8, B9, e9, B10, e10, B11, e11, B12, e12, B14, e14, hcs, -⟩ := def_cells hd7; obtain rfl : cs7 = #[_, _, _, _, _, _, _, _, _, _, _, _, _, _, _, _, _] := Array.toList_inj.1 hcs; clear hcs hd7; replace hv := hv.sat hle7; clear hle7) | ((with_reducible refine (hF1 H hv).mono ?_); clear H; rintro e w7 ⟨K7, rfl, hle7, H⟩; replace hv := hv.sat hle7; clear hle7) | ((with_reducible refine (hF2 H hv).mono ?_); clear H; rintro e w7 ⟨K7, rfl, hle7, H⟩; replace hv := hv.sat hle7; clear hle7) | ((with_reducible refine (hF3 H hv).mono ?_); clear H; rintro e w7 ⟨K7, rfl, hle7, H⟩; replace hv := hv.sat hle7; clear hle7) | ((with_reducible refine (hF4 H hv).mono ?_); clear H; rintro e w7 ⟨K7, rfl, hle7, H⟩; replace hv := hv.sat hle7; clear hle7) | ((with_reducible refine (hF5 H hv).mono ?_); clear H; rintro e w7 ⟨K7, rfl, hle7, H⟩; replace hv := hv.sat hle7; clear hle7) | ((with_reducible refine (hF6 H hv).mono ?_); clear H; rintro e w7 ⟨K7, rfl, hle7, H⟩; replace hv := hv.sat hle7; clear hle7) | ((with_reducible refine (hI1 H).mono ?_); clear H; rintro e w7 ⟨rfl, H⟩) | ((with_reducible refine (hI2 H).mono ?_); clear H; rintro e w7 ⟨rfl, H⟩) | ((with_reducible refine (hB1 H).mono ?_); clear H; rintro e w7 ⟨rfl, H⟩) | ((with_reducible refine (hB2 H).mono ?_); clear H; rintro e w7 ⟨rfl, H⟩) | (refine oP H ?_; clear H; intro w _ H))
 rw [p1.out] at H
 clear p1
 go_upto_region 12 with (first | (refine oL H ?_) | ((with_reducible refine (hw1 H).mono ?_); rintro e w9 ⟨rfl, hw9⟩; subst w9) | ((with_reducible refine (hw2 H).mono ?_); rintro e w9 ⟨rfl, hw9⟩; subst w9) | ((with_reducible refine (hTa H hv).mono ?_); clear H hTa; rintro e w7 ⟨K7, cs7, rfl, hle7, H, hd7⟩; obtain ⟨B6, e6, B7, e7, B8, e8, B9, e9, B10, e10, B11, e11, B12, e12, B14, e14, hcs, -⟩ := def_cells hd7; obtain rfl : cs7 = #[_, _, _, _, _, _, _, _, _, _, _, _, _, _, _, _, _] := Array.toList_inj.1 hcs; clear hcs hd7; replace hv := hv.sat hle7; clear hle7) | ((with_reducible refine (hF1 H hv).mono ?_); clear H; rintro e w7 ⟨K7, rfl, hle7, H⟩; replace hv := hv.sat hle7; clear hle7) | ((with_reducible refine (hF2 H hv).mono ?_); clear H; rintro e w7 ⟨K7, rfl, hle7, H⟩; replace hv := hv.sat hle7; clear hle7) | ((with_reducible refine (hF3 H hv).mono ?_); clear H; rintro e w7 ⟨K7, rfl, hle7, H⟩; replace hv := hv.sat hle7; clear hle7) | ((with_reducible refine (hF4 H hv).mono ?_); clear H; rintro e w7 ⟨K7, rfl, hle7, H⟩; replace hv := hv.sat hle7; clear hle7) | ((with_reducible refine (hF5 H hv).mono ?_); clear H; rintro e w7 ⟨K7, rfl, hle7, H⟩; replace hv := hv.sat hle7; clear hle7) | ((with_reducible refine (hF6 H hv).mono ?_); clear H; rintro e w7 ⟨K7, rfl, hle7, H⟩; replace hv := hv.sat hle7; clear hle7) | ((with_reducible refine (hI1 H).mono ?_); clear H; rintro e w7 ⟨rfl, H⟩) | ((with_reducible refine (hI2 H).mono ?_); clear H; rintro e w7 ⟨rfl, H⟩) | ((with_reducible refine (hB1 H).mono ?_); clear H; rintro e w7 ⟨rfl, H⟩) | ((with_reducible refine (hB2 H).mono ?_); clear H; rintro e w7 ⟨rfl, H⟩) | (refine oP H ?_; clear H; intro w _ H))
 rw [p2.out] at H
 clear p2
 go_upto_region 13 with (first | (refine oL H ?_) | ((with_reducible refine (hw1 H).mono ?_); rintro e w9 ⟨rfl, hw9⟩; subst w9) | ((with_reducible refine (hw2 H).mono ?_); rintro e w9 ⟨rfl, hw9⟩; subst w9) | ((with_reducible refine (hTa H hv).mono ?_); clear H hTa; rintro e w7 ⟨K7, cs7, rfl, hle7, H, hd7⟩; obtain ⟨B6, e6, B7, e7, B8, e8, B9, e9, B10, e10, B11, e11, B12, e12, B14, e14, hcs, -⟩ := def_cells hd7; obtain rfl : cs7 = #[_, _, _, _, _, _, _, _, _, _, _, _, _, _, _, _, _] := Array.toList_inj.1 hcs; clear hcs hd7; replace hv := hv.sat hle7; clear hle7) | ((with_reducible refine (hF1 H hv).mono ?_); clear H; rintro e w7 ⟨K7, rfl, hle7, H⟩; replace hv := hv.sat hle7; clear hle7) | ((with_reducible refine (hF2 H hv).mono ?_); clear H; rintro e w7 ⟨K7, rfl, hle7, H⟩; replace hv := hv.sat hle7; clear hle7) | ((with_reducible refine (hF3 H hv).mono ?_); clear H; rintro e w7 ⟨K7, rfl, hle7, H⟩; replace hv := hv.sat hle7; clear hle7) | ((with_reducible refine (hF4 H hv).mono ?_); clear H; rintro e w7 ⟨K7, rfl, hle7, H⟩; replace hv := hv.sat hle7; clear hle7) | ((with_reducible refine (hF5 H hv).mono ?_); clear H; rintro e w7 ⟨K7, rfl, hle7, H⟩; replace hv := hv.sat hle7; clear hle7) | ((with_reducible refine (hF6 H hv).mono ?_); clear H; rintro e w7 ⟨K7, rfl, hle7, H⟩; replace hv := hv.sat hle7; clear hle7) | ((with_reducible refine (hI1 H).mono ?_); clear H; rintro e w7 ⟨rfl, H⟩) | ((with_reducible refine (hI2 H).mono ?_); clear H; rintro e w7 ⟨rfl, H⟩) | ((with_reducible refine (hB1 H).mono ?_); clear H; rintro e w7 ⟨rfl, H⟩) | ((with_reducible refine (hB2 H).mono ?_); clear H; rintro e w7 ⟨rfl, H⟩) | (refine oP H ?_; clear H; intro w _ H))
 rw [p3.out] at H
 clear p3
 go_upto_region 14 with (first | (refine oL H ?_) | ((with_reducible refine (hw1 H).mono ?_); rintro e w9 ⟨rfl, hw9⟩; subst w9) | ((with_reducible refine (hw2 H).mono ?_); rintro e w9 ⟨rfl, hw9⟩; subst w9) | ((with_reducible refine (hTa H hv).mono ?_); clear H hTa; rintro e w7 ⟨K7, cs7, rfl, hle7, H, hd7⟩; obtain ⟨B6, e6, B7, e7, B8, e8, B9, e9, B10, e10, B11, e11, B12, e12, B14, e14, hcs, -⟩ := def_cells hd7; obtain rfl : cs7 = #[_, _, _, _, _, _, _, _, _, _, _, _, _, _, _, _, _] := Array.toList_inj.1 hcs; clear hcs hd7; replace hv := hv.sat hle7; clear hle7) | ((with_reducible refine (hF1 H hv).mono ?_); clear H; rintro e w7 ⟨K7, rfl, hle7, H⟩; replace hv := hv.sat hle7; clear hle7) | ((with_reducible refine (hF2 H hv).mono ?_); clear H; rintro e w7 ⟨K7, rfl, hle7, H⟩; replace hv := hv.sat hle7; clear hle7) | ((with_reducible refine (hF3 H hv).mono ?_); clear H; rintro e w7 ⟨K7, rfl, hle7, H⟩; replace hv := hv.sat hle7; clear hle7) | ((with_reducible refine (hF4 H hv).mono ?_); clear H; rintro e w7 ⟨K7, rfl, hle7, H⟩; replace hv := hv.sat hle7; clear hle7) | ((with_reducible refine (hF5 H hv).mono ?_); clear H; rintro e w7 ⟨K7, rfl, hle7, H⟩; replace hv := hv.sat hle7; clear hle7) | ((with_reducible refine (hF6 H hv).mono ?_); clear H; rintro e w7 ⟨K7, rfl, hle7, H⟩; replace hv := hv.sat hle7; clear hle7) | ((with_reducible refine (hI1 H).mono ?_); clear H; rintro e w7 ⟨rfl, H⟩) | ((with_reducible refine (hI2 H).mono ?_); clear H; rintro e w7 ⟨rfl, H⟩) | ((with_reducible refine (hB1 H).mono ?_); clear H; rintro e w7 ⟨rfl, H⟩) | ((with_reducible refine (hB2 H).mono ?_); clear H; rintro e w7 ⟨rfl, H⟩) | (refine oP H ?_; clear H; intro w _ H))
 rw [p4.out] at H
 clear p4 hF1 hF2 hw1 hw2
 go_upto_region 16 with (first | (refine oL H ?_) | ((with_reducible refine (hw1 H).mono ?_); rintro e w9 ⟨rfl, hw9⟩; subst w9) | ((with_reducible refine (hw2 H).mono ?_); rintro e w9 ⟨rfl, hw9⟩; subst w9) | ((with_reducible refine (hTa H hv).mono ?_); clear H hTa; rintro e w7 ⟨K7, cs7, rfl, hle7, H, hd7⟩; obtain ⟨B6, e6, B7, e7, B8, e8, B9, e9, B10, e10, B11, e11, B12, e12, B14, e14, hcs, -⟩ := def_cells hd7; obtain rfl : cs7 = #[_, _, _, _, _, _, _, _, _, _, _, _, _, _, _, _, _] := Array.toList_inj.1 hcs; clear hcs hd7; replace hv := hv.sat hle7; clear hle7) | ((with_reducible refine (hF1 H hv).mono ?_); clear H; rintro e w7 ⟨K7, rfl, hle7, H⟩; replace hv := hv.sat hle7; clear hle7) | ((with_reducible refine (hF2 H hv).mono ?_); clear H; rintro e w7 ⟨K7, rfl, hle7, H⟩; replace hv := hv.sat hle7; clear hle7) | ((with_reducible refine (hF3 H hv).mono ?_); clear H; rintro e w7 ⟨K7, rfl, hle7, H⟩; replace hv := hv.sat hle7; clear hle7) | ((with_reducible refine (hF4 H hv).mono ?_); clear H; rintro e w7 ⟨K7, rfl, hle7, H⟩; replace hv := hv.sat hle7; clear hle7) | ((with_reducible refine (hF5 H hv).mono ?_); clear H; rintro e w7 ⟨K7, rfl, hle7, H⟩; replace hv := hv.sat hle7; clear hle7) | ((with_reducible refine (hF6 H hv).mono ?_); clear H; rintro e w7 ⟨K7, rfl, hle7, H⟩; replace hv := hv.sat hle7; clear hle7) | ((with_reducible refine (hI1 H).mono ?_); clear H; rintro e w7 ⟨rfl, H⟩) | ((with_reducible refine (hI2 H).mono ?_); clear H; rintro e w7 ⟨rfl, H⟩) | ((with_reducible refine (hB1 H).mono ?_); clear H; rintro e w7 ⟨rfl, H⟩) | ((with_reducible refine (hB2 H).mono ?_); clear H; rintro e w7 ⟨rfl, H⟩) | (refine oP H ?_; clear H; intro w _ H))
 clear hF3 hF4 hF5 hF6
 go_upto_region 20 with (first | (refine oL H ?_) | ((with_reducible refine (hw1 H).mono ?_); rintro e w9 ⟨rfl, hw9⟩; subst w9) | ((with_reducible refine (hw2 H).mono ?_); rintro e w9 ⟨rfl, hw9⟩; subst w9) | ((with_reducible refine (hTa H hv).mono ?_); clear H hTa; rintro e w7 ⟨K7, cs7, rfl, hle7, H, hd7⟩; obtain ⟨B6, e6, B7, e7, B8, e8, B9, e9, B10, e10, B11, e11, B12, e12, B14, e14, hcs, -⟩ := def_cells hd7; obtain rfl : cs7 = #[_, _, _, _, _, _, _, _, _, _, _, _, _, _, _, _, _] := Array.toList_inj.1 hcs; clear hcs hd7; replace hv := hv.sat hle7; clear hle7) | ((with_reducible refine (hF1 H hv).mono ?_); clear H; rintro e w7 ⟨K7, rfl, hle7, H⟩; replace hv := hv.sat hle7; clear hle7) | ((with_reducible refine (hF2 H hv).mono ?_); clear H; rintro e w7 ⟨K7, rfl, hle7, H⟩; replace hv := hv.sat hle7; clear hle7) | ((with_reducible refine (hF3 H hv).mono ?_); clear H; rintro e w7 ⟨K7, rfl, hle7, H⟩; replace hv := hv.sat hle7; clear hle7) | ((with_reducible refine (hF4 H hv).mono ?_); clear H; rintro e w7 ⟨K7, rfl, hle7, H⟩; replace hv := hv.sat hle7; clear hle7) | ((with_reducible refine (hF5 H hv).mono ?_); clear H; rintro e w7 ⟨K7, rfl, hle7, H⟩; replace hv := hv.sat hle7; clear hle7) | ((with_reducible refine (hF6 H hv).mono ?_); clear H; rintro e w7 ⟨K7, rfl, hle7, H⟩; replace hv := hv.sat hle7; clear hle7) | ((with_reducible refine (hI1 H).mono ?_); clear H; rintro e w7 ⟨rfl, H⟩) | ((with_reducible refine (hI2 H).mono ?_); clear H; rintro e w7 ⟨rfl, H⟩) | ((with_reducible refine (hB1 H).mono ?_); clear H; rintro e w7 ⟨rfl, H⟩) | ((with_reducible refine (hB2 H).mono ?_); clear H; rintro e w7 ⟨rfl, H⟩) | (refine oP H ?_; clear H; intro w _ H))
 go_wp2_with (first | (refine oL H ?_) | ((with_reducible refine (hw1 H).mono ?_); rintro e w9 ⟨rfl, hw9⟩; subst w9) | ((with_reducible refine (hw2 H).mono ?_); rintro e w9 ⟨rfl, hw9⟩; subst w9) | ((with_reducible refine (hTa H hv).mono ?_); clear H hTa; rintro e w7 ⟨K7, cs7, rfl, hle7, H, hd7⟩; obtain ⟨B6, e6, B7, e7, B8, e8, B9, e9, B10, e10, B11, e11, B12, e12, B14, e14, hcs, -⟩ := def_cells hd7; obtain rfl : cs7 = #[_, _, _, _, _, _, _, _, _, _, _, _, _, _, _, _, _] := Array.toList_inj.1 hcs; clear hcs hd7; replace hv := hv.sat hle7; clear hle7) | ((with_reducible refine (hF1 H hv).mono ?_); clear H; rintro e w7 ⟨K7, rfl, hle7, H⟩; replace hv := hv.sat hle7; clear hle7) | ((with_reducible refine (hF2 H hv).mono ?_); clear H; rintro e w7 ⟨K7, rfl, hle7, H⟩; replace hv := hv.sat hle7; clear hle7) | ((with_reducible refine (hF3 H hv).mono ?_); clear H; rintro e w7 ⟨K7, rfl, hle7, H⟩; replace hv := hv.sat hle7; clear hle7) | ((with_reducible refine (hF4 H hv).mono ?_); clear H; rintro e w7 ⟨K7, rfl, hle7, H⟩; replace hv := hv.sat hle7; clear hle7) | ((with_reducible refine (hF5 H hv).mono ?_); clear H; rintro e w7 ⟨K7, rfl, hle7, H⟩; replace hv := hv.sat hle7; clear hle7) | ((with_reducible refine (hF6 H hv).mono ?_); clear H; rintro e w7 ⟨K7, rfl, hle7, H⟩; replace hv := hv.sat hle7; clear hle7) | ((with_reducible refine (hI1 H).mono ?_); clear H; rintro e w7 ⟨rfl, H⟩) | ((with_reducible refine (hI2 H).mono ?_); clear H; rintro e w7 ⟨rfl, H⟩) | ((with_reducible refine (hB1 H).mono ?_); clear H; rintro e w7 ⟨rfl, H⟩) | ((with_reducible refine (hB2 H).mono ?_); clear H; rintro e w7 ⟨rfl, H⟩) | (refine oP H ?_; clear H; intro w _ H))
 go_ret
 exact ⟨rfl, H.bel⟩
end
end Go.Proofs.YtbpgkkoeehopjaaGreat.hp
namespace Go.Proofs.YtbpgkkoeehopjaaGreat.opn
open Go.Proofs.YtbpgkkoeehopjaaGreat.words Go.Proofs.YtbpgkkoeehopjaaGreat.tree Go.Proofs.YtbpgkkoeehopjaaGreat.gram Go.Proofs.YtbpgkkoeehopjaaGreat.rd Go.Proofs.YtbpgkkoeehopjaaGreat.dat
set_option maxRecDepth 100000
section
variable {H : Type} {enc : TypeId × Value → H} {w : World} {sp : Nat → Bool} {held : Bool}
abbrev bulk (d : DataW H) : Nat := Rows.uptoBulk d
abbrev bulks (l : List (DataW H)) : Nat := Rows.uptoBulkAll l
theorem bulks_nil : bulks ([] : List (DataW H)) = 0 := by simp [bulks, Rows.uptoBulkAll]
theorem bulks_cons (d : DataW H) (l : List (DataW H)) : bulks (d :: l) = bulk d + bulks l := by simp [bulks, bulk, Rows.uptoBulkAll]
theorem bulks_app (a b : List (DataW H)) : bulks (a ++ b) = bulks a + bulks b := by
 induction a with
 | nil => simp [bulks_nil]
 | cons d l ih => rw [List.cons_append, bulks_cons, bulks_cons, ih]; omega
def Op (enc : TypeId × Value → H) (w : World) (sp : Nat → Bool) (held : Bool) (t : TypeId) {α : Type} (f : α → List Leaf) (N : α → Nat) (Q : α → Prop) (m : Nat) : Prop :=
 ∀ cs x, DataW.trod enc Tryz.prog w 0 sp held m t cs = some x → bulk x.1 ≤ 1048576 → ∃ d : α, ReadsL w (Lo w.heap.size) (f d) cs ∧ N d ≤ bulk x.1 ∧ Q d
theorem c_bool : Tryz.prog.cellsOf 4 = 1 := by kernel_rfl
theorem cells_get {a : Addr} {n : Nat} {cs : List Value} (h : w.cells? 0 a n = some cs) : cs.length = n ∧ ∀ j u, cs[j]? = some u → w.cell? (a.add j) = some u := by
 unfold World.cells? at h
 rw [if_pos (Nat.zero_le _)] at h
 refine ⟨by simpa using mapM_some_length h, fun j u hj => ?_⟩
 have hlt : j < cs.length := (List.getElem?_eq_some_iff.1 hj).1
 have hl : cs.length = n := by simpa using mapM_some_length h
 have := mapM_some_get h j j (by rw [List.getElem?_range (by omega)])
 rw [this]; exact hj
theorem o_list {t e : TypeId} {α : Type} {f : α → List Leaf} {N : α → Nat} {Q : α → Prop} {k m : Nat} (ht : Tryz.prog.underlying t = some (.slice e)) (hc : Tryz.prog.cellsOf e = k) (hk : 0 < k) (hf : ∀ d, (f d).length = k) (h : ∀ n, n < m → Op enc w sp held e f N Q n)
  {c : Value} {y : DataW H × List MemPlace} (hy : DataW.trod enc Tryz.prog w 0 sp held m t [c] = some y) (hb : bulk y.1 ≤ 1048576) :
  ∃ l : List α, Reads w (Lo w.heap.size) (.list l.length (l.flatMap f)) c ∧ sumN N l + 1 ≤ bulk y.1 ∧ ∀ d ∈ l, Q d := by
 rcases DataW.trod_slice ht hy with ⟨h0, hx⟩ | ⟨a, len, cap, elems, rest, n, rfl, h0, hx, _, hl, hm, hlen, hel, _⟩
 · injection h0 with h0 _
   refine ⟨[], by rw [h0]; exact nil_reads, ?_, fun d hd => by cases hd⟩
   rw [hx]; simp [bulk, Rows.uptoBulk, sumN]
 · injection h0 with h0 _
   have hbk : bulk y.1 = bulks (elems.map (·.1)) + bulks (rest.map (·.1)) + 1 := by rw [hx]; simp only [bulk, bulks, Rows.uptoBulk]
   have main : ∀ i, i ≤ len → ∃ (l : List α) (vs : List Value), l.length = i ∧ vs.length = i * k ∧ ReadsL w (Lo w.heap.size) (l.flatMap f) vs ∧ (∀ j u, vs[j]? = some u → w.cell? (a.add j) = some u) ∧ sumN N l ≤ bulks ((elems.take i).map (·.1)) ∧ ∀ d ∈ l, Q d := by
    intro i
    induction i with
    | zero => intro _; exact ⟨[], [], rfl, by simp, ReadsL.nil, fun j u hu => by simp at hu, by simp [sumN], fun d hd => by cases hd⟩
    | succ i ih =>
     intro hi
     obtain ⟨l, vs, h1, h2, h3, h4, h5, h6⟩ := ih (by omega)
     have hE := hel i (by omega)
     obtain ⟨z, hz⟩ : ∃ z, elems[i]? = some z := ⟨_, List.getElem?_eq_getElem (by omega)⟩
     rw [hz, hc] at hE
     simp only [Option.bind_eq_some_iff] at hE
     obtain ⟨cs, hcs, htr⟩ := hE
     obtain ⟨hcl, hcg⟩ := cells_get hcs
     have hzb : bulk z.1 ≤ bulks (elems.map (·.1)) := by
      have hs : elems = elems.take i ++ z :: elems.drop (i + 1) := by
       obtain ⟨hlt, rfl⟩ := List.getElem?_eq_some_iff.1 hz
       simp
      rw [hs, List.map_append, List.map_cons, bulks_app, bulks_cons]
      omega
     obtain ⟨d, g1, g2, g3⟩ := h n (Nat.lt_succ_self _) cs z htr (by omega)
     have htk : elems.take (i + 1) = elems.take i ++ [z] := by rw [List.take_add_one, hz]; rfl
     refine ⟨l ++ [d], vs ++ cs, by simp [h1], by rw [List.length_append, h2, hcl, Nat.succ_mul], ?_, ?_, ?_, ?_⟩
     · rw [List.flatMap_append]
       have e1 : [d].flatMap f = f d := by simp
       rw [e1]
       exact h3.app g1
     · intro j u hu
       rcases Nat.lt_or_ge j vs.length with hj | hj
       · rw [List.getElem?_append_left hj] at hu; exact h4 j u hu
       · rw [List.getElem?_append_right hj] at hu
         have := hcg _ u hu
         rw [add_add, h2] at this
         have e : i * k + (j - i * k) = j := by omega
         rw [e] at this
         exact this
     · rw [htk, List.map_append, bulks_app, sum_app]
       have e2 : bulks ([z].map (·.1)) = bulk z.1 := by rw [List.map_cons, List.map_nil, bulks_cons, bulks_nil]; omega
       have e3 : sumN N [d] = N d := by simp [sumN]
       rw [e2, e3]; omega
     · intro x hx
       rcases List.mem_append.1 hx with hx | hx
       · exact h6 x hx
       · rw [List.mem_singleton.1 hx]; exact g3
   obtain ⟨l, vs, h1, h2, h3, h4, h5, h6⟩ := main len (Nat.le_refl _)
   refine ⟨l, ?_, ?_, h6⟩
   · rw [h0, h1]
     refine list_reads hl hm h3 (fun hne => ⟨a, rfl, ?_, h4⟩)
     obtain ⟨u, r, hvs⟩ := List.exists_cons_of_ne_nil hne
     have hcell := h4 0 u (by rw [hvs]; rfl)
     have hblk := World.block_lt_of_cell? _ _ hcell
     rw [add_block] at hblk
     exact hblk
   · rw [List.take_of_length_le (by omega)] at h5
     omega
end
end Go.Proofs.YtbpgkkoeehopjaaGreat.opn
namespace Go.Proofs.YtbpgkkoeehopjaaGreat.opn
open Go.Proofs.YtbpgkkoeehopjaaGreat.words Go.Proofs.YtbpgkkoeehopjaaGreat.tree Go.Proofs.YtbpgkkoeehopjaaGreat.gram Go.Proofs.YtbpgkkoeehopjaaGreat.rd Go.Proofs.YtbpgkkoeehopjaaGreat.dat
section
variable {H : Type} {enc : TypeId × Value → H} {w : World} {sp : Nat → Bool} {held : Bool}
theorem op_bool (n : Nat) : Op enc w sp held 4 (fun b : Bool => [Leaf.lit (.bool b)]) (fun _ => 1) (fun _ => True) n := by
 intro cs x h hb
 obtain ⟨b, hc, hx⟩ := DataW.trod_bool Tryz.underlying4 h
 subst hc
 refine ⟨b, ReadsL.cons (lit_reads rfl) ReadsL.nil, ?_, trivial⟩
 rcases x with ⟨x, ps⟩
 cases x with
 | lit l => cases l <;> simp [bulk, Rows.uptoBulk]
 | _ => simp [bulk, Rows.uptoBulk]
theorem sum_one {α : Type} (l : List α) : sumN (fun _ => 1) l = l.length := by
 induction l with
 | nil => rfl
 | cons a l ih => simp only [sumN, ih, List.length_cons]; omega
theorem bools_vs {S : Nat → Prop} : ∀ {l : List Bool} {us : List Value}, ReadsL w S (l.flatMap fun b => [Leaf.lit (.bool b)]) us → us = l.map Value.bool
 | [], us, h => by simpa [ReadsL] using h
 | b :: l, us, h => by
  rw [List.flatMap_cons, List.singleton_append, ReadsL] at h
  obtain ⟨v, r, rfl, h1, h2⟩ := h
  simp only [Reads] at h1
  rw [h1.1, bools_vs h2]
  rfl
theorem o_bools {m n c : Nat} {A : Option Addr} {y : DataW H × List MemPlace} (hy : DataW.trod enc Tryz.prog w 0 sp held m 70 [.slice A n c] = some y) (hb : bulk y.1 ≤ 1048576) :
  ∃ l : List Bool, l.length = n ∧ n ≤ 1048576 ∧ Rd w w.heap.size A (l.map Value.bool) := by
 obtain ⟨l, hl, hN, _⟩ := o_list Tryz.underlying70 c_bool (by decide) (fun _ => rfl) (fun n _ => op_bool n) hy hb
 obtain ⟨A', c', us, he, _, _, hr, hs⟩ := reads_list hl
 injection he with e1 e2 e3
 subst e1 e3
 rw [sum_one] at hN
 refine ⟨l, e2.symm, by omega, ?_⟩
 rw [← bools_vs hr]
 intro hn
 obtain ⟨ad, e, h1, h2⟩ := hs hn
 exact ⟨ad, e, h1, h2⟩
end
end Go.Proofs.YtbpgkkoeehopjaaGreat.opn
namespace Go.Proofs.YtbpgkkoeehopjaaGreat.frame
open Go.ChangeShapes Go.WideShapes Go.ChangeAt Go.RowKit Go.Proofs.YtbpgkkoeehopjaaGreat.words
section
variable {H : Type} {enc : TypeId × Value → H} {P : Program}
theorem trodAll_below (hl : laidOutB P = true) {W W' : World} (hb : Below W.heap.size W W') :
  ∀ (ts : List TypeId) (vs : List Value) (ds : List (DataW H)) (ps : List MemPlace),
   (∀ t ∈ ts, P.readableRec t = true ∧ t < P.types.size) → DataW.TrodAll enc P W 0 (fun _ => true) true ts vs ds ps → (∀ x ∈ ps, x.block < W.heap.size) →
   DataW.TrodAll enc P W' 0 (fun b => decide (b < W.heap.size)) true ts vs ds ps
 | [], vs, ds, ps, _, h, _ => by obtain ⟨rfl, rfl, rfl⟩ := trodAll_nil h; exact trodAll_mk0
 | t :: ts, vs, ds, ps, hr, h, hlt => by
  obtain ⟨v, vs', d, ds', p, q, rfl, rfl, rfl, h0, h1⟩ := trodAll_cons h
  exact trodAll_cons_mk (Below.trod hl (hr t (by simp)).1 (hr t (by simp)).2 h0 hb (fun x hx => hlt x (by simp [hx])))
   (trodAll_below hl hb ts vs' ds' q (fun t ht => hr t (by simp [ht])) h1 (fun x hx => hlt x (by simp [hx])))
theorem law_post {f : Func} {s : ChangeSpec} {apart handsOn : Bool} {W W' : World} {args : Array Value} {ds gs : List (DataW H)} {before : List MemPlace} {bt : TypeId} (hs : s.vars = [])
  (hres : (s.fn H (ds ++ gs)).results = [.lit (.bool true)]) (hargs : (s.fn H (ds ++ gs)).args = ds) (hvars : (s.fn H (ds ++ gs)).vars = [])
  (hl : laidOutB P = true) (hr : ∀ t ∈ f.params.toList, P.readableRec t = true ∧ t < P.types.size) (hrt : f.resultTypes = #[bt]) (hbt : P.underlying bt = some .bool)
  (hW : DataW.Whole enc P f.params.toList s.vars apart W args.toList ds gs before) (hb : Below W.heap.size W W') :
  s.post enc P f apart true handsOn false W args (.bool true) W' := by
 have hlt : ∀ x ∈ before, x.block < W.heap.size := fun x hx => by simpa using hW.lt x hx
 have hW' := hW
 obtain ⟨p, q, hA, hV, rfl, _, _⟩ := hW
 rw [hs] at hV
 obtain ⟨rfl, rfl⟩ := trodVars_none hV
 refine ⟨ds, [], p ++ [], [], p, [], hW', ?_, ?_, ?_, hb.frame _, fun h => by cases h⟩
 · rw [hres, hrt]
   exact trodAll_cons_mk (shut_bool hbt _) trodAll_mk0
 · rw [hargs]
   exact trodAll_below hl hb _ _ _ _ hr hA (fun x hx => hlt x (by simpa using hx))
 · rw [hvars, hs]
   rfl
end
end Go.Proofs.YtbpgkkoeehopjaaGreat.frame
namespace Go.Proofs.YtbpgkkoeehopjaaGreat.typesysMarks
open Go.ChangeMaps (open_string shut_string)
open Go.ChangeShapes Go.WideShapes Go.ChangeAt Go.RowKit Go.Proofs.YtbpgkkoeehopjaaGreat.words Go.Proofs.YtbpgkkoeehopjaaGreat.tree Go.Proofs.YtbpgkkoeehopjaaGreat.gram Go.Proofs.YtbpgkkoeehopjaaGreat.rd Go.Proofs.YtbpgkkoeehopjaaGreat.dat Go.Proofs.YtbpgkkoeehopjaaGreat.opn Go.Proofs.YtbpgkkoeehopjaaGreat.hp Go.Proofs.YtbpgkkoeehopjaaGreat.frame
set_option maxRecDepth 100000
theorem own : ownKnob Tryz.prog.godebug = none := by kernel_rfl
theorem laidOut : laidOutB Tryz.prog = true := by kernel_rfl
theorem bound {H : Type} {l : List (DataW H)} (hk : Rows.uptoSmall H l = true) : Rows.uptoBulkAll l ≤ 1048576 := of_decide_eq_true hk
theorem lo_in {w : World} {t : Leaf} {v : Value} (h : Reads w (Lo w.heap.size) t v) : RD w t v := ⟨h.keep (fun b hb => ⟨Nat.zero_le _, hb⟩) (fun _ _ => rfl), Nat.le_refl _⟩
theorem contract (H : Type) (enc : TypeId × Value → H) (W : World) (base : Nat) (args : Array Value) (ds gs : List (DataW H)) (before : List MemPlace)
  (hval : ∀ (j : Nat) t v, Tryz.f10.params[j]? = some t → args[j]? = some v → Value.okWide Tryz.prog W .any base t v)
  (hW : DataW.Whole enc Tryz.prog Tryz.f10.params.toList Rows.typesysMarksSpec.vars false W args.toList ds gs before) (hk : Rows.uptoSmall H (ds ++ gs) = true) :
  Calls Tryz.prog 10 args W fun e W' => ∃ v, e = .returned v ∧ Rows.typesysMarksSpec.post enc Tryz.prog Tryz.f10 false true false false W args v W' := by
 have hW' := hW
 obtain ⟨p, q, hA0, hV, rfl, hfz, hnd⟩ := hW
 have hA : DataW.TrodAll enc Tryz.prog W 0 (fun _ => true) true Tryz.f10.params.toList args.toList ds p := hA0
 rw [Tryz.params10] at hA hval
 obtain ⟨v0, vs0, d0, ds0, p0, q0, hargs, rfl, rfl, h0, r0⟩ := trodAll_cons hA
 obtain ⟨v1, vs1, d1, ds1, p1, q1, rfl, rfl, rfl, h1, r1⟩ := trodAll_cons r0
 obtain ⟨v2, vs2, d2, ds2, p2, q2, rfl, rfl, rfl, h2, r2⟩ := trodAll_cons r1
 obtain ⟨v3, vs3, d3, ds3, p3, q3, rfl, rfl, rfl, h3, r3⟩ := trodAll_cons r2
 obtain ⟨v4, vs4, d4, ds4, p4, q4, rfl, rfl, rfl, h4, r4⟩ := trodAll_cons r3
 obtain ⟨rfl, rfl, rfl⟩ := trodAll_nil r4
 obtain rfl : args = #[v0, v1, v2, v3, v4] := by cases args; simp_all
 obtain ⟨rfl, rfl⟩ := trodVars_none hV
 have hbulk := bound hk
 simp only [List.append_nil, Rows.uptoBulkAll] at hbulk
 clear hk hA0
 simp only [List.append_nil] at hW'
 have fin : ∀ (e : Ending) (W' : World), (e = .returned (.bool true) ∧ Below W.heap.size W W') → ∃ v, e = .returned v ∧ Rows.typesysMarksSpec.post enc Tryz.prog Tryz.f10 false true false false W #[v0, v1, v2, v3, v4] v W' := fun e W' ⟨he, hb⟩ => by
  subst he
  refine ⟨_, rfl, law_post rfl rfl rfl rfl laidOut ?_ (by kernel_rfl) Tryz.underlying4 hW' hb⟩
  rw [Tryz.params10]
  intro t ht
  simp only [List.mem_cons, List.mem_nil_iff, or_false] at ht
  rcases ht with rfl | rfl | rfl | rfl | rfl
  all_goals exact ⟨by kernel_rfl, of_decide_eq_true (by kernel_rfl)⟩
 obtain ⟨s0, rfl, rfl, -, -⟩ := open_string Tryz.underlying9 (hval 0 9 v0 rfl rfl) h0
 obtain ⟨src, hx0⟩ : ∃ x : Txt, x = s0.data.toList := ⟨_, rfl⟩
 have es0 : s0 = str src := by rw [hx0]; exact (str_of s0).symm
 subst es0
 rw [str_data] at hbulk
 have hl_src : src.length ≤ 1048576 := by simp only [Rows.uptoBulk] at hbulk; omega
 obtain ⟨s1, rfl, rfl, -, -⟩ := open_string Tryz.underlying9 (hval 1 9 v1 rfl rfl) h1
 obtain ⟨a, hx1⟩ : ∃ x : Txt, x = s1.data.toList := ⟨_, rfl⟩
 have es1 : s1 = str a := by rw [hx1]; exact (str_of s1).symm
 subst es1
 rw [str_data] at hbulk
 have hl_a : a.length ≤ 1048576 := by simp only [Rows.uptoBulk] at hbulk; omega
 obtain ⟨s2, rfl, rfl, -, -⟩ := open_string Tryz.underlying9 (hval 2 9 v2 rfl rfl) h2
 obtain ⟨b, hx2⟩ : ∃ x : Txt, x = s2.data.toList := ⟨_, rfl⟩
 have es2 : s2 = str b := by rw [hx2]; exact (str_of s2).symm
 subst es2
 rw [str_data] at hbulk
 have hl_b : b.length ≤ 1048576 := by simp only [Rows.uptoBulk] at hbulk; omega
 obtain ⟨A_ms, n_ms, c_ms, rfl⟩ := okWide_slice Tryz.underlying70 (hval 3 70 v3 rfl rfl)
 obtain ⟨fu3, ht3⟩ := h3
 obtain ⟨ms, hl_ms, hn_ms, hr_ms⟩ := o_bools ht3 (by simp only [bulk]; omega)
 obtain ⟨A_mo, n_mo, c_mo, rfl⟩ := okWide_slice Tryz.underlying70 (hval 4 70 v4 rfl rfl)
 obtain ⟨fu4, ht4⟩ := h4
 obtain ⟨mo, hl_mo, hn_mo, hr_mo⟩ := o_bools ht4 (by simp only [bulk]; omega)
 exact (Marks_walk src a b ms mo A_ms A_mo n_ms n_mo c_ms c_mo W hl_src hl_ms hl_mo hn_ms hn_mo hr_ms hr_mo).mono fun e W' h => fin e W' h
set_option maxRecDepth 100000 in
theorem lifted (os : Os) (started : os.Started) (H : Type) (enc : TypeId × Value → H) (F : Stop.Interp) :
  ReturnsInHanded {} Tryz.checked os 10 .any ((Rows.OpenSpec.upto Rows.typesysMarksSpec).pre6 enc Tryz.prog Tryz.f10 Rows.typesysMarksUptoRow.domain false) (((Rows.OpenSpec.upto Rows.typesysMarksSpec).at F).post enc Tryz.prog Tryz.f10 false true false false) := by
 refine returnsInHanded_of_cond (C := Tryz.checked) (s := Rows.OpenSpec.upto Rows.typesysMarksSpec) (k := Rows.uptoSmall) rfl own started (by kernel_rfl) Tryz.func10
  (OpenSpec.witness (enc := enc) (C := Tryz.checked) (s := Rows.OpenSpec.upto Rows.typesysMarksSpec) (k := Rows.uptoSmall) rfl false ⟨#[], #[.string .empty, .string .empty, .string .empty, .slice none 0 0, .slice none 0 0], []⟩ 8 (by kernel_rfl) (by kernel_rfl) (by kernel_rfl)
    (x := ([.lit (.string []), .lit (.string []), .lit (.string []), .nil, .nil], [], [])) (by kernel_rfl) rfl (by kernel_rfl)) ?_
 intro W base args ds gs before hval hW _ hk _
 exact contract H enc W base args ds gs before hval hW hk
theorem and_tt {a b : Bool} (h : a = true) (h' : b = true) : (a && b) = true := by rw [h, h']; rfl
set_option maxHeartbeats 64000000 in
theorem closed : joinedFacts Tryz.prog 10 Tryz.f10 (Rows.OpenSpec.upto Rows.typesysMarksSpec).bare Rows.typesysMarksUptoRow = true := by
 unfold joinedFacts
 repeat' (with_reducible refine and_tt ?_ ?_)
 all_goals (as_aux_lemma => kernel_rfl)
theorem inst : Tryz.f10.isInstance Tryz.prog Rows.typesysMarksUptoRow.origin Rows.typesysMarksUptoRow.targs := of_decide_eq_true (by kernel_rfl)
theorem proved : Rows.TypesysMarksUptoSaid :=
 OpenClaim.holds_of_cond 10 Tryz.f10 rfl rfl rfl rfl rfl rfl rfl ⟨rfl, rfl, rfl, rfl, rfl⟩ rfl rfl rfl rfl rfl (by kernel_rfl) Tryz.func10 closed
  inst (by unfold Func.isWrapper; first | (rw [if_pos (by decide +kernel)]; kernel_rfl) | (rw [if_neg (by decide +kernel)]; exact ⟨rfl, rfl⟩))
  (fun os started H enc _ F => lifted os started H enc F)
#print axioms proved
end Go.Proofs.YtbpgkkoeehopjaaGreat.typesysMarks
