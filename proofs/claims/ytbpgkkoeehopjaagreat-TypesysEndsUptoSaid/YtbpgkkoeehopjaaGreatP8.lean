/- Part 8 of 18 of a proof: see the last part. -/
import Derived.Test.YtbpgkkoeehopjaaGreatP4
import Derived.Test.YtbpgkkoeehopjaaGreatP5
import Derived.Deep.LoopGhost
set_option linter.unusedVariables false
set_option linter.unusedSimpArgs false
namespace Go.Proofs.YtbpgkkoeehopjaaGreat.hp
open Go.RowKit Go.Proofs.YtbpgkkoeehopjaaGreat.words Go.Proofs.YtbpgkkoeehopjaaGreat.enc Go.Proofs.YtbpgkkoeehopjaaGreat.tree Go.Proofs.YtbpgkkoeehopjaaGreat.gram Go.Proofs.YtbpgkkoeehopjaaGreat.lex Go.Proofs.YtbpgkkoeehopjaaGreat.rd Go.Proofs.YtbpgkkoeehopjaaGreat.dec Go.Proofs.YtbpgkkoeehopjaaGreat.dat Go.Proofs.YtbpgkkoeehopjaaGreat.held
set_option maxRecDepth 100000
set_option maxHeartbeats 40000000
attribute [local go_sem ↓] Go.wp_at_zero Go.wp_at_succ
section
variable {w0 w K : World} {M : List Ent}
theorem one_c {α : Type} {f : α → List Leaf} {d : α} {vs : List Value} (h : RL K (f d) vs) : RL K ([d].flatMap f) vs := by rw [List.flatMap_singleton]; exact h
theorem el_k {α : Type} {f : α → List Leaf} {m n c k : Nat} {A : Option Addr} {l : List α} (hf : ∀ x, (f x).length = m) (h : RD K (.list n (l.flatMap f)) (.slice A n c)) (hk : k < l.length) (hm : 0 < m) :
 ∃ x ad us, l[k]? = some x ∧ A = some ad ∧ RL K (f x) us ∧ At K (ad.add (k * m)) us := by
 obtain ⟨ad, us, h1, h2, _, _, h5, h6⟩ := elem_at hf h (List.getElem?_eq_getElem hk) hm
 exact ⟨_, ad, us, List.getElem?_eq_getElem hk, h1, h2, h5, h6⟩
theorem wr_k {k n : Nat} (h : k < n) (hn : n ≤ 9000000) : (k : Int) < (n : Int) ∧ IntKind.i64.wrap ((k : Int) + 1) = k + 1 := ⟨by omega, IntWalk.i64_in _ (by omega)⟩
theorem copyLit_hp : ∀ (m : Nat) (d : LitD) (cs : Array Value) (w0 w K : World) (M : List Ent), litN d ≤ m → m ≤ 9000000 → RL K (litL d) cs.toList → Hp w0 w K M →
 Calls Tryz.prog 152 #[.agg cs] w fun e w' => ∃ K' cs', e = .returned (.agg cs') ∧ Sat K' K ∧ Hp w0 w' K' M ∧ RL K' (litL d) cs'.toList := by
 intro m
 induction m with
 | zero => intro d cs w0 w K M h; have := litN_pos d; omega
 | succ m ih =>
 intro d cs w0 w K M hn hm hd H
 obtain ⟨kind, text, block, items, fields, line, col⟩ := d
 obtain ⟨Ai, ci, Af, cf, hcs, hi, hf⟩ := lit_cells hd
 obtain rfl : cs = #[_, _, _, _, _, _, _] := Array.toList_inj.1 hcs
 have hni : items.length ≤ 9000000 := by have := lits_len items; simp only [litN] at hn; omega
 have hnf : fields.length ≤ 9000000 := by have := pairs_len fields; simp only [litN] at hn; omega
 have HI := hide (show ∀ x ∈ items, litN x ≤ m from fun x hx => by obtain ⟨k, hk⟩ := List.getElem?_of_mem hx; have := lits_at hk; simp only [litN] at hn; omega)
 have HF := hide (show ∀ x ∈ fields, pairN x ≤ m from fun x hx => by obtain ⟨k, hk⟩ := List.getElem?_of_mem hx; have := pairs_at hk; simp only [litN] at hn; omega)
 have HIH := hide ih
 rw [litsL_eq] at hi
 rw [pairsL_eq] at hf
 clear ih hcs hd hn
 obtain ⟨ni, hni2⟩ : ∃ x, items.length = x := ⟨_, rfl⟩
 obtain ⟨nf, hnf2⟩ : ∃ x, fields.length = x := ⟨_, rfl⟩
 rw [hni2] at hi hni ⊢
 rw [hnf2] at hf hnf ⊢
 have HNI := hide hni2
 have HNF := hide hnf2
 clear hni2 hnf2
 go_enter Tryz.func152, Tryz.ntmps152
 go_wp2_with (first | (refine oL H ?_) | (refine oA 1 H ?_; clear H; intro w gv H) | (refine oA 2 H ?_; clear H; intro w gz H) | (refine oA 3 H ?_; clear H; intro w gw H) | (refine oP H ?_; clear H; intro w _ H))
 replace H := H.nilRow 121 7
 go_loopw [14] (fun i wr => ∃ (K' : World) (k : Nat) (A' : Option Addr) (c' : Nat) (vs : List Value), k ≤ ni ∧ i = .int .i64 k ∧ Sat K' K ∧ RL K' (litsL (items.take k)) vs ∧ Hp w0 wr K' (.row 121 7 (.slice A' k c') k vs :: .box gw [.int .i64 kind, .string (str text), .bool block, .slice A' k c', .slice none 0 0, .int .i64 line, .int .i64 col] 121 :: .box gz [.int .i64 0, .string ⟨#[]⟩, .bool false, .slice none 0 0, .slice none 0 0, .int .i64 0, .int .i64 0] 121 :: .box gv [.int .i64 kind, .string (str text), .bool block, .slice Ai ni ci, .slice Af nf cf, .int .i64 line, .int .i64 col] 121 :: M)) (fun i _ => ni - (intOf i).toNat)
 case atStart => exact ⟨K, 0, none, 0, [], Nat.zero_le _, rfl, Sat.refl _, .nil (Nat.le_refl _), H⟩
 case round =>
  clear H
  obtain ⟨K', k, A', c', vs, hk, rfl, hle, hvs, H⟩ := hrel
  replace hi := hi.sat hle
  replace hf := hf.sat hle
  by_cases hlt : k < ni
  · obtain ⟨x, ad, us, hx, rfl, hxl, hat⟩ := el_k litL_len hi (by rw [HNI.out]; exact hlt) (by decide)
    obtain ⟨hkI, hwr⟩ := wr_k hlt hni
    have hxn := HI.out x (List.mem_of_getElem? hx)
    have HX := hide (take_next hx)
    obtain ⟨dk, dt, db, di, df, dln, dcl⟩ := x
    obtain ⟨Xi, xi, Xf, xf, rfl, -, -⟩ := lit_cells hxl
    have hc := fun {w M} (h : Hp w0 w K' M) => HIH.out _ #[_, _, _, _, _, _, _] w0 w K' M hxn (by omega) hxl h
    clear hx
    go_wp2_with (first | (refine oL H ?_) | (refine oA 5 H ?_; clear H; intro w gx H) | (refine oP H ?_; clear H; intro w _ H))
    refine rN [.box gw _ _, .box gx _ _] [7] H ?_; clear H; intro w H
    refine rT 0 H ?_; refine rT 1 H ?_; refine rT 2 H ?_
    refine rC 3 (hc H) ?_; clear H; rintro e w ⟨K2, cs, rfl, hle2, H, he⟩; obtain ⟨Bi, bi, Bf, bf, hcs, -, -⟩ := lit_cells he; obtain rfl : cs = #[_, _, _, _, _, _, _] := Array.toList_inj.1 hcs; clear hcs; refine rX H ?_
    refine rW 4 H ?_; clear H; intro w _ H
    refine rA 5 H ?_; clear H; intro A' c' w _ _ H; dsimp only [List.set] at H
    refine rT 6 H ?_
    refine rL 7 H ?_; clear H; intro w _ H
    refine rE ?_
    go_wp2_with (first | (refine oL H ?_) | (refine oP H ?_; clear H; intro w _ H))
    go_roundw
    case rel => exact ⟨K2, k + 1, _, _, _, by omega, by go_num, hle2.trans hle, by rw [HX.out, litsL_app]; exact (hvs.sat hle2).app (by simpa [litsL] using he), H.fin⟩
    case measure => simp [intOf]; omega
  · obtain rfl : k = ni := by omega
    rw [List.take_of_length_le (by rw [HNI.out]; exact Nat.le_refl _)] at hvs
    clear hlt hi
    go_wp2_with (first | (refine oL H ?_) | (refine oP H ?_; clear H; intro w _ H))
    replace H := H.nilRow 219 10
    go_loopw [29] (fun i wr => ∃ (K2 : World) (j : Nat) (A2 : Option Addr) (c2 : Nat) (vs2 : List Value), j ≤ nf ∧ i = .int .i64 j ∧ Sat K2 K' ∧ RL K2 (pairsL (fields.take j)) vs2 ∧ Hp w0 wr K2 (.row 219 10 (.slice A2 j c2) j vs2 :: .row 121 7 (.slice A' k c') k vs :: .box gw [.int .i64 kind, .string (str text), .bool block, .slice A' k c', .slice A2 j c2, .int .i64 line, .int .i64 col] 121 :: .box gz [.int .i64 0, .string ⟨#[]⟩, .bool false, .slice none 0 0, .slice none 0 0, .int .i64 0, .int .i64 0] 121 :: M)) (fun i _ => nf - (intOf i).toNat)
    case atStart => exact ⟨K', 0, none, 0, [], Nat.zero_le _, rfl, Sat.refl _, .nil (Nat.le_refl _), H.fin⟩
    case round =>
     clear H
     obtain ⟨K2, j, A2, c2, vs2, hj, rfl, hle2, hvs2, H⟩ := hrel
     replace hf := hf.sat hle2
     by_cases hlt : j < nf
     · obtain ⟨x, ad, us, hx, rfl, hxl, hat⟩ := el_k pairL_len hf (by rw [HNF.out]; exact hlt) (by decide)
       obtain ⟨hkI, hwr⟩ := wr_k hlt hnf
       have hxn := HF.out x (List.mem_of_getElem? hx)
       have HX := hide (take_next hx)
       obtain ⟨pn, ⟨dk, dt, db, di, df, dln, dcl⟩, pl, pc⟩ := x
       obtain ⟨ls, rfl, hvl⟩ := pair_cells hxl
       obtain ⟨Xi, xi, Xf, xf, rfl, -, -⟩ := lit_cells hvl
       have hc := fun {w M} (h : Hp w0 w K2 M) => HIH.out _ #[_, _, _, _, _, _, _] w0 w K2 M (by simp only [pairN] at hxn; omega) (by omega) hvl h
       simp only [List.cons_append, List.nil_append] at hat
       clear hx hxl
       go_wp2_with (first | (refine oL H ?_) | (refine oA 7 H ?_; clear H; intro w gx H) | (refine oP H ?_; clear H; intro w _ H))
       refine rN [.box gw _ _, .box gx _ _] [13] H ?_; clear H; intro w H
       refine rT 0 H ?_; refine rT 1 H ?_; refine rT 2 H ?_; refine rT 3 H ?_; refine rT 4 H ?_; refine rT 5 H ?_; refine rT 7 H ?_; refine rT 8 H ?_
       refine rC 6 (hc H) ?_; clear H; rintro e w ⟨K3, cs, rfl, hle3, H, he⟩; obtain ⟨Bi, bi, Bf, bf, hcs, -, -⟩ := lit_cells he; obtain rfl : cs = #[_, _, _, _, _, _, _] := Array.toList_inj.1 hcs; clear hcs; refine rX H ?_
       refine rT 9 H ?_
       refine rW 10 H ?_; clear H; intro w _ H
       refine rA 11 H ?_; clear H; intro A2 c2 w _ _ H; dsimp only [List.set] at H
       refine rT 12 H ?_
       refine rL 13 H ?_; clear H; intro w _ H
       refine rE ?_
       have hpe : RL K3 (pairL (.mk pn (.mk dk dt db di df dln dcl) pl pc)) [.string (str pn), .int .i64 dk, .string (str dt), .bool db, .slice Bi di.length bi, .slice Bf df.length bf, .int .i64 dln, .int .i64 dcl, .int .i64 pl, .int .i64 pc] := DatL.lit (DatL.app he (DatL.lit (DatL.lit (DatL.nil he.le))))
       go_wp2_with (first | (refine oL H ?_) | (refine oP H ?_; clear H; intro w _ H))
       go_roundw
       case rel => exact ⟨K3, j + 1, _, _, _, by omega, by go_num, hle3.trans hle2, by rw [HX.out, pairsL_app]; exact (hvs2.sat hle3).app (by simpa [pairsL] using hpe), H.fin⟩
       case measure => simp [intOf]; omega
     · obtain rfl : j = nf := by omega
       rw [List.take_of_length_le (by rw [HNF.out]; exact Nat.le_refl _)] at hvs2
       go_wp2_with (first | (refine oL H ?_) | (refine oP H ?_; clear H; intro w _ H))
       refine oB H ?_
       replace H : Hp _ _ _ (.row 219 10 _ _ _ :: .row 121 7 _ _ _ :: M) := H.fin
       obtain ⟨K3, hle3, H, hd2⟩ := H.freezeRow hvs2
       obtain ⟨K4, hle4, H, hd1⟩ := H.freezeRow (hvs.sat (hle3.trans hle2))
       refine ⟨K4, _, rfl, hle4.trans (hle3.trans (hle2.trans hle)), H, cells_lit ?_ ?_⟩
       · rw [HNI.out]; exact hd1
       · rw [HNF.out]; exact hd2.sat hle4
end
section
variable {w0 w K : World} {M : List Ent}
theorem copyDirs_row {l : List DirD} {A : Option Addr} {c : Nat} (hm : sumN dirN l ≤ 9000000) (hd : RD K (.list l.length (dirsL l)) (.slice A l.length c)) (H : Hp w0 w K M) :
 Calls Tryz.prog 109 #[.slice A l.length c] w fun e w' => ∃ K' A' c' vs, e = .returned (.slice A' l.length c') ∧ Sat K' K ∧ RL K' (dirsL l) vs ∧ Hp w0 w' K' (.row 181 4 (.slice A' l.length c') l.length vs :: M) := by
 have hn := Nat.le_trans (sum_len dirN_pos l) hm
 have HX := hide (show ∀ x ∈ l, dirN x ≤ 9000000 from fun x hx => by obtain ⟨k, hk⟩ := List.getElem?_of_mem hx; have := sum_at (f := dirN) hk; omega)
 obtain ⟨n, hn2⟩ : ∃ x, l.length = x := ⟨_, rfl⟩
 rw [hn2] at hd hn ⊢
 have HN := hide hn2
 clear hn2 hm
 go_enter Tryz.func109, Tryz.ntmps109
 go_wp2_with fail
 replace H := H.nilRow 181 4
 go_loopw [3, 11] (fun v i wr => ∃ (K' : World) (k : Nat) (A' : Option Addr) (c' : Nat) (vs : List Value), k ≤ n ∧ i = .int .i64 k ∧ v = .slice A' k c' ∧ Sat K' K ∧ RL K' (dirsL (l.take k)) vs ∧ Hp w0 wr K' (.row 181 4 (.slice A' k c') k vs :: M)) (fun _ i _ => n - (intOf i).toNat)
 case atStart => exact ⟨K, 0, none, 0, [], Nat.zero_le _, rfl, rfl, Sat.refl _, .nil (Nat.le_refl _), H⟩
 case round =>
  clear H
  obtain ⟨K', k, A', c', vs, hk, rfl, rfl, hle, hvs, H⟩ := hrel
  replace hd := hd.sat hle
  by_cases hlt : k < n
  · obtain ⟨x, ad, us, hx, rfl, hxl, hat⟩ := el_k (m := 4) (f := dirL) (fun _ => rfl) hd (by rw [HN.out]; exact hlt) (by decide)
    obtain ⟨hkI, hwr⟩ := wr_k hlt hn
    have hxn := HX.out x (List.mem_of_getElem? hx)
    have HT := hide (take_next hx)
    obtain ⟨dn, args, dl, dc⟩ := x
    obtain ⟨Aa, ca, rfl, ha⟩ := dir_cells hxl
    simp only [dirN] at hxn
    have hna : args.length ≤ 9000000 := by have := pairs_len args; omega
    have HF := hide (show ∀ x ∈ args, pairN x ≤ 9000000 from fun x hx => by obtain ⟨k, hk⟩ := List.getElem?_of_mem hx; have := pairs_at hk; omega)
    dsimp only at ha hat
    rw [pairsL_eq] at ha
    obtain ⟨na, hna2⟩ : ∃ x, args.length = x := ⟨_, rfl⟩
    rw [hna2] at ha hna hat
    have HNA := hide hna2
    clear hx hna2 hxn hxl
    go_wp2_with (first | (refine oL H ?_) | (refine oA 6 H ?_; clear H; intro w gd H) | (refine oP H ?_; clear H; intro w _ H))
    replace H : Hp _ _ _ (.box gd _ _ :: .row 181 4 _ _ _ :: M) := H.fin
    replace H := H.nilRow 185 10
    go_loopw [23] (fun i wq => ∃ (K2 : World) (j : Nat) (A2 : Option Addr) (c2 : Nat) (vs2 : List Value), j ≤ na ∧ i = .int .i64 j ∧ Sat K2 K' ∧ RL K2 (pairsL (args.take j)) vs2 ∧ Hp w0 wq K2 (.row 185 10 (.slice A2 j c2) j vs2 :: .box gd [.string (str dn), .slice A2 j c2, .int .i64 dl, .int .i64 dc] 181 :: .row 181 4 (.slice A' k c') k vs :: M)) (fun i _ => na - (intOf i).toNat)
    case atStart => exact ⟨K', 0, none, 0, [], Nat.zero_le _, rfl, Sat.refl _, .nil (Nat.le_refl _), H⟩
    case round =>
     clear H
     obtain ⟨K2, j, A2, c2, vs2, hj, rfl, hle2, hvs2, H⟩ := hrel
     replace ha := ha.sat hle2
     by_cases hlt2 : j < na
     · obtain ⟨x, ad, us, hx, rfl, hxl, hat2⟩ := el_k pairL_len ha (by rw [HNA.out]; exact hlt2) (by decide)
       obtain ⟨hjI, hwj⟩ := wr_k hlt2 hna
       have hxn := HF.out x (List.mem_of_getElem? hx)
       have HY := hide (take_next hx)
       obtain ⟨pn, ⟨dk, dt, db, di, df, dln, dcl⟩, pl, pc⟩ := x
       obtain ⟨ls, rfl, hvl⟩ := pair_cells hxl
       obtain ⟨Xi, xi, Xf, xf, rfl, -, -⟩ := lit_cells hvl
       have hc := fun {w M} (h : Hp w0 w K2 M) => copyLit_hp 9000000 _ #[_, _, _, _, _, _, _] w0 w K2 M (by simp only [pairN] at hxn; omega) (Nat.le_refl _) hvl h
       simp only [List.cons_append, List.nil_append] at hat2
       clear hx hxl hat
       go_wp2_with (first | (refine oL H ?_) | (refine oA 8 H ?_; clear H; intro w gx H) | (refine oP H ?_; clear H; intro w _ H))
       refine rN [.box gd _ _, .box gx _ _] [13] H ?_; clear H; intro w H
       refine rT 0 H ?_; refine rT 1 H ?_; refine rT 2 H ?_; refine rT 3 H ?_; refine rT 4 H ?_; refine rT 5 H ?_; refine rT 7 H ?_; refine rT 8 H ?_
       refine rC 6 (hc H) ?_; clear H; rintro e w ⟨K3, cs, rfl, hle3, H, he⟩; obtain ⟨Bi, bi, Bf, bf, hcs, -, -⟩ := lit_cells he; obtain rfl : cs = #[_, _, _, _, _, _, _] := Array.toList_inj.1 hcs; clear hcs; refine rX H ?_
       refine rT 9 H ?_
       refine rW 10 H ?_; clear H; intro w _ H
       refine rA 11 H ?_; clear H; intro A2 c2 w _ _ H; dsimp only [List.set] at H
       refine rT 12 H ?_
       refine rL 13 H ?_; clear H; intro w _ H
       refine rE ?_
       have hpe : RL K3 (pairL (.mk pn (.mk dk dt db di df dln dcl) pl pc)) [.string (str pn), .int .i64 dk, .string (str dt), .bool db, .slice Bi di.length bi, .slice Bf df.length bf, .int .i64 dln, .int .i64 dcl, .int .i64 pl, .int .i64 pc] := DatL.lit (DatL.app he (DatL.lit (DatL.lit (DatL.nil he.le))))
       go_wp2_with (first | (refine oL H ?_) | (refine oP H ?_; clear H; intro w _ H))
       go_roundw
       case rel => exact ⟨K3, j + 1, _, _, _, by omega, by go_num, hle3.trans hle2, by rw [HY.out, pairsL_app]; exact (hvs2.sat hle3).app (by simpa [pairsL] using hpe), H.fin⟩
       case measure => simp [intOf]; omega
     · obtain rfl : j = na := by omega
       rw [List.take_of_length_le (by rw [HNA.out]; exact Nat.le_refl _)] at hvs2
       obtain ⟨K3, hle3, H, hd1⟩ := H.freezeRow hvs2
       have hde : RL K3 (dirL ⟨dn, args, dl, dc⟩) [.string (str dn), .slice A2 j c2, .int .i64 dl, .int .i64 dc] := .lit (.cons (by rw [HNA.out]; exact hd1) (.lit (.lit (.nil (Nat.le_refl _)))))
       go_wp2_with (first | (refine oL H ?_) | (refine oP H ?_; clear H; intro w _ H) | (refine oQ H ?_; clear H; intro A' c' w _ _ H; dsimp only [List.set] at H))
       go_roundw
       case rel => exact ⟨K3, k + 1, _, _, _, by omega, by go_num, rfl, hle3.trans (hle2.trans hle), by rw [HT.out, dirsL_app]; exact (hvs.sat (hle3.trans hle2)).app (one_c (f := dirL) hde), H.fin⟩
       case measure => simp [intOf]; omega
  · obtain rfl : k = n := by omega
    rw [List.take_of_length_le (by rw [HN.out]; exact Nat.le_refl _)] at hvs
    go_wp2_with fail
    go_ret
    exact ⟨K', A', c', vs, rfl, hle, hvs, H⟩
theorem copyDirs_hp {l : List DirD} {A : Option Addr} {c : Nat} (hm : sumN dirN l ≤ 9000000) (hd : RD K (.list l.length (dirsL l)) (.slice A l.length c)) (H : Hp w0 w K M) :
 Calls Tryz.prog 109 #[.slice A l.length c] w fun e w' => ∃ K' A' c', e = .returned (.slice A' l.length c') ∧ Sat K' K ∧ Hp w0 w' K' M ∧ RD K' (.list l.length (dirsL l)) (.slice A' l.length c') :=
 (copyDirs_row hm hd H).mono fun e w' ⟨K', A', c', vs, he, hle, hvs, H⟩ => by
   obtain ⟨K2, hle2, H, hd⟩ := H.freezeRow hvs
   exact ⟨K2, A', c', he, hle2.trans hle, H, hd⟩
theorem copyInputs_row {l : List InputD} {A : Option Addr} {c : Nat} (hm : sumN inputN l ≤ 9000000) (hd : RD K (.list l.length (inputsL l)) (.slice A l.length c)) (H : Hp w0 w K M) :
 Calls Tryz.prog 110 #[.slice A l.length c] w fun e w' => ∃ K' A' c' vs, e = .returned (.slice A' l.length c') ∧ Sat K' K ∧ RL K' (inputsL l) vs ∧ Hp w0 w' K' (.row 123 17 (.slice A' l.length c') l.length vs :: M) := by
 have hn := Nat.le_trans (sum_len inputN_pos l) hm
 have HX := hide (show ∀ x ∈ l, inputN x ≤ 9000000 from fun x hx => by obtain ⟨k, hk⟩ := List.getElem?_of_mem hx; have := sum_at (f := inputN) hk; omega)
 obtain ⟨n, hn2⟩ : ∃ x, l.length = x := ⟨_, rfl⟩
 rw [hn2] at hd hn ⊢
 have HN := hide hn2
 clear hn2 hm
 go_enter Tryz.func110, Tryz.ntmps110
 go_wp2_with fail
 replace H := H.nilRow 123 17
 go_loopw [3, 8] (fun v i wr => ∃ (K' : World) (k : Nat) (A' : Option Addr) (c' : Nat) (vs : List Value), k ≤ n ∧ i = .int .i64 k ∧ v = .slice A' k c' ∧ Sat K' K ∧ RL K' (inputsL (l.take k)) vs ∧ Hp w0 wr K' (.row 123 17 (.slice A' k c') k vs :: M)) (fun _ i _ => n - (intOf i).toNat)
 case atStart => exact ⟨K, 0, none, 0, [], Nat.zero_le _, rfl, rfl, Sat.refl _, .nil (Nat.le_refl _), H⟩
 case round =>
  clear H
  obtain ⟨K', k, A', c', vs, hk, rfl, rfl, hle, hvs, H⟩ := hrel
  replace hd := hd.sat hle
  by_cases hlt : k < n
  · obtain ⟨x, ad, us, hx, rfl, hxl, hat⟩ := el_k inputL_len hd (by rw [HN.out]; exact hlt) (by decide)
    obtain ⟨hkI, hwr⟩ := wr_k hlt hn
    have hxn := HX.out x (List.mem_of_getElem? hx)
    have HT := hide (take_next hx)
    obtain ⟨⟨nh, nb, nt⟩, dn, ⟨tn, tw⟩, dh, ⟨dk, dt, db, di, df, dln, dcl⟩, ds, dl, dc⟩ := x
    obtain ⟨ls, Ad, cd, rfl, hvl, hds⟩ := input_cells hxl
    obtain ⟨Xi, xi, Xf, xf, rfl, -, -⟩ := lit_cells hvl
    simp only [inputN] at hxn
    have hc := fun {w M} (h : Hp w0 w K' M) => copyLit_hp 9000000 _ #[_, _, _, _, _, _, _] w0 w K' M (by omega) (Nat.le_refl _) hvl h
    have hc2 := fun {w K M} (h : Hp w0 w K M) (hd : RD K (.list ds.length (dirsL ds)) (.slice Ad ds.length cd)) => copyDirs_hp (by omega) hd h
    simp only [List.cons_append, List.nil_append] at hat
    clear hx hxl
    go_wp2_with (first | (refine oL H ?_) | (refine oP H ?_; clear H; intro w _ H) | ((with_reducible refine (hc H).mono ?_); clear hc H; rintro e w ⟨K2, cs, rfl, hle2, H, he⟩; obtain ⟨Bi, bi, Bf, bf, hcs, -, -⟩ := lit_cells he; obtain rfl : cs = #[_, _, _, _, _, _, _] := Array.toList_inj.1 hcs; clear hcs; replace hds := hds.sat hle2) | ((with_reducible refine (hc2 H hds).mono ?_); clear hc2 H; rintro e w ⟨K3, Ae, ce, rfl, hle3, H, hde⟩) | (refine oQ H ?_; clear H; intro A' c' w _ _ H; dsimp only [List.set] at H))
    have hpe := input_leaf (nh := nh) (nb := nb) (nt := nt) (dn := dn) (tn := tn) (tw := tw) (dh := dh) (dl := dl) (dc := dc) (he.sat hle3) hde
    go_roundw
    case rel => exact ⟨K3, k + 1, _, _, _, by omega, by go_num, rfl, hle3.trans (hle2.trans hle), by rw [HT.out, inputsL_app]; exact (hvs.sat (hle3.trans hle2)).app (one_c (f := inputL) hpe), H.fin⟩
    case measure => simp [intOf]; omega
  · obtain rfl : k = n := by omega
    rw [List.take_of_length_le (by rw [HN.out]; exact Nat.le_refl _)] at hvs
    go_wp2_with fail
    go_ret
    exact ⟨K', A', c', vs, rfl, hle, hvs, H⟩
theorem copyInputs_hp {l : List InputD} {A : Option Addr} {c : Nat} (hm : sumN inputN l ≤ 9000000) (hd : RD K (.list l.length (inputsL l)) (.slice A l.length c)) (H : Hp w0 w K M) :
 Calls Tryz.prog 110 #[.slice A l.length c] w fun e w' => ∃ K' A' c', e = .returned (.slice A' l.length c') ∧ Sat K' K ∧ Hp w0 w' K' M ∧ RD K' (.list l.length (inputsL l)) (.slice A' l.length c') :=
 (copyInputs_row hm hd H).mono fun e w' ⟨K', A', c', vs, he, hle, hvs, H⟩ => by
   obtain ⟨K2, hle2, H, hd⟩ := H.freezeRow hvs
   exact ⟨K2, A', c', he, hle2.trans hle, H, hd⟩
end
section
variable {P : Program} {w0 w K : World} {M : List Ent} {ops : Array Oper} {rest : List Oper} {o : Oper} {a : Act} {Q : Exit → Act → World → Prop}
theorem oN {m c : Nat} {A : Option Addr} {ls : List Leaf} (H : Hp w0 w K M) {s x : Operand} {t e : TypeId} {size bytes : Nat} {a' : Option Addr → Nat → Act}
 (h : ∀ us A' c' w', RL K ls us → m ≤ c' → c' ≤ maxLen → Hp w0 w' K (.row e size (.slice A' m c') m us :: M) → wpList P ops Q rest (a' A' c') w')
 (ho : o.op = .call { callee := .builtin .append, args := #[s, x], argTypes := #[t, t] } := by rfl) (hs : a.eval s = .slice none 0 0 := by rfl) (hx : a.eval x = .slice A m c := by first | rfl | (simp [Act.eval, Act.put]; done) | fail) (hsl : Sli P t e size bytes := by infer_instance)
 (hd : RD K (.list m ls) (.slice A m c) := by assumption) (hlen : ls.length = m * size := by first | exact namedsL_len _ | exact rootsL_len _ | fail)
 (hb : m * bytes ≤ 140737488355328 := by omega) (ha : ∀ A' c', a.put o.dst (.slice A' m c') = a' A' c' := by (intro A c; simp only [Act.put, List.setIfInBounds_toArray, List.set_cons_zero, List.set_cons_succ]; try rfl)) (hgd : o.guard = none := by rfl) : wpList P ops Q (o :: rest) a w :=
 oR (H.nilRow e size) (fun us A' c' w' h1 _ h3 h4 H' => by
  rw [Nat.zero_add] at h3 H' ⊢
  rw [ha A' c']
  exact h us A' c' w' h1 h3 h4 H') ho hx hsl hs (i := 0) rfl hd hlen (by rw [Nat.zero_add]; exact hb) (fun _ _ => rfl) hgd
end
section
variable {w0 w K : World} {M : List Ent}
theorem copyField_hp (d : FieldD) (cs : Array Value) (H : Hp w0 w K M) (hm : fieldN d ≤ 9000000) (hd : RL K (fieldL d) cs.toList) :
 Calls Tryz.prog 87 #[.agg cs] w fun e w' => ∃ K' cs', e = .returned (.agg cs') ∧ Sat K' K ∧ Hp w0 w' K' M ∧ RL K' (fieldL d) cs'.toList := by
 obtain ⟨⟨nh, nb, nt⟩, dn, args, ⟨tn, tw⟩, ds, dl, dc⟩ := d
 obtain ⟨Aa, ca, Ad, cd, hcs, ha, hds⟩ := field_cells hd
 obtain rfl : cs = #[_, _, _, _, _, _, _, _, _, _] := Array.toList_inj.1 hcs
 simp only [fieldN] at hm
 clear hcs hd
 have c2 := fun {w K M} (h : Hp w0 w K M) (hd : RD K (.list ds.length (dirsL ds)) (.slice Ad ds.length cd)) => copyDirs_hp (by omega) hd h
 go_enter Tryz.func87, Tryz.ntmps87
 go_wp2_with (first | (refine oL H ?_) | (refine oP H ?_; clear H; intro w _ H) | ((with_reducible refine (copyInputs_hp (by omega) ha H).mono ?_); clear H; rintro e w ⟨K2, Ab, cb, rfl, hle2, H, hb⟩; replace hds := hds.sat hle2) | ((with_reducible refine (c2 H hds).mono ?_); clear H; rintro e w ⟨K3, Ae, ce, rfl, hle3, H, he⟩))
 refine oB H ?_
 exact ⟨K3, _, rfl, hle3.trans hle2, H.fin, field_leaf (hb.sat hle3) he⟩
theorem copyDef_rows (d : DefD) (cs : Array Value) (H : Hp w0 w K M) (hm : defN d ≤ 9000000) (hd : RL K (defL d) cs.toList) :
 Calls Tryz.prog 65 #[.agg cs] w fun e w' => ∃ K' V, e = .returned (.agg (DV.cells d V).toArray) ∧ Sat K' K ∧ Hp w0 w' K' (DV.rows d V ++ M) ∧ V.ok K' d := by
 obtain ⟨kind, ext, ⟨nh, nb, nt⟩, name, li, ld, lf, lp, lm, lv, lr, rep, lq, dl, dc⟩ := d
 obtain ⟨A6, c6, A7, c7, A8, c8, A9, c9, A10, c10, A11, c11, A12, c12, A14, c14, hcs, h6, h7, h8, h9, h10, h11, h12, h14⟩ := def_cells hd
 obtain rfl : cs = #[_, _, _, _, _, _, _, _, _, _, _, _, _, _, _, _, _] := Array.toList_inj.1 hcs
 dsimp only at h6 h7 h8 h9 h10 h11 h12 h14
 simp only [defN] at hm
 have s7 := sum_len dirN_pos ld
 have s8 := sum_len fieldN_pos lf
 have s9 := sum_len inputN_pos lp
 have s11 := sum_len valueN_pos lv
 have HF := hide (show ∀ x ∈ lf, fieldN x ≤ 9000000 from fun x hx => by obtain ⟨k, hk⟩ := List.getElem?_of_mem hx; have := sum_at (f := fieldN) hk; omega)
 have HV := hide (show ∀ x ∈ lv, valueN x ≤ 9000000 from fun x hx => by obtain ⟨k, hk⟩ := List.getElem?_of_mem hx; have := sum_at (f := valueN) hk; omega)
 have b6 : li.length ≤ 9000000 ∧ sumN dirN ld ≤ 9000000 ∧ lf.length ≤ 9000000 ∧ sumN inputN lp ≤ 9000000 ∧ lm.length ≤ 9000000 ∧ lv.length ≤ 9000000 ∧ lr.length ≤ 9000000 ∧ lq.length ≤ 9000000 := by omega
 obtain ⟨b6, b7, b8, b9, b10, b11, b12, b14⟩ := b6
 clear hcs hd s7 s8 s9 s11 hm
 obtain ⟨nf, hnf⟩ : ∃ x, lf.length = x := ⟨_, rfl⟩
 obtain ⟨nv, hnv⟩ : ∃ x, lv.length = x := ⟨_, rfl⟩
 rw [hnf] at h8 b8
 rw [hnv] at h11 b11
 have HNF := hide hnf
 have HNV := hide hnv
 dsimp only
 rw [hnf, hnv]
 clear hnf hnv
 go_enter Tryz.func65, Tryz.ntmps65
 go_wp2_with (first | (refine oA 1 H ?_; clear H; intro w gd H) | (refine oA 2 H ?_; clear H; intro w gz H))
 refine rB [] H ?_; clear H; intro w H
 refine rT 0 H ?_; refine rT 1 H ?_; refine rT 2 H ?_; refine rT 3 H ?_; refine rT 4 H ?_; refine rT 5 H ?_
 refine rE ?_
 go_wp2_with (first | (refine oL H ?_) | (refine oP H ?_; clear H; intro w _ H))
 replace H := H.nilRow 52 10
 go_loopw [17] (fun i wr => ∃ (K' : World) (k : Nat) (A' : Option Addr) (c' : Nat) (vs : List Value), k ≤ nf ∧ i = .int .i64 k ∧ Sat K' K ∧ RL K' (fieldsL (lf.take k)) vs ∧ Hp w0 wr K' (.row 52 10 (.slice A' k c') k vs :: .box gz [.int .i64 0, .bool false, .bool false, .bool false, .string ⟨#[]⟩, .string ⟨#[]⟩, .slice none 0 0, .slice none 0 0, .slice none 0 0, .slice none 0 0, .slice none 0 0, .slice none 0 0, .slice none 0 0, .bool false, .slice none 0 0, .int .i64 0, .int .i64 0] 43 ::
  .box gd [.int .i64 kind, .bool ext, .bool nh, .bool nb, .string (str nt), .string (str name), .slice A6 li.length c6, .slice A7 ld.length c7, .slice A' k c', .slice A9 lp.length c9, .slice A10 lm.length c10, .slice none 0 0, .slice A12 lr.length c12, .bool rep, .slice A14 lq.length c14, .int .i64 dl, .int .i64 dc] 43 :: M)) (fun i _ => nf - (intOf i).toNat)
 case atStart => exact ⟨K, 0, none, 0, [], Nat.zero_le _, rfl, Sat.refl _, .nil (Nat.le_refl _), H⟩
 case round =>
  clear H
  obtain ⟨K', k, A', c', vs, hk, rfl, hle, hvs, H⟩ := hrel
  replace h8 := h8.sat hle
  by_cases hlt : k < nf
  · obtain ⟨x, ad, us, hx, rfl, hxl, hat⟩ := el_k (m := 10) (f := fieldL) (fun _ => rfl) h8 (by rw [HNF.out]; exact hlt) (by decide)
    obtain ⟨hkI, hwr⟩ := wr_k hlt b8
    have hxn := HF.out x (List.mem_of_getElem? hx)
    have HX := hide (take_next hx)
    obtain ⟨⟨fnh, fnb, fnt⟩, fn, fas, ⟨ftn, ftw⟩, fds, fl, fc⟩ := x
    obtain ⟨Xi, xi, Xf, xf, rfl, -, -⟩ := field_cells hxl
    have hc := fun {w M} (h : Hp w0 w K' M) => copyField_hp _ #[_, _, _, _, _, _, _, _, _, _] h hxn hxl
    clear hx
    go_wp2_with (first | (refine oL H ?_) | (refine oA 6 H ?_; clear H; intro w gx H) | (refine oP H ?_; clear H; intro w _ H))
    refine rN [.box gd _ _, .box gx _ _] [7] H ?_; clear H; intro w H
    refine rT 0 H ?_; refine rT 1 H ?_; refine rT 2 H ?_
    refine rC 3 (hc H) ?_; clear H; rintro e w ⟨K2, cs, rfl, hle2, H, he⟩; obtain ⟨Bi, bi, Bf, bf, hcs, -, -⟩ := field_cells he; obtain rfl : cs = #[_, _, _, _, _, _, _, _, _, _] := Array.toList_inj.1 hcs; clear hcs; refine rX H ?_
    refine rW 4 H ?_; clear H; intro w _ H
    refine rA 5 H ?_; clear H; intro A' c' w _ _ H; dsimp only [List.set] at H
    refine rT 6 H ?_
    refine rL 7 H ?_; clear H; intro w _ H
    refine rE ?_
    go_wp2_with (first | (refine oL H ?_) | (refine oP H ?_; clear H; intro w _ H))
    go_roundw
    case rel => exact ⟨K2, k + 1, _, _, _, by omega, by go_num, hle2.trans hle, by rw [HX.out, fieldsL_app]; exact (hvs.sat hle2).app (one_c (f := fieldL) he), H.fin⟩
    case measure => simp [intOf]; omega
  · obtain rfl : k = nf := by omega
    rw [List.take_of_length_le (by rw [HNF.out]; exact Nat.le_refl _)] at hvs
    replace h11 := h11.sat hle
    clear hlt h8
    go_wp2_with (first | (refine oL H ?_) | (refine oP H ?_; clear H; intro w _ H))
    replace H := H.nilRow 133 7
    go_loopw [31] (fun i wr => ∃ (K2 : World) (j : Nat) (A2 : Option Addr) (c2 : Nat) (vs2 : List Value), j ≤ nv ∧ i = .int .i64 j ∧ Sat K2 K' ∧ RL K2 (valuesL (lv.take j)) vs2 ∧ Hp w0 wr K2 (.row 133 7 (.slice A2 j c2) j vs2 :: .row 52 10 (.slice A' k c') k vs :: .box gz [.int .i64 0, .bool false, .bool false, .bool false, .string ⟨#[]⟩, .string ⟨#[]⟩, .slice none 0 0, .slice none 0 0, .slice none 0 0, .slice none 0 0, .slice none 0 0, .slice none 0 0, .slice none 0 0, .bool false, .slice none 0 0, .int .i64 0, .int .i64 0] 43 ::
     .box gd [.int .i64 kind, .bool ext, .bool nh, .bool nb, .string (str nt), .string (str name), .slice A6 li.length c6, .slice A7 ld.length c7, .slice A' k c', .slice A9 lp.length c9, .slice A10 lm.length c10, .slice A2 j c2, .slice A12 lr.length c12, .bool rep, .slice A14 lq.length c14, .int .i64 dl, .int .i64 dc] 43 :: M)) (fun i _ => nv - (intOf i).toNat)
    case atStart => exact ⟨K', 0, none, 0, [], Nat.zero_le _, rfl, Sat.refl _, .nil (Nat.le_refl _), H⟩
    case round =>
     clear H
     obtain ⟨K2, j, A2, c2, vs2, hj, rfl, hle2, hvs2, H⟩ := hrel
     replace h11 := h11.sat hle2
     by_cases hlt : j < nv
     · obtain ⟨x, ad, us, hx, rfl, hxl, hat⟩ := el_k (m := 7) (f := valueL) (fun _ => rfl) h11 (by rw [HNV.out]; exact hlt) (by decide)
       obtain ⟨hkI, hwr⟩ := wr_k hlt b11
       have hxn := HV.out x (List.mem_of_getElem? hx)
       have HX := hide (take_next hx)
       obtain ⟨⟨fnh, fnb, fnt⟩, fn, fds, fl, fc⟩ := x
       obtain ⟨Xd, xd, rfl, hxd⟩ := value_cells hxl
       simp only [valueN] at hxn
       have hc := fun {w M} (h : Hp w0 w K2 M) => copyDirs_hp (by omega) hxd h
       clear hx hxl
       go_wp2_with (first | (refine oL H ?_) | (refine oP H ?_; clear H; intro w _ H) | ((with_reducible refine (hc H).mono ?_); clear H; rintro e w ⟨K3, Ae, ce, rfl, hle3, H, he⟩) | (refine oQ H ?_; clear H; intro A' c' w _ _ H; dsimp only [List.set] at H))
       go_roundw
       case rel => exact ⟨K3, j + 1, _, _, _, by omega, by go_num, hle3.trans hle2, by rw [HX.out, valuesL_app]; exact (hvs2.sat hle3).app (one_c (f := valueL) (value_leaf he)), H.fin⟩
       case measure => simp [intOf]; omega
     · obtain rfl : j = nv := by omega
       rw [List.take_of_length_le (by rw [HNV.out]; exact Nat.le_refl _)] at hvs2
       have q := hle2.trans hle
       replace h6 := h6.sat q
       replace h7 := h7.sat q
       replace h9 := h9.sat q
       replace h10 := h10.sat q
       replace h12 := h12.sat q
       replace h14 := h14.sat q
       have c9 := fun {w K M} (h : Hp w0 w K M) (hd : RD K (.list lp.length (inputsL lp)) (.slice A9 lp.length c9)) => copyInputs_row b9 hd h
       have c7 := fun {w K M} (h : Hp w0 w K M) (hd : RD K (.list ld.length (dirsL ld)) (.slice A7 ld.length c7)) => copyDirs_row b7 hd h
       clear hlt h11
       go_upto_region 15 with (first | (refine oL H ?_) | (refine oP H ?_; clear H; intro w _ H) | (refine oN H ?_; clear H; intro u6 B6 e6 w q6 _ _ H))
       go_upto_region 16 with (first | (refine oL H ?_) | (refine oP H ?_; clear H; intro w _ H) | (refine oN H ?_; clear H; intro u10 B10 e10 w q10 _ _ H))
       go_upto_region 17 with (first | (refine oL H ?_) | (refine oP H ?_; clear H; intro w _ H) | (refine oN H ?_; clear H; intro u14 B14 e14 w q14 _ _ H))
       go_upto_region 18 with (first | (refine oL H ?_) | (refine oP H ?_; clear H; intro w _ H) | (refine oN H ?_; clear H; intro u12 B12 e12 w q12 _ _ H))
       go_wp2_with (first | (refine oL H ?_) | (refine oP H ?_; clear H; intro w _ H) | ((with_reducible refine (c9 H h9).mono ?_); clear H; rintro e w ⟨K3, B9, e9, u9, rfl, hle3, q9, H⟩; replace h7 := h7.sat hle3) | ((with_reducible refine (c7 H h7).mono ?_); clear H; rintro e w ⟨K4, B7, e7, u7, rfl, hle4, q7, H⟩))
       refine oB H ?_
       have q2 := hle4.trans hle3
       refine ⟨K4, ⟨.slice A' k c', .slice A2 j c2, .slice B6 li.length e6, .slice B10 lm.length e10, .slice B14 lq.length e14, .slice B12 lr.length e12, .slice B9 lp.length e9, .slice B7 ld.length e7, vs, vs2, u6, u10, u14, u12, u9, u7⟩, rfl, (q2.trans hle2).trans hle, ?_, hvs.sat (q2.trans hle2), hvs2.sat q2, q6.sat q2, q10.sat q2, q14.sat q2, q12.sat q2, q9.sat hle4, q7⟩
       dsimp only [DV.rows]
       rw [HNF.out, HNV.out]
       exact H.fin
theorem DV.freeze {d : DefD} {V : DV} (H : Hp w0 w K (DV.rows d V ++ M)) (hV : V.ok K d) : ∃ K', Sat K' K ∧ Hp w0 w K' M ∧ RL K' (defL d) (DV.cells d V) := by
 obtain ⟨kind, ext, ⟨nh, nb, nt⟩, name, li, ld, lf, lp, lm, lv, lr, rep, lq, dl, dc⟩ := d
 obtain ⟨K1, e1, H, d8⟩ := H.freezeRow hV.r8
 obtain ⟨K2, e2, H, d11⟩ := H.freezeRow (hV.r11.sat e1)
 have f2 := e2.trans e1
 obtain ⟨K3, e3, H, d6⟩ := H.freezeRow (hV.r6.sat f2)
 have f3 := e3.trans f2
 obtain ⟨K4, e4, H, d10⟩ := H.freezeRow (hV.r10.sat f3)
 have f4 := e4.trans f3
 obtain ⟨K5, e5, H, d14⟩ := H.freezeRow (hV.r14.sat f4)
 have f5 := e5.trans f4
 obtain ⟨K6, e6, H, d12⟩ := H.freezeRow (hV.r12.sat f5)
 have f6 := e6.trans f5
 obtain ⟨K7, e7, H, d9⟩ := H.freezeRow (hV.r9.sat f6)
 have f7 := e7.trans f6
 obtain ⟨K8, e8, H, d7⟩ := H.freezeRow (hV.r7.sat f7)
 have g6 := e8.trans e7
 have g5 := g6.trans e6
 have g4 := g5.trans e5
 have g3 := g4.trans e4
 have g2 := g3.trans e3
 exact ⟨K8, e8.trans f7, H, def_leaf (d6.sat g3) d7 (d8.sat (g2.trans e2)) (d9.sat e8) (d10.sat g4) (d11.sat g2) (d12.sat g6) (d14.sat g5)⟩
theorem copyDef_hp (d : DefD) (cs : Array Value) (H : Hp w0 w K M) (hm : defN d ≤ 9000000) (hd : RL K (defL d) cs.toList) :
 Calls Tryz.prog 65 #[.agg cs] w fun e w' => ∃ K' cs', e = .returned (.agg cs') ∧ Sat K' K ∧ Hp w0 w' K' M ∧ RL K' (defL d) cs'.toList :=
 (copyDef_rows d cs H hm hd).mono fun e w' ⟨K', V, he, hle, H, hV⟩ => by
   obtain ⟨K2, hle2, H, h⟩ := DV.freeze H hV
   exact ⟨K2, _, he, hle2.trans hle, H, h⟩
end
end Go.Proofs.YtbpgkkoeehopjaaGreat.hp
