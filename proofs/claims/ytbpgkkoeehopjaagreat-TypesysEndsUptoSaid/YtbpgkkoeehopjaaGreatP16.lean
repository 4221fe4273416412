/- Part 16 of 18 of a proof: see the last part. -/
import Derived.Test.YtbpgkkoeehopjaaGreatP9
import Derived.Test.YtbpgkkoeehopjaaGreatP12
import Derived.Test.YtbpgkkoeehopjaaGreatP14
import Derived.Test.YtbpgkkoeehopjaaGreatP15
import Derived.Deep.QuietTactic
import Derived.BigQuiet
set_option linter.unusedVariables false
set_option linter.unusedSimpArgs false
namespace Go.Proofs.YtbpgkkoeehopjaaGreat.hp
open Go.RowKit Go.Proofs.YtbpgkkoeehopjaaGreat.words Go.Proofs.YtbpgkkoeehopjaaGreat.enc Go.Proofs.YtbpgkkoeehopjaaGreat.tree Go.Proofs.YtbpgkkoeehopjaaGreat.gram Go.Proofs.YtbpgkkoeehopjaaGreat.lex Go.Proofs.YtbpgkkoeehopjaaGreat.rd Go.Proofs.YtbpgkkoeehopjaaGreat.dec Go.Proofs.YtbpgkkoeehopjaaGreat.dat Go.Proofs.YtbpgkkoeehopjaaGreat.held Go.Proofs.YtbpgkkoeehopjaaGreat.ty
set_option maxRecDepth 100000
attribute [local go_sem ↓] Go.wp_at_zero Go.wp_at_succ
theorem less_eq (n m l : Txt) (b : UInt8) (hm : m = l ++ [b]) (w0 w K : World) (M : List Ent) (H : Hp w0 w K M) (h63 : m.length ≤ maxLen) :
  Calls Tryz.prog 90 #[.agg #[.string (str n), .string (str m)]] w fun e w' => e = .returned (.agg #[.string (str n), .string (str l)]) ∧ Hp w0 w' K M := by
 subst hm; exact less_hp n l b w0 w K M H (by simpa using h63)
set_option maxHeartbeats 4000000 in
theorem Item_hp (n m : Txt) (w0 w K : World) (M : List Ent) (H : Hp w0 w K M) (h63 : m.length ≤ 20000000) :
  Calls Tryz.prog 50 #[.agg #[.string (str n), .string (str m)]] w fun e w' => e = .returned (refB (itemR n m)) ∧ Hp w0 w' K M := by
 have hl : m.length ≤ maxLen := by simp only [maxLen]; omega
 by_cases h : lastB m = 33
 · obtain ⟨l, b, hm, hb⟩ := last_split (k := 33) h (by omega)
   have hl3 : l.length ≤ maxLen := by have := congrArg List.length hm; simp at this; omega
   have hm1 : (if lastB m = 33 then m.dropLast else m) = l := by rw [if_pos h, hm]; simp
   by_cases h2 : lastB l = 93
   · obtain ⟨r, b2, hl2, hb2⟩ := last_split (k := 93) h2 (by omega)
     have HR := hide (show refB (itemR n m) = .tuple #[.agg #[.string (str n), .string (str r)], .bool true] by unfold itemR; rw [hm1, if_pos h2, hl2]; simp [refB])
     have Hm := hide hm
     have Hl := hide hl2
     have Hh := hide h
     have Hh2 := hide h2
     clear hm1 hm hl2 h h2 hb hb2
     go_enter Tryz.func50, Tryz.ntmps50
     go_upto_region 2 with (first
      | (refine box_hp (by rfl) 50 (.tmp 0) (by rfl) [.string (str n), .string (str m)] _ (by rfl) (by rfl) (some 1) (by rfl) H ?_; clear H; intro w1 g1 H hg2; clear hg2)
      | (go_at_call 89; refine (last_hp n m _ _ _ _ H hl).mono ?_; clear H; rintro e w5 ⟨rfl, H⟩; rw [Hh.out])
      | ((with_reducible refine isL ?_); first
       | (refine al z50 2 H ?_; clear H; intro w3 g2 H)
       | (refine ld 1 1 2 Tryz.underlying50 H ?_)))
     go_upto_region 3 with (first
      | (go_at_call 90; refine (less_eq n m l b Hm.out _ _ _ _ H hl).mono ?_; clear H; rintro e w6 ⟨rfl, H⟩)
      | ((with_reducible refine isL ?_); first
       | (refine ld 1 1 2 Tryz.underlying50 H ?_)
       | (refine sA 1 1 H ?_; clear H; intro w7 H)))
     go_upto_region 5 with (first
      | (go_at_call 89; refine (last_hp n l _ _ _ _ H hl3).mono ?_; clear H; rintro e w7 ⟨rfl, H⟩; rw [Hh2.out])
      | ((with_reducible refine isL ?_); first
       | (refine ld 1 1 2 Tryz.underlying50 H ?_)))
     go_wp2_with (first
      | (go_at_call 90; refine (less_eq n l r b2 Hl.out _ _ _ _ H hl3).mono ?_; clear H; rintro e w8 ⟨rfl, H⟩)
      | ((with_reducible refine isL ?_); first
       | (refine ld 1 1 2 Tryz.underlying50 H ?_)
       | (refine sA 2 0 H ?_; clear H; intro w10 H)))
     refine bodyPost_ret (results_box2 rfl _ _ g2 50 _ (0, 0) _ (by rfl) (H.blkAt (i := 0) rfl) Tryz.underlying50 rfl (by kernel_rfl)) rfl ?_
     replace H := H.sub (List.Sublist.cons _ (List.Sublist.cons _ (List.Sublist.refl _)))
     exact ⟨by rw [HR.out]; rfl, H⟩
   · have HR := hide (show refB (itemR n m) = .tuple #[.agg #[.string ⟨#[]⟩, .string ⟨#[]⟩], .bool false] by unfold itemR; rw [hm1, if_neg h2]; rfl)
     have Hm := hide hm
     have Hh := hide h
     obtain ⟨q, hq⟩ : ∃ q, lastB l = q := ⟨_, rfl⟩
     rw [hq] at h2
     have hb2 : (q != 93) = true := by simp [h2]
     have hb3 : (q == 93) = false := by simp [h2]
     have Hq := hide hq
     clear hm1 hm h hb hq h2
     go_enter Tryz.func50, Tryz.ntmps50
     go_upto_region 2 with (first
      | (refine box_hp (by rfl) 50 (.tmp 0) (by rfl) [.string (str n), .string (str m)] _ (by rfl) (by rfl) (some 1) (by rfl) H ?_; clear H; intro w11 g1 H hg12; clear hg12)
      | (go_at_call 89; refine (last_hp n m _ _ _ _ H hl).mono ?_; clear H; rintro e w5 ⟨rfl, H⟩; rw [Hh.out])
      | ((with_reducible refine isL ?_); first
       | (refine al z50 2 H ?_; clear H; intro w13 g2 H)
       | (refine ld 1 1 2 Tryz.underlying50 H ?_)))
     go_upto_region 3 with (first
      | (go_at_call 90; refine (less_eq n m l b Hm.out _ _ _ _ H hl).mono ?_; clear H; rintro e w6 ⟨rfl, H⟩)
      | ((with_reducible refine isL ?_); first
       | (refine ld 1 1 2 Tryz.underlying50 H ?_)
       | (refine sA 1 1 H ?_; clear H; intro w17 H)))
     go_wp2_with (first
      | (go_at_call 89; refine (last_hp n l _ _ _ _ H hl3).mono ?_; clear H; rintro e w7 ⟨rfl, H⟩; rw [Hq.out])
      | ((with_reducible refine isL ?_); first
       | (refine ld 1 1 2 Tryz.underlying50 H ?_)
       | (refine sA 2 0 H ?_; clear H; intro w19 H)))
     refine bodyPost_ret (results_box2 rfl _ _ g2 50 _ (0, 0) _ (by rfl) (H.blkAt (i := 0) rfl) Tryz.underlying50 rfl (by kernel_rfl)) rfl ?_
     replace H := H.sub (List.Sublist.cons _ (List.Sublist.cons _ (List.Sublist.refl _)))
     exact ⟨by rw [HR.out]; rfl, H⟩
 · have hm1 : (if lastB m = 33 then m.dropLast else m) = m := if_neg h
   by_cases h2 : lastB m = 93
   · obtain ⟨r, b2, hl2, hb2⟩ := last_split (k := 93) h2 (by omega)
     have HR := hide (show refB (itemR n m) = .tuple #[.agg #[.string (str n), .string (str r)], .bool true] by unfold itemR; rw [hm1, if_pos h2, hl2]; simp [refB])
     have Hl := hide hl2
     have Hh2 := hide h2
     clear hm1 hl2 h h2 hb2
     go_enter Tryz.func50, Tryz.ntmps50
     go_upto_region 3 with (first
      | (refine box_hp (by rfl) 50 (.tmp 0) (by rfl) [.string (str n), .string (str m)] _ (by rfl) (by rfl) (some 1) (by rfl) H ?_; clear H; intro w20 g1 H hg21; clear hg21)
      | (go_at_call 89; refine (last_hp n m _ _ _ _ H hl).mono ?_; clear H; rintro e w5 ⟨rfl, H⟩; rw [Hh2.out])
      | ((with_reducible refine isL ?_); first
       | (refine al z50 2 H ?_; clear H; intro w22 g2 H)
       | (refine ld 1 1 2 Tryz.underlying50 H ?_)))
     go_upto_region 5 with (first
      | (go_at_call 89; refine (last_hp n m _ _ _ _ H hl).mono ?_; clear H; rintro e w7 ⟨rfl, H⟩; rw [Hh2.out])
      | ((with_reducible refine isL ?_); first
       | (refine ld 1 1 2 Tryz.underlying50 H ?_)))
     go_wp2_with (first
      | (go_at_call 90; refine (less_eq n m r b2 Hl.out _ _ _ _ H hl).mono ?_; clear H; rintro e w8 ⟨rfl, H⟩)
      | ((with_reducible refine isL ?_); first
       | (refine ld 1 1 2 Tryz.underlying50 H ?_)
       | (refine sA 2 0 H ?_; clear H; intro w27 H)))
     refine bodyPost_ret (results_box2 rfl _ _ g2 50 _ (0, 0) _ (by rfl) (H.blkAt (i := 0) rfl) Tryz.underlying50 rfl (by kernel_rfl)) rfl ?_
     replace H := H.sub (List.Sublist.cons _ (List.Sublist.cons _ (List.Sublist.refl _)))
     exact ⟨by rw [HR.out]; rfl, H⟩
   · have HR := hide (show refB (itemR n m) = .tuple #[.agg #[.string ⟨#[]⟩, .string ⟨#[]⟩], .bool false] by unfold itemR; rw [hm1, if_neg h2]; rfl)
     obtain ⟨q, hq⟩ : ∃ q, lastB m = q := ⟨_, rfl⟩
     rw [hq] at h h2
     have hb1 : (q == 33) = false := by simp [h]
     have hb2 : (q != 93) = true := by simp [h2]
     have hb3 : (q == 93) = false := by simp [h2]
     have Hq := hide hq
     clear hm1 h h2 hq
     go_enter Tryz.func50, Tryz.ntmps50
     go_upto_region 3 with (first
      | (refine box_hp (by rfl) 50 (.tmp 0) (by rfl) [.string (str n), .string (str m)] _ (by rfl) (by rfl) (some 1) (by rfl) H ?_; clear H; intro w28 g1 H hg29; clear hg29)
      | (go_at_call 89; refine (last_hp n m _ _ _ _ H hl).mono ?_; clear H; rintro e w5 ⟨rfl, H⟩; rw [Hq.out])
      | ((with_reducible refine isL ?_); first
       | (refine al z50 2 H ?_; clear H; intro w30 g2 H)
       | (refine ld 1 1 2 Tryz.underlying50 H ?_)))
     go_wp2_with (first
      | (go_at_call 89; refine (last_hp n m _ _ _ _ H hl).mono ?_; clear H; rintro e w7 ⟨rfl, H⟩; rw [Hq.out])
      | ((with_reducible refine isL ?_); first
       | (refine ld 1 1 2 Tryz.underlying50 H ?_)
       | (refine sA 2 0 H ?_; clear H; intro w34 H)))
     refine bodyPost_ret (results_box2 rfl _ _ g2 50 _ (0, 0) _ (by rfl) (H.blkAt (i := 0) rfl) Tryz.underlying50 rfl (by kernel_rfl)) rfl ?_
     replace H := H.sub (List.Sublist.cons _ (List.Sublist.cons _ (List.Sublist.refl _)))
     exact ⟨by rw [HR.out]; rfl, H⟩
theorem lit_size : (Tryz.prog.info? 121).map (·.size) = some 7 := by kernel_rfl
theorem litsN_app : ∀ a b : List LitD, litsN (a ++ b) = litsN a + litsN b
 | [], b => by simp [litsN]
 | x :: r, b => by simp only [List.cons_append, litsN, litsN_app r b]; omega
theorem litsN_next {l : List LitD} {k : Nat} {x : LitD} (h : l[k]? = some x) : litsN (l.take (k + 1)) = litsN (l.take k) + litN x := by
 rw [take_next h, litsN_app]; simp [litsN]
theorem litsN_at {l : List LitD} {k : Nat} {x : LitD} (h : l[k]? = some x) : litsN (l.take k) + litN x ≤ litsN l := by
 have h1 : l = l.take (k + 1) ++ l.drop (k + 1) := (List.take_append_drop _ _).symm
 have h2 := litsN_app (l.take (k + 1)) (l.drop (k + 1))
 rw [List.take_append_drop, litsN_next h] at h2
 omega
theorem litsN_len' : ∀ l : List LitD, l.length ≤ litsN l
 | [] => Nat.le_refl _
 | .mk _ _ _ _ _ _ _ :: r => by have := litsN_len' r; simp only [litsN, litN, List.length_cons]; omega
theorem litsN_rest (l : List LitD) (k : Nat) : litsN (l.take k) + (l.length - k) ≤ litsN l := by
 have h2 := litsN_app (l.take k) (l.drop k)
 rw [List.take_append_drop] at h2
 have h3 := litsN_len' (l.drop k)
 rw [List.length_drop] at h3
 omega
theorem litsN_len : ∀ l : List LitD, l.length ≤ litsN l
 | [] => Nat.le_refl _
 | .mk _ _ _ _ _ _ _ :: r => by have := litsN_len r; simp only [litsN, litN, List.length_cons]; omega
theorem pairsN_len : ∀ l : List PairD, l.length ≤ pairsN l
 | [] => Nat.le_refl _
 | .mk _ v _ _ :: r => by have := pairsN_len r; simp only [pairsN, pairN, List.length_cons]; omega
theorem pairsN_app : ∀ a b : List PairD, pairsN (a ++ b) = pairsN a + pairsN b
 | [], b => by simp [pairsN]
 | x :: r, b => by simp only [List.cons_append, pairsN, pairsN_app r b]; omega
theorem pairsN_next {l : List PairD} {k : Nat} {x : PairD} (h : l[k]? = some x) : pairsN (l.take (k + 1)) = pairsN (l.take k) + pairN x := by
 rw [take_next h, pairsN_app]; simp [pairsN]
theorem pairsN_at {l : List PairD} {k : Nat} {x : PairD} (h : l[k]? = some x) : pairsN (l.take k) + pairN x ≤ pairsN l := by
 have h2 := pairsN_app (l.take (k + 1)) (l.drop (k + 1))
 rw [List.take_append_drop, pairsN_next h] at h2
 omega
theorem pairsN_rest (l : List PairD) (k : Nat) : pairsN (l.take k) + (l.length - k) ≤ pairsN l := by
 have h2 := pairsN_app (l.take k) (l.drop k)
 rw [List.take_append_drop] at h2
 have h3 := pairsN_len (l.drop k)
 rw [List.length_drop] at h3
 omega
theorem range_mid {w : World} {B O : Nat} {pre us post : List Value} (h : w.rangeAt B O (pre ++ (us ++ post))) : w.rangeAt B (O + pre.length) us := fun k u hu => by
 have hk := (List.getElem?_eq_some_iff.1 hu).1
 have := h (pre.length + k) u (by rw [List.getElem?_append_right (by omega), Nat.add_sub_cancel_left, List.getElem?_append_left hk]; exact hu)
 rw [← Nat.add_assoc] at this
 exact this
def SzP (d : LitD) (most : Int) (w0 K : World) (M : List Ent) (e : Ending) (w' : World) : Prop :=
 ∃ n : Nat, e = .returned (.int .i64 n) ∧ n + 1 ≤ 2 * litN d ∧ ((n : Int) ≤ most → litN d ≤ n) ∧ Hp w0 w' K M
set_option maxHeartbeats 16000000 in
theorem SizeLit_hp : ∀ (f : Nat) (d : LitD) (most : Int) (cs : Array Value) (w0 w K : World) (M : List Ent), litN d ≤ f → f ≤ 2000000 → -10000000 ≤ most → most ≤ 10000000 → Hp w0 w K M → RL K (litL d) cs.toList →
  Calls Tryz.prog 134 #[.agg cs, .int .i64 most] w (SzP d most w0 K M) := by
 intro f
 induction f with
 | zero => intro d most cs w0 w K M h; cases d; simp only [litN] at h; omega
 | succ f ih =>
  intro d most cs w0 w K M hN hf hm1 hm2 H hd
  obtain ⟨kd, tx, bl, items, flds, ln, cl⟩ := d
  obtain ⟨Ai, ci, Af, cf, hcs, hi, hfl⟩ := lit_cells hd
  obtain rfl : cs = #[.int .i64 kd, .string (str tx), .bool bl, .slice Ai items.length ci, .slice Af flds.length cf, .int .i64 ln, .int .i64 cl] := Array.toList_inj.1 hcs
  clear hcs hd
  have hli := litsN_len items
  have hlf := pairsN_len flds
  have hLN : litN (.mk kd tx bl items flds ln cl) = litsN items + pairsN flds + 1 := by simp only [litN]
  rw [hLN] at hN
  unfold SzP
  rw [hLN]
  obtain ⟨ni, hni⟩ : ∃ x, items.length = x := ⟨_, rfl⟩
  obtain ⟨nf, hnf⟩ : ∃ x, flds.length = x := ⟨_, rfl⟩
  have HNI := hide hni
  have HNF := hide hnf
  rw [hni] at hi hli ⊢
  rw [hnf] at hfl hlf ⊢
  clear hni hnf
  have hsz := lit_size
  go_enter Tryz.func134, Tryz.ntmps134
  go_upto_region 1 with (first
   | (refine box_hp (by rfl) 121 (.tmp 0) (by rfl) [.int .i64 kd, .string (str tx), .bool bl, .slice Ai ni ci, .slice Af nf cf, .int .i64 ln, .int .i64 cl] _ (by rfl) (by rfl) (some 2) (by rfl) H ?_; clear H; intro w1 g2 H hg2; clear hg2))
  have c3 : (w1).cell? ⟨g2, 3, none⟩ = some (.slice Ai ni ci) := H.cell (i := 0) rfl rfl
  have c4 : (w1).cell? ⟨g2, 4, none⟩ = some (.slice Af nf cf) := H.cell (i := 0) rfl rfl
  have hmax : (ni : Int) + nf ≤ 4000000 := by omega
  go_wp2_with fail
  go_loopw [5, 6] (fun vn vi wr => ∃ (n k : Nat), k ≤ ni ∧ vn = .int .i64 n ∧ vi = .int .i64 k ∧ n + k ≤ 1 + ni + nf + 2 * litsN (items.take k) ∧ ((n : Int) ≤ most → litsN (items.take k) + nf + 1 ≤ n) ∧ Hp w0 wr K (.box g2 [.int .i64 kd, .string (str tx), .bool bl, .slice Ai ni ci, .slice Af nf cf, .int .i64 ln, .int .i64 cl] 121 :: M)) (fun _ vi _ => ni - (intOf vi).toNat)
  case atStart => exact ⟨1 + ni + nf, 0, Nat.zero_le _, by go_num, rfl, by simp [litsN], by simp [litsN]; omega, H⟩
  case round =>
   clear H c3 c4
   obtain ⟨n, k, hk, rfl, rfl, hA, hB, H⟩ := hrel
   have hrest := litsN_rest items k
   rw [HNI.out] at hrest
   have c3 : (wr).cell? ⟨g2, 3, none⟩ = some (.slice Ai ni ci) := H.cell (i := 0) rfl rfl
   have c4 : (wr).cell? ⟨g2, 4, none⟩ = some (.slice Af nf cf) := H.cell (i := 0) rfl rfl
   by_cases hgo : k < ni ∧ (n : Int) ≤ most
   · obtain ⟨hlt, hnm⟩ := hgo
     have hkI : (k : Int) < (ni : Int) := by omega
     obtain ⟨x, hx⟩ : ∃ x, items[k]? = some x := ⟨_, List.getElem?_eq_getElem (by rw [HNI.out]; exact hlt)⟩
     have hat := litsN_at hx
     have hnx := litsN_next hx
     rw [litsL_eq] at hi
     obtain ⟨ad, xs, hA2, hxd, hxl, hatK⟩ := elem_k (m := 7) (f := litL) litL_len hi hx (by omega)
     subst hA2
     clear hx
     have hrec := fun w H => ih x (most - n) xs.toArray w0 w K (.box g2 [.int .i64 kd, .string (str tx), .bool bl, .slice (some ad) ni ci, .slice Af nf cf, .int .i64 ln, .int .i64 cl] 121 :: M) (by omega) (by omega) (by omega) (by omega) H hxd
     have hB := hide hB
     go_wp2_with (first
      | ((with_reducible show wpList _ _ _ (_ :: _) _ _); refine wpList_load_at (by rfl) 121 (.tmp 33) (by rfl) (ad.add (k * 7)) (by simp [Act.eval, Act.put]) _ _ (At.sat hatK H.sat) Tryz.underlying121 rfl (by rw [hxl]; exact hsz) ?_)
      | (go_at_call 134; refine (hrec _ H).mono ?_; clear H; rintro e w5 ⟨kk, rfl, hk1, hk2, H⟩))
     go_roundw
     case rel => exact ⟨n + kk, k + 1, by omega, by go_num, by go_num, by omega, fun h => by have := hB.out (by omega); have := hk2 (by omega); omega, H⟩
     case measure => simp [intOf]; omega
   · have hA' : n ≤ 1 + nf + 2 * litsN items := by omega
     have hB' : (n : Int) ≤ most → litsN items + nf + 1 ≤ n := fun h => by
      have hkn : k = ni := by
       rcases Nat.lt_or_ge k ni with hlt | hge
       · exact absurd ⟨hlt, h⟩ hgo
       · omega
      have htk : items.take k = items := by rw [hkn, ← HNI.out]; exact List.take_length
      have := hB h
      rw [htk] at this
      omega
     have hgo2 : ¬ k < ni ∨ ¬ (n : Int) ≤ most := by
      rcases Nat.lt_or_ge k ni with hlt | hge
      · exact .inr (fun h => hgo ⟨hlt, h⟩)
      · exact .inl (by omega)
     have hB' := hide hB'
     clear hA hB hgo hrest
     rcases hgo2 with hge | hgt
     · have hkI : ¬ (k : Int) < (ni : Int) := by omega
       go_wp2_with fail
       go_loopw [5, 8] (fun vn vi wr => ∃ (n k : Nat), k ≤ nf ∧ vn = .int .i64 n ∧ vi = .int .i64 k ∧ n + 3 * k ≤ 1 + nf + 2 * litsN items + 2 * pairsN (flds.take k) ∧ ((n : Int) ≤ most → litsN items + nf + 1 + pairsN (flds.take k) ≤ n + k) ∧ Hp w0 wr K (.box g2 [.int .i64 kd, .string (str tx), .bool bl, .slice Ai ni ci, .slice Af nf cf, .int .i64 ln, .int .i64 cl] 121 :: M)) (fun _ vi _ => nf - (intOf vi).toNat)
       case atStart => exact ⟨n, 0, Nat.zero_le _, rfl, rfl, by simp [pairsN]; omega, fun h => by have := hB'.out h; simp [pairsN]; omega, H⟩
       case round =>
        clear H c3 c4 hA' hB' hkI
        obtain ⟨n, k, hk, rfl, rfl, hA, hB, H⟩ := hrel
        have hrest := pairsN_rest flds k
        rw [HNF.out] at hrest
        have c3 : (wr).cell? ⟨g2, 3, none⟩ = some (.slice Ai ni ci) := H.cell (i := 0) rfl rfl
        have c4 : (wr).cell? ⟨g2, 4, none⟩ = some (.slice Af nf cf) := H.cell (i := 0) rfl rfl
        by_cases hlt : k < nf
        · have hkI : (k : Int) < (nf : Int) := by omega
          by_cases hnm : (n : Int) ≤ most
          · obtain ⟨x, hx⟩ : ∃ x, flds[k]? = some x := ⟨_, List.getElem?_eq_getElem (by rw [HNF.out]; exact hlt)⟩
            have hat := pairsN_at hx
            have hnx := pairsN_next hx
            rw [pairsL_eq] at hfl
            obtain ⟨ad, xs, hA2, hxd, hxl, hatK⟩ := elem_k (m := 10) (f := pairL) pairL_len hfl hx (by omega)
            subst hA2
            obtain ⟨B, O, hBO⟩ := slice_plain (m := 10) (f := pairL) pairL_len hfl (by rw [HNF.out]; omega) (by omega)
            subst hBO
            rw [plain_add] at hatK
            have hrK := at_range hatK
            clear hx
            obtain ⟨nm, v, pl, pc⟩ := x
            simp only [pairN] at hat hnx
            obtain ⟨ls, hls, hlv⟩ := pair_cells hxd
            subst hls
            have hsub := range_mid (pre := [.string (str nm)]) (us := ls) (post := [.int .i64 pl, .int .i64 pc]) hrK
            have hll : ls.length = 7 := hlv.len.trans (litL_len v)
            have hrec := fun w H => ih v (most - n) ls.toArray w0 w K (.box g2 [.int .i64 kd, .string (str tx), .bool bl, .slice Ai ni ci, .slice (some ⟨B, O, none⟩) nf cf, .int .i64 ln, .int .i64 cl] 121 :: M) (by omega) (by omega) (by omega) (by omega) H hlv
            have hB := hide hB
            go_wp2_with (first
             | ((with_reducible show wpList _ _ _ (_ :: _) _ _); refine wpList_load_mid (by rfl) 121 (.tmp 58) (by rfl) B (O + k * 10 + 1) (by first | rfl | simp [Act.eval, Act.put]) ls _ (range_sat hsub H.sat) Tryz.underlying121 rfl (by rw [hll]; exact hsz) ?_)
             | (go_at_call 134; refine (hrec _ H).mono ?_; clear H; rintro e w5 ⟨kk, rfl, hk1, hk2, H⟩))
            go_roundw
            case rel => exact ⟨n + kk, k + 1, by omega, by go_num, by go_num, by omega, fun h => by have := hB.out (by omega); have := hk2 (by omega); omega, H⟩
            case measure => simp [intOf]; omega
          · have hB := hide hB
            go_wp2_with fail
            replace H := Hp.tail H
            go_ret
            exact ⟨n, rfl, by omega, fun h => by omega, H⟩
        · have hkI : ¬ (k : Int) < (nf : Int) := by omega
          have htk : flds.take k = flds := List.take_of_length_le (by rw [HNF.out]; omega)
          rw [htk] at hB hA
          have hB := hide hB
          go_wp2_with fail
          replace H := Hp.tail H
          go_ret
          exact ⟨n, rfl, by omega, fun h => by have := hB.out h; omega, H⟩
     · by_cases hlt : k < ni
       · have hkI : (k : Int) < (ni : Int) := by omega
         go_wp2_with fail
         go_loopw [5, 8] (fun vn vi wr => ∃ (n k : Nat), k ≤ nf ∧ vn = .int .i64 n ∧ vi = .int .i64 k ∧ n + 3 * k ≤ 1 + nf + 2 * litsN items + 2 * pairsN (flds.take k) ∧ ((n : Int) ≤ most → litsN items + nf + 1 + pairsN (flds.take k) ≤ n + k) ∧ Hp w0 wr K (.box g2 [.int .i64 kd, .string (str tx), .bool bl, .slice Ai ni ci, .slice Af nf cf, .int .i64 ln, .int .i64 cl] 121 :: M)) (fun _ vi _ => nf - (intOf vi).toNat)
         case atStart => exact ⟨n, 0, Nat.zero_le _, rfl, rfl, by simp [pairsN]; omega, fun h => by have := hB'.out h; simp [pairsN]; omega, H⟩
         case round =>
          clear H c3 c4 hA' hB' hkI
          obtain ⟨n, k, hk, rfl, rfl, hA, hB, H⟩ := hrel
          have hrest := pairsN_rest flds k
          rw [HNF.out] at hrest
          have c3 : (wr).cell? ⟨g2, 3, none⟩ = some (.slice Ai ni ci) := H.cell (i := 0) rfl rfl
          have c4 : (wr).cell? ⟨g2, 4, none⟩ = some (.slice Af nf cf) := H.cell (i := 0) rfl rfl
          by_cases hlt : k < nf
          · have hkI : (k : Int) < (nf : Int) := by omega
            by_cases hnm : (n : Int) ≤ most
            · obtain ⟨x, hx⟩ : ∃ x, flds[k]? = some x := ⟨_, List.getElem?_eq_getElem (by rw [HNF.out]; exact hlt)⟩
              have hat := pairsN_at hx
              have hnx := pairsN_next hx
              rw [pairsL_eq] at hfl
              obtain ⟨ad, xs, hA2, hxd, hxl, hatK⟩ := elem_k (m := 10) (f := pairL) pairL_len hfl hx (by omega)
              subst hA2
              obtain ⟨B, O, hBO⟩ := slice_plain (m := 10) (f := pairL) pairL_len hfl (by rw [HNF.out]; omega) (by omega)
              subst hBO
              rw [plain_add] at hatK
              have hrK := at_range hatK
              clear hx
              obtain ⟨nm, v, pl, pc⟩ := x
              simp only [pairN] at hat hnx
              obtain ⟨ls, hls, hlv⟩ := pair_cells hxd
              subst hls
              have hsub := range_mid (pre := [.string (str nm)]) (us := ls) (post := [.int .i64 pl, .int .i64 pc]) hrK
              have hll : ls.length = 7 := hlv.len.trans (litL_len v)
              have hrec := fun w H => ih v (most - n) ls.toArray w0 w K (.box g2 [.int .i64 kd, .string (str tx), .bool bl, .slice Ai ni ci, .slice (some ⟨B, O, none⟩) nf cf, .int .i64 ln, .int .i64 cl] 121 :: M) (by omega) (by omega) (by omega) (by omega) H hlv
              have hB := hide hB
              go_wp2_with (first
               | ((with_reducible show wpList _ _ _ (_ :: _) _ _); refine wpList_load_mid (by rfl) 121 (.tmp 58) (by rfl) B (O + k * 10 + 1) (by first | rfl | simp [Act.eval, Act.put]) ls _ (range_sat hsub H.sat) Tryz.underlying121 rfl (by rw [hll]; exact hsz) ?_)
               | (go_at_call 134; refine (hrec _ H).mono ?_; clear H; rintro e w5 ⟨kk, rfl, hk1, hk2, H⟩))
              go_roundw
              case rel => exact ⟨n + kk, k + 1, by omega, by go_num, by go_num, by omega, fun h => by have := hB.out (by omega); have := hk2 (by omega); omega, H⟩
              case measure => simp [intOf]; omega
            · have hB := hide hB
              go_wp2_with fail
              replace H := Hp.tail H
              go_ret
              exact ⟨n, rfl, by omega, fun h => by omega, H⟩
          · have hkI : ¬ (k : Int) < (nf : Int) := by omega
            have htk : flds.take k = flds := List.take_of_length_le (by rw [HNF.out]; omega)
            rw [htk] at hB hA
            have hB := hide hB
            go_wp2_with fail
            replace H := Hp.tail H
            go_ret
            exact ⟨n, rfl, by omega, fun h => by have := hB.out h; omega, H⟩
       · have hkI : ¬ (k : Int) < (ni : Int) := by omega
         go_wp2_with fail
         go_loopw [5, 8] (fun vn vi wr => ∃ (n k : Nat), k ≤ nf ∧ vn = .int .i64 n ∧ vi = .int .i64 k ∧ n + 3 * k ≤ 1 + nf + 2 * litsN items + 2 * pairsN (flds.take k) ∧ ((n : Int) ≤ most → litsN items + nf + 1 + pairsN (flds.take k) ≤ n + k) ∧ Hp w0 wr K (.box g2 [.int .i64 kd, .string (str tx), .bool bl, .slice Ai ni ci, .slice Af nf cf, .int .i64 ln, .int .i64 cl] 121 :: M)) (fun _ vi _ => nf - (intOf vi).toNat)
         case atStart => exact ⟨n, 0, Nat.zero_le _, rfl, rfl, by simp [pairsN]; omega, fun h => by have := hB'.out h; simp [pairsN]; omega, H⟩
         case round =>
          clear H c3 c4 hA' hB' hkI
          obtain ⟨n, k, hk, rfl, rfl, hA, hB, H⟩ := hrel
          have hrest := pairsN_rest flds k
          rw [HNF.out] at hrest
          have c3 : (wr).cell? ⟨g2, 3, none⟩ = some (.slice Ai ni ci) := H.cell (i := 0) rfl rfl
          have c4 : (wr).cell? ⟨g2, 4, none⟩ = some (.slice Af nf cf) := H.cell (i := 0) rfl rfl
          by_cases hlt : k < nf
          · have hkI : (k : Int) < (nf : Int) := by omega
            by_cases hnm : (n : Int) ≤ most
            · obtain ⟨x, hx⟩ : ∃ x, flds[k]? = some x := ⟨_, List.getElem?_eq_getElem (by rw [HNF.out]; exact hlt)⟩
              have hat := pairsN_at hx
              have hnx := pairsN_next hx
              rw [pairsL_eq] at hfl
              obtain ⟨ad, xs, hA2, hxd, hxl, hatK⟩ := elem_k (m := 10) (f := pairL) pairL_len hfl hx (by omega)
              subst hA2
              obtain ⟨B, O, hBO⟩ := slice_plain (m := 10) (f := pairL) pairL_len hfl (by rw [HNF.out]; omega) (by omega)
              subst hBO
              rw [plain_add] at hatK
              have hrK := at_range hatK
              clear hx
              obtain ⟨nm, v, pl, pc⟩ := x
              simp only [pairN] at hat hnx
              obtain ⟨ls, hls, hlv⟩ := pair_cells hxd
              subst hls
              have hsub := range_mid (pre := [.string (str nm)]) (us := ls) (post := [.int .i64 pl, .int .i64 pc]) hrK
              have hll : ls.length = 7 := hlv.len.trans (litL_len v)
              have hrec := fun w H => ih v (most - n) ls.toArray w0 w K (.box g2 [.int .i64 kd, .string (str tx), .bool bl, .slice Ai ni ci, .slice (some ⟨B, O, none⟩) nf cf, .int .i64 ln, .int .i64 cl] 121 :: M) (by omega) (by omega) (by omega) (by omega) H hlv
              have hB := hide hB
              go_wp2_with (first
               | ((with_reducible show wpList _ _ _ (_ :: _) _ _); refine wpList_load_mid (by rfl) 121 (.tmp 58) (by rfl) B (O + k * 10 + 1) (by first | rfl | simp [Act.eval, Act.put]) ls _ (range_sat hsub H.sat) Tryz.underlying121 rfl (by rw [hll]; exact hsz) ?_)
               | (go_at_call 134; refine (hrec _ H).mono ?_; clear H; rintro e w5 ⟨kk, rfl, hk1, hk2, H⟩))
              go_roundw
              case rel => exact ⟨n + kk, k + 1, by omega, by go_num, by go_num, by omega, fun h => by have := hB.out (by omega); have := hk2 (by omega); omega, H⟩
              case measure => simp [intOf]; omega
            · have hB := hide hB
              go_wp2_with fail
              replace H := Hp.tail H
              go_ret
              exact ⟨n, rfl, by omega, fun h => by omega, H⟩
          · have hkI : ¬ (k : Int) < (nf : Int) := by omega
            have htk : flds.take k = flds := List.take_of_length_le (by rw [HNF.out]; omega)
            rw [htk] at hB hA
            have hB := hide hB
            go_wp2_with fail
            replace H := Hp.tail H
            go_ret
            exact ⟨n, rfl, by omega, fun h => by have := hB.out h; omega, H⟩
def argsN (d : DirD) : Nat := pairsN d.args
theorem sum_next {α : Type} {f : α → Nat} {l : List α} {k : Nat} {x : α} (h : l[k]? = some x) : sumN f (l.take (k + 1)) = sumN f (l.take k) + f x := by
 rw [take_next h, sum_app]; simp [sumN]
theorem sum_at {α : Type} {f : α → Nat} {l : List α} {k : Nat} {x : α} (h : l[k]? = some x) : sumN f (l.take k) + f x ≤ sumN f l := by
 have h2 := sum_app (f := f) (l.take (k + 1)) (l.drop (k + 1))
 rw [List.take_append_drop, sum_next h] at h2
 omega
theorem dirs_args : ∀ l : List DirD, sumN dirN l = sumN argsN l + l.length
 | [] => rfl
 | d :: r => by have := dirs_args r; simp only [sumN, dirN, argsN, List.length_cons] at *; omega
set_option maxHeartbeats 16000000 in
theorem SizeDirs_hp (l : List DirD) (most : Int) (nd c : Nat) (A : Option Addr) (w0 w K : World) (M : List Ent) (hN : sumN dirN l ≤ 2000000) (hm1 : -5000000 ≤ most) (hm2 : most ≤ 5000000) (H : Hp w0 w K M) (hn : l.length = nd) (hd : RD K (.list nd (dirsL l)) (.slice A nd c)) :
  Calls Tryz.prog 94 #[.slice A nd c, .int .i64 most] w fun e w' => ∃ n : Nat, e = .returned (.int .i64 n) ∧ n ≤ 2 * sumN dirN l ∧ ((n : Int) ≤ most → sumN dirN l ≤ n) ∧ Hp w0 w' K M := by
 have hda := dirs_args l
 rw [hn] at hda
 have HN := hide hn
 clear hn
 rw [hda] at hN ⊢
 have hsz := lit_size
 go_enter Tryz.func94, Tryz.ntmps94
 go_wp2_with fail
 go_loopw [5, 6] (fun vn vi wr => ∃ (n k : Nat), k ≤ nd ∧ vn = .int .i64 n ∧ vi = .int .i64 k ∧ n ≤ nd + 2 * sumN argsN (l.take k) ∧ ((n : Int) ≤ most → nd + sumN argsN (l.take k) ≤ n) ∧ Hp w0 wr K M) (fun _ vi _ => nd - (intOf vi).toNat)
 case atStart => exact ⟨nd, 0, Nat.zero_le _, rfl, rfl, by omega, fun _ => by simp [sumN], H⟩
 case round =>
  clear H
  obtain ⟨n, k, hk, rfl, rfl, hA, hB, H⟩ := hrel
  have htk2 := sum_take (f := argsN) l k
  by_cases hlt : k < nd
  · have hkI : (k : Int) < (nd : Int) := by omega
    by_cases hnm : (n : Int) ≤ most
    · obtain ⟨d, hx⟩ : ∃ x, l[k]? = some x := ⟨_, List.getElem?_eq_getElem (by rw [HN.out]; exact hlt)⟩
      have hat := sum_at (f := argsN) hx
      have hnx := sum_next (f := argsN) hx
      obtain ⟨ad, xs, hA2, hxd, hxl, hatK⟩ := elem_k (m := 4) (f := dirL) (fun _ => rfl) hd hx (by omega)
      subst hA2
      obtain ⟨B, O, hBO⟩ := slice_plain (m := 4) (f := dirL) (fun _ => rfl) hd (by rw [HN.out]; omega) (by omega)
      subst hBO
      rw [plain_add] at hatK
      clear hx
      obtain ⟨A1, c1, hxs, ha⟩ := dir_cells hxd
      subst hxs
      have hcI := H.sat.cell (hatK.2 0 _ rfl)
      have hB := hide hB
      obtain ⟨na, hna⟩ : ∃ z, d.args.length = z := ⟨_, rfl⟩
      have HNA := hide hna
      have hpl := pairsN_len d.args
      rw [hna] at hcI ha hpl
      have hatN := hatK.2 0 _ rfl
      rw [hna] at hatN
      clear hna
      have hP : argsN d = pairsN d.args := rfl
      rw [hP] at hat hnx
      go_wp2_with fail
      go_loopw [5, 7] (fun vn vi wr => ∃ (n j : Nat), j ≤ na ∧ vn = .int .i64 n ∧ vi = .int .i64 j ∧ n + 3 * j ≤ nd + 2 * sumN argsN (l.take k) + na + 2 * pairsN (d.args.take j) ∧ ((n : Int) ≤ most → nd + sumN argsN (l.take k) + na + pairsN (d.args.take j) ≤ n + j) ∧ Hp w0 wr K M) (fun _ vi _ => na - (intOf vi).toNat)
      case atStart => exact ⟨n + na, 0, Nat.zero_le _, by go_num, rfl, by simp [pairsN]; omega, fun h => by have := hB.out (by omega); simp [pairsN]; omega, H⟩
      case round =>
       clear H hcI
       obtain ⟨n2, j, hj, rfl, rfl, hA2, hB2, H⟩ := hrel
       have hcI := H.sat.cell hatN
       have hrest := pairsN_rest d.args j
       rw [HNA.out] at hrest
       by_cases hjl : j < na
       · have hjI : (j : Int) < (na : Int) := by omega
         by_cases hnm2 : (n2 : Int) ≤ most
         · obtain ⟨x, hx⟩ : ∃ x, d.args[j]? = some x := ⟨_, List.getElem?_eq_getElem (by rw [HNA.out]; exact hjl)⟩
           have hat2 := pairsN_at hx
           have hnx2 := pairsN_next hx
           rw [pairsL_eq] at ha
           obtain ⟨ad2, ys, hA3, hyd, hyl, hyK⟩ := elem_k (m := 10) (f := pairL) pairL_len ha hx (by omega)
           subst hA3
           obtain ⟨B2, O2, hBO2⟩ := slice_plain (m := 10) (f := pairL) pairL_len ha (by rw [HNA.out]; omega) (by omega)
           subst hBO2
           rw [plain_add] at hyK
           have hrK := at_range hyK
           clear hx
           obtain ⟨nm, v, pl, pc⟩ := x
           simp only [pairN] at hat2 hnx2
           obtain ⟨ls, hls, hlv⟩ := pair_cells hyd
           subst hls
           have hsub := range_mid (pre := [.string (str nm)]) (us := ls) (post := [.int .i64 pl, .int .i64 pc]) hrK
           have hll : ls.length = 7 := hlv.len.trans (litL_len v)
           have hrec := fun w H => SizeLit_hp 2000000 v (most - n2) ls.toArray w0 w K M (by omega) (by omega) (by omega) (by omega) H hlv
           have hB2 := hide hB2
           go_wp2_with (first
            | ((with_reducible show wpList _ _ _ (_ :: _) _ _); refine wpList_load_mid (by rfl) 121 (.tmp 52) (by rfl) B2 (O2 + j * 10 + 1) (by first | rfl | simp [Act.eval, Act.put]) ls _ (range_sat hsub H.sat) Tryz.underlying121 rfl (by rw [hll]; exact hsz) ?_)
            | (go_at_call 134; refine (hrec _ H).mono ?_; clear H; rintro e w5 ⟨kk, rfl, hk1, hk2, H⟩))
           go_roundw
           case rel => exact ⟨n2 + kk, j + 1, by omega, by go_num, by go_num, by omega, fun h => by have := hB2.out (by omega); have := hk2 (by omega); omega, H⟩
           case measure => simp [intOf]; omega
         · have hB2 := hide hB2
           go_wp2_with fail
           go_roundw
           case rel => exact ⟨n2, k + 1, by omega, rfl, by go_num, by omega, fun h => by omega, H⟩
           case measure => simp [intOf]; omega
       · have hjI : ¬ (j : Int) < (na : Int) := by omega
         have htj : d.args.take j = d.args := List.take_of_length_le (by rw [HNA.out]; omega)
         rw [htj] at hA2 hB2
         have hB2 := hide hB2
         go_wp2_with fail
         go_roundw
         case rel => exact ⟨n2, k + 1, by omega, rfl, by go_num, by omega, fun h => by have := hB2.out h; omega, H⟩
         case measure => simp [intOf]; omega
    · have hB := hide hB
      go_wp2_with fail
      go_ret
      exact ⟨n, rfl, by omega, fun h => by omega, H⟩
  · have hkI : ¬ (k : Int) < (nd : Int) := by omega
    have htk : l.take k = l := List.take_of_length_le (by rw [HN.out]; omega)
    rw [htk] at hB hA
    have hB := hide hB
    go_wp2_with fail
    go_ret
    exact ⟨n, rfl, by omega, fun h => by have := hB.out h; omega, H⟩
def partN (d : InputD) : Nat := litN d.lit + sumN dirN d.dirs
theorem inputs_part : ∀ l : List InputD, sumN inputN l = sumN partN l + l.length
 | [] => rfl
 | d :: r => by have := inputs_part r; simp only [sumN, inputN, partN, List.length_cons] at *; omega
set_option maxHeartbeats 16000000 in
theorem SizeInputs_hp (l : List InputD) (most : Int) (nd c : Nat) (A : Option Addr) (w0 w K : World) (M : List Ent) (hN : sumN inputN l ≤ 2000000) (hw : ∀ x ∈ l, (str x.ty.2).size ≤ 2000000) (hm1 : -5000000 ≤ most) (hm2 : most ≤ 5000000) (H : Hp w0 w K M) (hn : l.length = nd) (hd : RD K (.list nd (inputsL l)) (.slice A nd c)) :
  Calls Tryz.prog 93 #[.slice A nd c, .int .i64 most] w fun e w' => ∃ n : Nat, e = .returned (.int .i64 n) ∧ n ≤ 20000000 ∧ ((n : Int) ≤ most → sumN inputN l ≤ n) ∧ Hp w0 w' K M := by
 have hda := inputs_part l
 rw [hn] at hda
 have HN := hide hn
 clear hn
 rw [hda] at hN ⊢
 have hsz := lit_size
 go_enter Tryz.func93, Tryz.ntmps93
 go_wp2_with fail
 go_loopw [5, 6, 7, 8] (fun vn vi vd vk wr => ∃ (n k : Nat), k ≤ nd ∧ vn = .int .i64 n ∧ vi = .int .i64 k ∧ n ≤ 20000000 ∧ ((n : Int) ≤ most → nd + sumN partN (l.take k) ≤ n) ∧ Hp w0 wr K M) (fun _ vi _ _ _ => nd - (intOf vi).toNat)
 case atStart => exact ⟨nd, 0, Nat.zero_le _, rfl, rfl, by omega, fun _ => by simp [sumN], H⟩
 case round =>
  clear H
  obtain ⟨n, k, hk, rfl, rfl, hA, hB, H⟩ := hrel
  by_cases hlt : k < nd
  · have hkI : (k : Int) < (nd : Int) := by omega
    by_cases hnm : (n : Int) ≤ most
    · obtain ⟨d, hx⟩ : ∃ x, l[k]? = some x := ⟨_, List.getElem?_eq_getElem (by rw [HN.out]; exact hlt)⟩
      have hat := sum_at (f := partN) hx
      have hnx := sum_next (f := partN) hx
      have hwx := hw d (List.mem_of_getElem? hx)
      obtain ⟨ad, xs, hA2, hxd, hxl, hatK⟩ := elem_k (m := 17) (f := inputL) inputL_len hd hx (by omega)
      subst hA2
      obtain ⟨B, O, hBO⟩ := slice_plain (m := 17) (f := inputL) inputL_len hd (by rw [HN.out]; omega) (by omega)
      subst hBO
      rw [plain_add] at hatK
      clear hx
      obtain ⟨⟨nh, nb, nt⟩, dn, ⟨tn, tw⟩, dh, lit, dirs, dl, dc⟩ := d
      simp only [partN] at hat hnx
      simp only at hwx
      obtain ⟨ls, Ad, cd, rfl, hll, hdd⟩ := input_cells hxd
      have hrK := at_range hatK
      have hsub := range_mid (pre := [.bool nh, .bool nb, .string (str nt), .string (str dn), .string (str tn), .string (str tw), .bool dh]) (us := ls) (post := [.slice Ad dirs.length cd, .int .i64 dl, .int .i64 dc]) hrK
      have hl7 : ls.length = 7 := hll.len.trans (litL_len lit)
      have h5 := hrK 5 _ rfl
      have h14 := hrK 14 (.slice Ad dirs.length cd) (by simp [List.getElem?_append, hl7])
      have hc5 := H.sat.cell h5
      obtain ⟨nn, hnn⟩ : ∃ z, dirs.length = z := ⟨_, rfl⟩
      rw [hnn] at h14 hdd
      have hrec := fun w H => SizeLit_hp 2000000 lit most ls.toArray w0 w K M (by omega) (by omega) (by omega) (by omega) H hll
      have hrec2 := fun w H => SizeDirs_hp dirs most nn cd Ad w0 w K M (by omega) hm1 hm2 H hnn hdd
      have hB := hide hB
      clear hnn
      go_wp2_with (first
       | ((with_reducible show wpList _ _ _ (_ :: _) _ _); refine wpList_load_mid (by rfl) 121 (.tmp 34) (by rfl) B (O + k * 17 + 7) (by first | rfl | simp [Act.eval, Act.put]) ls _ (range_sat hsub H.sat) Tryz.underlying121 rfl (by rw [hl7]; exact hsz) ?_)
       | (go_at_call 134; refine (hrec _ H).mono ?_; clear H; rintro e w5 ⟨kk, rfl, hk1, hk2, H⟩; have hc14 := H.sat.cell h14)
       | (go_at_call 94; refine (hrec2 _ H).mono ?_; clear H; rintro e w6 ⟨kd, rfl, hk3, hk4, H⟩))
      go_roundw
      case rel => exact ⟨n + (str tw).size + kk + kd, k + 1, by omega, by go_num, by go_num, by omega, fun h => by have := hB.out (by omega); have := hk2 (by omega); have := hk4 (by omega); omega, H⟩
      case measure => simp [intOf]; omega
    · have hB := hide hB
      go_wp2_with fail
      go_ret
      exact ⟨n, rfl, by omega, fun h => by omega, H⟩
  · have hkI : ¬ (k : Int) < (nd : Int) := by omega
    have htk : l.take k = l := List.take_of_length_le (by rw [HN.out]; omega)
    rw [htk] at hB
    have hB := hide hB
    go_wp2_with fail
    go_ret
    exact ⟨n, rfl, by omega, fun h => by have := hB.out h; omega, H⟩
def WrapOk (d : DefD) : Prop := (∀ x ∈ d.inputs, (str x.ty.2).size ≤ 2000000) ∧ ∀ f ∈ d.fields, (str f.ty.2).size ≤ 2000000 ∧ ∀ x ∈ f.args, (str x.ty.2).size ≤ 2000000
def dpN (d : DefD) : Nat := d.ifaces.length + sumN dirN d.dirs + sumN fieldN d.fields + sumN inputN d.inputs + d.members.length + sumN valueN d.values + d.roots.length + d.places.length
theorem defs_part : ∀ l : List DefD, defsN l = sumN dpN l + l.length
 | [] => rfl
 | d :: r => by have := defs_part r; simp only [defsN, sumN, defN, dpN, List.length_cons] at *; omega
theorem fields_len (l : List FieldD) : l.length ≤ sumN fieldN l := sum_len fieldN_pos l
theorem values_len (l : List ValueD) : l.length ≤ sumN valueN l := sum_len (fun _ => Nat.succ_pos _) l
set_option maxHeartbeats 32000000 in
theorem SizeDefs_hp (l : List DefD) (most : Int) (nd c : Nat) (A : Option Addr) (w0 w K : World) (M : List Ent) (hN : defsN l ≤ 2000000) (hw : ∀ d ∈ l, WrapOk d) (hm1 : -5000000 ≤ most) (hm2 : most ≤ 5000000) (H : Hp w0 w K M) (hn : l.length = nd) (hd : RD K (.list nd (defsL l)) (.slice A nd c)) :
  Calls Tryz.prog 54 #[.slice A nd c, .int .i64 most] w fun e w' => ∃ n : Nat, e = .returned (.int .i64 n) ∧ ((n : Int) ≤ most → defsN l ≤ n) ∧ Hp w0 w' K M := by
 have hda := defs_part l
 rw [hn] at hda
 have HN := hide hn
 clear hn
 rw [hda] at hN ⊢
 have hsz : (Tryz.prog.info? 43).map (·.size) = some 17 := def_size
 go_enter Tryz.func54, Tryz.ntmps54
 go_wp2_with fail
 go_loopw [5, 6, 7, 8, 9, 10, 11] (fun vn vi _ _ _ _ _ wr => ∃ (n k : Nat), k ≤ nd ∧ vn = .int .i64 n ∧ vi = .int .i64 k ∧ n ≤ 200000000 ∧ ((n : Int) ≤ most → nd + sumN dpN (l.take k) ≤ n) ∧ Hp w0 wr K M) (fun _ vi _ _ _ _ _ _ => nd - (intOf vi).toNat)
 case atStart => exact ⟨nd, 0, Nat.zero_le _, rfl, rfl, by omega, fun _ => by simp [sumN], H⟩
 case round =>
  clear H
  obtain ⟨n, k, hk, rfl, rfl, hA, hB, H⟩ := hrel
  by_cases hlt : k < nd
  · have hkI : (k : Int) < (nd : Int) := by omega
    by_cases hnm : (n : Int) ≤ most
    · obtain ⟨x, hx⟩ : ∃ x, l[k]? = some x := ⟨_, List.getElem?_eq_getElem (by rw [HN.out]; exact hlt)⟩
      have hat := sum_at (f := dpN) hx
      have hnx := sum_next (f := dpN) hx
      have hwx := hide (hw x (List.mem_of_getElem? hx))
      obtain ⟨ad, xs, had, hxd, hxl, hatK⟩ := elem_k (m := 17) (f := defL) defL_len hd hx (by omega)
      subst had
      obtain ⟨A6, c6, A7, c7, A8, c8, A9, c9, A10, c10, A11, c11, A12, c12, A14, c14, hxs, d6, d7, d8, d9, d10, d11, d12, d14⟩ := def_cells hxd
      have hD : dpN x = x.ifaces.length + sumN dirN x.dirs + sumN fieldN x.fields + sumN inputN x.inputs + x.members.length + sumN valueN x.values + x.roots.length + x.places.length := rfl
      have hfl := fields_len x.fields
      have hvl := values_len x.values
      clear hx hxd
      subst hxs
      obtain ⟨nf, hnf⟩ : ∃ z, x.fields.length = z := ⟨_, rfl⟩
      obtain ⟨nv, hnv⟩ : ∃ z, x.values.length = z := ⟨_, rfl⟩
      have HNF := hide hnf
      have HNV := hide hnv
      rw [hnf] at hatK hfl d8
      rw [hnv] at hatK hvl d11
      clear hnf hnv
      have hnvl : nv ≤ 2000000 := by omega
      have hnfl : nf ≤ 2000000 := by omega
      have hndl : nd ≤ 2000000 := by omega
      obtain ⟨base, hbase⟩ : ∃ z, nd + sumN dpN (l.take k) + x.ifaces.length + x.members.length + x.places.length + x.roots.length + sumN inputN x.inputs + sumN dirN x.dirs = z := ⟨_, rfl⟩
      have hBs := hide hB
      clear hB
      go_upto_region 10 with (first
       | (go_at_call 93; refine (SizeInputs_hp x.inputs most x.inputs.length c9 A9 _ _ _ _ (by omega) hwx.out.1 hm1 hm2 H rfl d9).mono ?_; clear H; rintro e w6 ⟨ki, rfl, hk1, hk2, H⟩; have := H.c 0 6; have := H.c 0 10; have := H.c 0 14; have := H.c 0 12; have := H.c 0 9; have := H.c 0 7)
       | (go_at_call 94; refine (SizeDirs_hp x.dirs most x.dirs.length c7 A7 _ _ _ _ (by omega) hm1 hm2 H rfl d7).mono ?_; clear H; rintro e w7 ⟨kd, rfl, hk3, hk4, H⟩; have := H.c 0 6; have := H.c 0 10; have := H.c 0 14; have := H.c 0 12; have := H.c 0 9; have := H.c 0 7)
       | ((with_reducible show wpList _ _ _ (_ :: _) _ _); refine wpList_load_at (by rfl) 43 (.tmp 27) (by rfl) (ad.add (k * 17)) (by simp [Act.eval, Act.put]) _ _ (At.sat hatK H.sat) Tryz.underlying43 rfl hsz ?_)
       | ((with_reducible refine isL ?_); first
        | (refine al z43 7 H ?_; clear H; intro w1 g7 H; have := H.c 0 6; have := H.c 0 10; have := H.c 0 14; have := H.c 0 12; have := H.c 0 9; have := H.c 0 7)
        | (refine sA 7 0 H ?_; clear H; intro w3 H; have := H.c 0 6; have := H.c 0 10; have := H.c 0 14; have := H.c 0 12; have := H.c 0 9; have := H.c 0 7)))
      go_wp2_with fail
      go_loopw [5, 8, 10] (fun vn _ vi wr => ∃ (n j : Nat), j ≤ nv ∧ vn = .int .i64 n ∧ vi = .int .i64 j ∧ n ≤ 100000000 ∧ ((n : Int) ≤ most → base + sumN valueN (x.values.take j) ≤ n) ∧ Hp w0 wr K (.box g7 [.int .i64 x.kind, .bool x.ext, .bool x.note.has, .bool x.note.block, .string (str x.note.text), .string (str x.name), .slice A6 x.ifaces.length c6, .slice A7 x.dirs.length c7, .slice A8 nf c8, .slice A9 x.inputs.length c9, .slice A10 x.members.length c10, .slice A11 nv c11, .slice A12 x.roots.length c12, .bool x.rep, .slice A14 x.places.length c14, .int .i64 x.line, .int .i64 x.col] 43 :: M)) (fun _ _ vi _ => nv - (intOf vi).toNat)
      case atStart => exact ⟨_, 0, Nat.zero_le _, by go_num, rfl, by omega, fun h => by have := hBs.out hnm; have := hk2 (by omega); have := hk4 (by omega); simp [sumN]; omega, H⟩
      case round =>
       clear H
       obtain ⟨n2, j, hj, rfl, rfl, hA2, hB2, H⟩ := hrel
       have cf1 : wr.cell? ⟨g7, 11, none⟩ = some (.slice A11 nv c11) := H.cell (i := 0) rfl rfl
       by_cases hgo : j < nv ∧ (n2 : Int) ≤ most
       · obtain ⟨hjl, hnm2⟩ := hgo
         have hjI : (j : Int) < (nv : Int) := by omega
         obtain ⟨v, hv⟩ : ∃ v, x.values[j]? = some v := ⟨_, List.getElem?_eq_getElem (by rw [HNV.out]; exact hjl)⟩
         have hat2 := sum_at (f := valueN) hv
         have hnx2 := sum_next (f := valueN) hv
         obtain ⟨ad2, ys, hA3, hyd, hyl, hyK⟩ := elem_k (m := 7) (f := valueL) (fun _ => rfl) d11 hv (by omega)
         subst hA3
         obtain ⟨B2, O2, hBO2⟩ := slice_plain (m := 7) (f := valueL) (fun _ => rfl) d11 (by rw [HNV.out]; omega) (by omega)
         subst hBO2
         rw [plain_add] at hyK
         have hrK := at_range hyK
         clear hv
         obtain ⟨⟨nh, nb, nt⟩, dn, dirs, dl, dc⟩ := v
         simp only [valueN] at hat2 hnx2
         obtain ⟨A2, c2, hys, hdd⟩ := value_cells hyd
         subst hys
         have h4 := H.sat.cell (hrK 4 _ rfl)
         have hB2 := hide hB2
         have e1 : sumN dirN dirs ≤ 2000000 := by omega
         have HE := hide hnx2
         clear hA2 hat2 hnx2 hfl hvl hat hnx hD hbase hda hN hd hw hwx d6 d7 d8 d9 d10 d12 d14 hatK hA HNF hBs hk1 hk2 hk3 hk4 hyd hyl hyK
         go_wp2_with (first
          | (go_at_call 94; refine (SizeDirs_hp dirs most dirs.length c2 A2 _ _ _ _ e1 hm1 hm2 H rfl hdd).mono ?_; clear H; rintro e w9 ⟨kk, rfl, hk5, hk6, H⟩))
         go_roundw
         case rel => exact ⟨n2 + kk + 1, j + 1, by omega, by go_num, by go_num, by omega, fun h => by have := HE.out; have := hB2.out (by omega); have := hk6 (by omega); omega, H⟩
         case measure => simp [intOf]; omega
       · have hF : Hid ((n2 : Int) ≤ most → base + sumN valueN x.values ≤ n2) := fun h => by
          have hjn : j = nv := by omega
          have htj : x.values.take j = x.values := List.take_of_length_le (by rw [HNV.out]; omega)
          rw [htj] at hB2
          exact hB2 h
         have hD2 := hide hD
         have hC : j < nv ∧ ¬ (n2 : Int) ≤ most ∨ ¬ (j : Int) < (nv : Int) := by omega
         have hx0 : sumN fieldN x.fields ≤ 2000000 := by omega
         clear hgo hB2 hvl hD hda hN hd hw d6 d7 d9 d10 d11 d12 d14 hatK hA HNV hBs hk1 hk2 hk3 hk4 hat hfl hnvl
         have HB := hide hbase
         have HNX := hide hnx
         clear hbase hnx
         have cf2 : wr.cell? ⟨g7, 8, none⟩ = some (.slice A8 nf c8) := H.cell (i := 0) rfl rfl
         rcases hC with ⟨hjl, hnm2⟩ | hjI
         · have hjI : (j : Int) < (nv : Int) := by omega
           go_wp2_with fail
           go_loopw [5, 8, 9, 11] (fun vn _ _ vi wr => ∃ (n j : Nat), j ≤ nf ∧ vn = .int .i64 n ∧ vi = .int .i64 j ∧ n ≤ 150000000 ∧ Hid ((n : Int) ≤ most → base + sumN valueN x.values + sumN fieldN (x.fields.take j) ≤ n) ∧ Hp w0 wr K (.box g7 [.int .i64 x.kind, .bool x.ext, .bool x.note.has, .bool x.note.block, .string (str x.note.text), .string (str x.name), .slice A6 x.ifaces.length c6, .slice A7 x.dirs.length c7, .slice A8 nf c8, .slice A9 x.inputs.length c9, .slice A10 x.members.length c10, .slice A11 nv c11, .slice A12 x.roots.length c12, .bool x.rep, .slice A14 x.places.length c14, .int .i64 x.line, .int .i64 x.col] 43 :: M)) (fun _ _ _ vi _ => nf - (intOf vi).toNat)
           case atStart => exact ⟨n2, 0, Nat.zero_le _, rfl, rfl, by omega, fun h => by have := hF.out h; simp [sumN]; omega, H⟩
           case round =>
            clear H cf1 cf2
            obtain ⟨n3, q, hq, rfl, rfl, hA3, hB3, H⟩ := hrel
            have cf3 : wr.cell? ⟨g7, 8, none⟩ = some (.slice A8 nf c8) := H.cell (i := 0) rfl rfl
            by_cases hgo : q < nf ∧ (n3 : Int) ≤ most
            · obtain ⟨hql, hnm3⟩ := hgo
              have hqI : (q : Int) < (nf : Int) := by omega
              obtain ⟨v, hv⟩ : ∃ v, x.fields[q]? = some v := ⟨_, List.getElem?_eq_getElem (by rw [HNF.out]; exact hql)⟩
              have hat2 := sum_at (f := fieldN) hv
              have hnx2 := hide (sum_next (f := fieldN) hv)
              have hwf := hwx.out.2 v (List.mem_of_getElem? hv)
              obtain ⟨ad2, ys, hA4, hyd, hyl, hyK⟩ := elem_k (m := 10) (f := fieldL) (fun _ => rfl) d8 hv (by omega)
              subst hA4
              obtain ⟨B2, O2, hBO2⟩ := slice_plain (m := 10) (f := fieldL) (fun _ => rfl) d8 (by rw [HNF.out]; omega) (by omega)
              subst hBO2
              rw [plain_add] at hyK
              have hrK := at_range hyK
              clear hv
              obtain ⟨⟨nh, nb, nt⟩, dn, args, ⟨tn, tw⟩, dirs, dl, dc⟩ := v
              obtain ⟨A2, c2, A3, c3, hys, hda, hdd⟩ := field_cells hyd
              subst hys
              simp only at hwf
              obtain ⟨hw1, hw2⟩ := hwf
              have hw2 := hide hw2
              have hfN : fieldN ⟨⟨nh, nb, nt⟩, dn, args, (tn, tw), dirs, dl, dc⟩ = sumN inputN args + sumN dirN dirs + 1 := rfl
              have e1 : sumN dirN dirs ≤ 2000000 := by omega
              have e2 : sumN inputN args ≤ 2000000 := by omega
              have HFN := hide hfN
              have h4 := H.sat.cell (hrK 4 _ rfl)
              have h6 := H.sat.cell (hrK 6 _ rfl)
              have h7 := H.sat.cell (hrK 7 _ rfl)
              have k6 := hrK 6 _ rfl
              have k7 := hrK 7 _ rfl
              clear hyd hyl hyK hrK hfN hat2
              go_wp2_with (first
               | (go_at_call 93; refine (SizeInputs_hp args most args.length c2 A2 _ _ _ _ e2 hw2.out hm1 hm2 H rfl hda).mono ?_; clear H h7 cf3; rintro e w9 ⟨ki2, rfl, hk5, hk6, H⟩; have h7 := H.sat.cell k7; have cf3 : w9.cell? ⟨g7, 8, none⟩ = some (.slice (some ⟨B2, O2, none⟩) nf c8) := H.cell (i := 0) rfl rfl)
               | (go_at_call 94; refine (SizeDirs_hp dirs most dirs.length c3 A3 _ _ _ _ e1 hm1 hm2 H rfl hdd).mono ?_; clear H h6 cf3; rintro e w10 ⟨kk, rfl, hk7, hk8, H⟩; have h6 := H.sat.cell k6; have cf3 : w10.cell? ⟨g7, 8, none⟩ = some (.slice (some ⟨B2, O2, none⟩) nf c8) := H.cell (i := 0) rfl rfl))
              go_roundw
              case rel => exact ⟨n3 + ki2 + kk + 1 + (str tw).size, q + 1, by omega, by go_num, by go_num, by omega, fun h => by have := hB3.out (by omega); have := hk6 (by omega); have := hk8 (by omega); have := hnx2.out; have := HFN.out; omega, H⟩
              case measure => simp [intOf]; omega
            · have hG : Hid ((n3 : Int) ≤ most → nd + sumN dpN (l.take (k + 1)) ≤ n3) := fun h => by
               have hqn : q = nf := by omega
               have htq : x.fields.take q = x.fields := List.take_of_length_le (by rw [HNF.out]; omega)
               have h1 := hB3.out h
               rw [htq] at h1
               have h2 := HB.out
               have h3 := HNX.out
               have h4 := hD2.out
               omega
              have hC : q < nf ∧ ¬ (n3 : Int) ≤ most ∨ ¬ (q : Int) < (nf : Int) := by omega
              clear hgo hB3 hF d8 hwx
              rcases hC with ⟨hql, hnm3⟩ | hqI
              · have hqI : (q : Int) < (nf : Int) := by omega
                go_wp2_with fail
                go_roundw
                case rel => exact ⟨n3, k + 1, by omega, rfl, by go_num, by omega, hG, H.tail⟩
                case measure => simp [intOf]; omega
              · go_wp2_with fail
                go_roundw
                case rel => exact ⟨n3, k + 1, by omega, rfl, by go_num, by omega, hG, H.tail⟩
                case measure => simp [intOf]; omega
         · go_wp2_with fail
           go_loopw [5, 8, 9, 11] (fun vn _ _ vi wr => ∃ (n j : Nat), j ≤ nf ∧ vn = .int .i64 n ∧ vi = .int .i64 j ∧ n ≤ 150000000 ∧ Hid ((n : Int) ≤ most → base + sumN valueN x.values + sumN fieldN (x.fields.take j) ≤ n) ∧ Hp w0 wr K (.box g7 [.int .i64 x.kind, .bool x.ext, .bool x.note.has, .bool x.note.block, .string (str x.note.text), .string (str x.name), .slice A6 x.ifaces.length c6, .slice A7 x.dirs.length c7, .slice A8 nf c8, .slice A9 x.inputs.length c9, .slice A10 x.members.length c10, .slice A11 nv c11, .slice A12 x.roots.length c12, .bool x.rep, .slice A14 x.places.length c14, .int .i64 x.line, .int .i64 x.col] 43 :: M)) (fun _ _ _ vi _ => nf - (intOf vi).toNat)
           case atStart => exact ⟨n2, 0, Nat.zero_le _, rfl, rfl, by omega, fun h => by have := hF.out h; simp [sumN]; omega, H⟩
           case round =>
            clear H cf1 cf2
            obtain ⟨n3, q, hq, rfl, rfl, hA3, hB3, H⟩ := hrel
            have cf3 : wr.cell? ⟨g7, 8, none⟩ = some (.slice A8 nf c8) := H.cell (i := 0) rfl rfl
            by_cases hgo : q < nf ∧ (n3 : Int) ≤ most
            · obtain ⟨hql, hnm3⟩ := hgo
              have hqI : (q : Int) < (nf : Int) := by omega
              obtain ⟨v, hv⟩ : ∃ v, x.fields[q]? = some v := ⟨_, List.getElem?_eq_getElem (by rw [HNF.out]; exact hql)⟩
              have hat2 := sum_at (f := fieldN) hv
              have hnx2 := hide (sum_next (f := fieldN) hv)
              have hwf := hwx.out.2 v (List.mem_of_getElem? hv)
              obtain ⟨ad2, ys, hA4, hyd, hyl, hyK⟩ := elem_k (m := 10) (f := fieldL) (fun _ => rfl) d8 hv (by omega)
              subst hA4
              obtain ⟨B2, O2, hBO2⟩ := slice_plain (m := 10) (f := fieldL) (fun _ => rfl) d8 (by rw [HNF.out]; omega) (by omega)
              subst hBO2
              rw [plain_add] at hyK
              have hrK := at_range hyK
              clear hv
              obtain ⟨⟨nh, nb, nt⟩, dn, args, ⟨tn, tw⟩, dirs, dl, dc⟩ := v
              obtain ⟨A2, c2, A3, c3, hys, hda, hdd⟩ := field_cells hyd
              subst hys
              simp only at hwf
              obtain ⟨hw1, hw2⟩ := hwf
              have hw2 := hide hw2
              have hfN : fieldN ⟨⟨nh, nb, nt⟩, dn, args, (tn, tw), dirs, dl, dc⟩ = sumN inputN args + sumN dirN dirs + 1 := rfl
              have e1 : sumN dirN dirs ≤ 2000000 := by omega
              have e2 : sumN inputN args ≤ 2000000 := by omega
              have HFN := hide hfN
              have h4 := H.sat.cell (hrK 4 _ rfl)
              have h6 := H.sat.cell (hrK 6 _ rfl)
              have h7 := H.sat.cell (hrK 7 _ rfl)
              have k6 := hrK 6 _ rfl
              have k7 := hrK 7 _ rfl
              clear hyd hyl hyK hrK hfN hat2
              go_wp2_with (first
               | (go_at_call 93; refine (SizeInputs_hp args most args.length c2 A2 _ _ _ _ e2 hw2.out hm1 hm2 H rfl hda).mono ?_; clear H h7 cf3; rintro e w9 ⟨ki2, rfl, hk5, hk6, H⟩; have h7 := H.sat.cell k7; have cf3 : w9.cell? ⟨g7, 8, none⟩ = some (.slice (some ⟨B2, O2, none⟩) nf c8) := H.cell (i := 0) rfl rfl)
               | (go_at_call 94; refine (SizeDirs_hp dirs most dirs.length c3 A3 _ _ _ _ e1 hm1 hm2 H rfl hdd).mono ?_; clear H h6 cf3; rintro e w10 ⟨kk, rfl, hk7, hk8, H⟩; have h6 := H.sat.cell k6; have cf3 : w10.cell? ⟨g7, 8, none⟩ = some (.slice (some ⟨B2, O2, none⟩) nf c8) := H.cell (i := 0) rfl rfl))
              go_roundw
              case rel => exact ⟨n3 + ki2 + kk + 1 + (str tw).size, q + 1, by omega, by go_num, by go_num, by omega, fun h => by have := hB3.out (by omega); have := hk6 (by omega); have := hk8 (by omega); have := hnx2.out; have := HFN.out; omega, H⟩
              case measure => simp [intOf]; omega
            · have hG : Hid ((n3 : Int) ≤ most → nd + sumN dpN (l.take (k + 1)) ≤ n3) := fun h => by
               have hqn : q = nf := by omega
               have htq : x.fields.take q = x.fields := List.take_of_length_le (by rw [HNF.out]; omega)
               have h1 := hB3.out h
               rw [htq] at h1
               have h2 := HB.out
               have h3 := HNX.out
               have h4 := hD2.out
               omega
              have hC : q < nf ∧ ¬ (n3 : Int) ≤ most ∨ ¬ (q : Int) < (nf : Int) := by omega
              clear hgo hB3 hF d8 hwx
              rcases hC with ⟨hql, hnm3⟩ | hqI
              · have hqI : (q : Int) < (nf : Int) := by omega
                go_wp2_with fail
                go_roundw
                case rel => exact ⟨n3, k + 1, by omega, rfl, by go_num, by omega, hG, H.tail⟩
                case measure => simp [intOf]; omega
              · go_wp2_with fail
                go_roundw
                case rel => exact ⟨n3, k + 1, by omega, rfl, by go_num, by omega, hG, H.tail⟩
                case measure => simp [intOf]; omega
    · have hB := hide hB
      go_wp2_with fail
      go_ret
      exact ⟨n, rfl, fun h => by omega, H⟩
  · have hkI : ¬ (k : Int) < (nd : Int) := by omega
    have htk : l.take k = l := List.take_of_length_le (by rw [HN.out]; omega)
    rw [htk] at hB
    have hB := hide hB
    go_wp2_with fail
    go_ret
    exact ⟨n, rfl, fun h => by have := hB.out h; omega, H⟩
abbrev sv (x : Txt) : Value := .string (str x)
theorem texts_vs {K : World} : ∀ {l : List Txt} {vs : List Value}, RL K (textsL l) vs → vs = l.map sv
 | [], vs, h => h.nil_inv
 | x :: l, vs, h => by
  obtain ⟨r, rfl, h'⟩ := DatL.lit_inv (show RL K (str' x :: textsL l) vs from h)
  rw [texts_vs h']
  rfl
set_option maxHeartbeats 4000000 in
theorem names_row (defs : List DefD) (n c : Nat) (A : Option Addr) (w0 w K : World) (M : List Ent) (H : Hp w0 w K M) (hn : defs.length = n) (hd : RD K (.list n (defsL defs)) (.slice A n c)) (hm : n ≤ 20000000) :
  Calls Tryz.prog 63 #[.slice A n c] w fun e w' => ∃ A' c', e = .returned (.slice A' n c') ∧ Hp w0 w' K (.row 9 1 (.slice A' n c') n ((defs.map (·.name)).map sv) :: M) := by
 obtain ⟨k0, hk0, k0z, k0s, k0b⟩ := info_parts string_info
 have HN := hide hn
 clear hn
 go_enter Tryz.func63, Tryz.ntmps63
 go_wp2_with fail
 go_loopw [3, 8] (fun v i wr => ∃ (k : Nat) (vs : List Value), k ≤ n ∧ i = .int .i64 k ∧ Hp w0 wr K (.row 9 1 v k vs :: M) ∧ RL K (textsL ((defs.take k).map (·.name))) vs) (fun _ i _ => n - (intOf i).toNat)
 case atStart => exact ⟨0, [], Nat.zero_le _, rfl, H.nilRow 9 1, .nil (Nat.le_refl _)⟩
 case round =>
  clear H
  obtain ⟨k, vs, hk, rfl, H, hvs⟩ := hrel
  obtain ⟨Av, cv, rfl, _, _⟩ := H.slice (i := 0) rfl
  by_cases hlt : k < n
  · have hkI : (k : Int) < (n : Int) := by omega
    obtain ⟨x, hx⟩ : ∃ x, defs[k]? = some x := ⟨_, List.getElem?_eq_getElem (by rw [HN.out]; exact hlt)⟩
    have HE := hide (take_next hx)
    obtain ⟨ad, xs, rfl, hxd, _, hat⟩ := elem_hp (m := 17) (f := defL) defL_len H hd hx (by omega)
    clear hx
    obtain ⟨A6, c6, A7, c7, A8, c8, A9, c9, A10, c10, A11, c11, A12, c12, A14, c14, rfl, -, -, -, -, -, -, -, -⟩ := def_cells hxd
    have hsz : (Tryz.prog.info? 43).map (·.size) = some 17 := def_size
    go_upto_region 6 with (first
     | (at_builtin; refine ap1 1 e27 H (us := [.string (str x.name)]) ?_ (h1 := (by simp [Value.oneCell'])); clear H; intro v2A v2c w2 v2l v2m H; dsimp only [List.set, List.nil_append] at H; have := H.c 0 5)
     | ((with_reducible show wpList _ _ _ (_ :: _) _ _); refine wpList_load_at (by rfl) 43 (.tmp 10) (by rfl) (ad.add (k * 17)) (by simp [Act.eval, Act.put]) _ _ hat Tryz.underlying43 rfl hsz ?_)
     | ((with_reducible refine isL ?_); first
      | (refine al z43 5 H ?_; clear H; intro w1 g5 H; have := H.c 0 5)
      | (refine sA 5 0 H ?_; clear H; intro w3 H; have := H.c 0 5)))
    replace H := H.sub (List.Sublist.cons _ (List.Sublist.cons_cons _ (List.Sublist.refl _)))
    go_wp2_with fail
    go_roundw
    case rel => exact ⟨k + 1, _, by omega, by go_num, H, by rw [HE.out, List.map_append]; exact textsL_snoc hvs⟩
    case measure => simp [intOf]; omega
  · obtain rfl : n = k := by omega
    have htk : defs.take n = defs := by rw [← HN.out]; exact List.take_length
    rw [htk] at hvs
    clear htk
    rw [texts_vs hvs] at H
    go_wp2_with fail
    go_ret
    exact ⟨_, _, rfl, H⟩
theorem Names_r (v : Value) (D : TysD) (w0 w K : World) (M : List Ent) (H : Hp w0 w K M) (hv : Tp K v D) (hW : TyW D) :
  Calls Tryz.prog 15 #[v] w fun e w' => ∃ K' A' c', e = .returned (.slice A' D.types.length c') ∧ Sat K' K ∧ Hp w0 w' K' (.row 9 1 (.slice A' D.types.length c') D.types.length ((namesD D.types).map sv) :: M) := by
 have hl := p1_len D.types
 have hN := hW.nT
 go_enter Tryz.func15, Tryz.ntmps15
 have hK := Sat.refl K
 go_wp2_with (first
  | (go_at_call 64; refine (all_t _ D _ _ K M H hv).mono ?_; clear H; rintro e w5 ⟨K5, g5, rfl, hle, H, hT5⟩; replace hK := hle.trans hK; obtain ⟨ga, gd, gf, go, sch, VT, VD, OB, T⟩ := hT5; have h17 := H.kcell T.a.box T.a.c17; obtain ⟨Aty, ct, hVT, -, -⟩ := slice_of T.a.types; subst hVT)
  | (go_at_call 63; refine (names_row D.types D.types.length _ _ _ _ _ M H rfl T.a.types (by omega)).mono ?_; clear H; rintro e w6 ⟨A6, c6, rfl, H⟩))
 go_ret
 exact ⟨_, _, _, rfl, hK, H⟩
theorem Directives_r (v : Value) (D : TysD) (w0 w K : World) (M : List Ent) (H : Hp w0 w K M) (hv : Tp K v D) (hW : TyW D) :
  Calls Tryz.prog 16 #[v] w fun e w' => ∃ K' A' c', e = .returned (.slice A' D.dirs.length c') ∧ Sat K' K ∧ Hp w0 w' K' (.row 9 1 (.slice A' D.dirs.length c') D.dirs.length ((namesD D.dirs).map sv) :: M) := by
 have hl := p1_len D.dirs
 have hN := hW.nD
 go_enter Tryz.func16, Tryz.ntmps16
 have hK := Sat.refl K
 go_wp2_with (first
  | (go_at_call 64; refine (all_t _ D _ _ K M H hv).mono ?_; clear H; rintro e w5 ⟨K5, g5, rfl, hle, H, hT5⟩; replace hK := hle.trans hK; obtain ⟨ga, gd, gf, go, sch, VT, VD, OB, T⟩ := hT5; have h19 := H.kcell T.a.box T.a.c19; obtain ⟨Aty, ct, hVT, -, -⟩ := slice_of T.a.dirs; subst hVT)
  | (go_at_call 63; refine (names_row D.dirs D.dirs.length _ _ _ _ _ M H rfl T.a.dirs (by omega)).mono ?_; clear H; rintro e w6 ⟨A6, c6, rfl, H⟩))
 go_ret
 exact ⟨_, _, _, rfl, hK, H⟩
end Go.Proofs.YtbpgkkoeehopjaaGreat.hp
