/- Part 8 of 17 of a proof: see the last part. -/
import Derived.Test.YtbpgkkoeehopjaaGreatP3
import Derived.Test.YtbpgkkoeehopjaaGreatP6
import Derived.Test.YtbpgkkoeehopjaaGreatP7
import Derived.Deep.LoopGhost
set_option linter.unusedVariables false
set_option linter.unusedSimpArgs false
namespace Go.Proofs.YtbpgkkoeehopjaaGreat.hp
open Go.RowKit Go.Proofs.YtbpgkkoeehopjaaGreat.words Go.Proofs.YtbpgkkoeehopjaaGreat.enc Go.Proofs.YtbpgkkoeehopjaaGreat.tree Go.Proofs.YtbpgkkoeehopjaaGreat.gram Go.Proofs.YtbpgkkoeehopjaaGreat.lex Go.Proofs.YtbpgkkoeehopjaaGreat.rd Go.Proofs.YtbpgkkoeehopjaaGreat.dec Go.Proofs.YtbpgkkoeehopjaaGreat.dat Go.Proofs.YtbpgkkoeehopjaaGreat.held
set_option maxRecDepth 100000
set_option maxHeartbeats 40000000
attribute [local go_sem ↓] Go.wp_at_zero Go.wp_at_succ
section
variable {w0 w K : World} {M : List Ent} {g : Nat} {A : Option Addr} {n c k : Nat} {toks : List TokD} {t : TokD} {L f : Nat}
theorem kindOf_is (H : Hp w0 w K M) {word : Txt} {kd : Nat} {ki : Int} (h : kindF word = kd) (hi : ki = kd := by rfl) : Calls Tryz.prog 147 #[.string (str word)] w fun e w' => e = .returned (.int .i64 ki) ∧ Hp w0 w' K M := by
 subst h hi; exact kindOf_hp H word
theorem opt_cases {mark sep : Txt} {r : List NamedD × Nat} (h : optF toks mark sep L k = some r) : ∃ t b, toks[k]? = some t ∧ isF t mark = b ∧ (b = false → r = ([], k)) ∧ (b = true → listedF toks sep L (k + 1) = some r) := by
 unfold optF at h
 simp only [Option.bind_eq_some_iff] at h
 obtain ⟨t, ht, h⟩ := h
 refine ⟨t, _, ht, rfl, fun hb => ?_, fun hb => ?_⟩
 · rw [hb, if_neg (by decide)] at h; injection h with h; exact h.symm
 · rwa [if_pos hb] at h
theorem braces_no {gd : Nat} {kind : Int} {u1 u2 u3 u4 u5 u6 u7 u8 u9 u10 u11 u12 u13 u14 u15 u16 : Value} (h1 : (kind == 1) = false) (h3 : (kind == 3) = false) (h4 : (kind == 4) = false) (h6 : (kind == 6) = false) (h7 : (kind == 7) = false)
  (H : Hp w0 w K (.box gd (defU (.int .i64 kind) u1 u2 u3 u4 u5 u6 u7 u8 u9 u10 u11 u12 u13 u14 u15 u16) 43 :: M)) :
  Calls Tryz.prog 151 #[.pointer (some ⟨g, 0, none⟩), .pointer (some ⟨gd, 0, none⟩)] w fun e w' => e = .returned (.tuple #[]) ∧ Hp w0 w' K (.box gd (defU (.int .i64 kind) u1 u2 u3 u4 u5 u6 u7 u8 u9 u10 u11 u12 u13 u14 u15 u16) 43 :: M) := by
 go_enter Tryz.func151, Tryz.ntmps151
 go_wp2_with (first | (refine oL H ?_) | (refine oP H ?_; clear H; intro w _ H))
 first | refine o0 ?_ | refine o1 ?_
 exact ⟨rfl, H⟩
theorem braces_in {gd : Nat} {u1 u2 u3 u4 u5 u6 u7 u8 u9 u10 u11 u12 u13 u14 u15 u16 : Value} (hL : L ≤ 9000000) {r : List InputD × Nat} (hr : inputsF toks [123] [125] L f k = some r) (R : Tk K A n c toks)
  (H : Hp w0 w K (rdE g A n c k :: .box gd (defU (.int .i64 7) u1 u2 u3 u4 u5 u6 u7 u8 u9 u10 u11 u12 u13 u14 u15 u16) 43 :: M)) :
  Calls Tryz.prog 151 #[.pointer (some ⟨g, 0, none⟩), .pointer (some ⟨gd, 0, none⟩)] w fun e w' => ∃ K' A' c', e = .returned (.tuple #[]) ∧ Sat K' K ∧ Hp w0 w' K' (rdE g A n c r.2 :: .box gd (defU (.int .i64 7) u1 u2 u3 u4 u5 u6 u7 u8 (.slice A' r.1.length c') u10 u11 u12 u13 u14 u15 u16) 43 :: M) ∧ RD K' (.list r.1.length (inputsL r.1)) (.slice A' r.1.length c') := by
 go_enter Tryz.func151, Tryz.ntmps151
 go_wp2_with (first | (refine oL H ?_) | (refine oP H ?_; clear H; intro w _ H) | ((with_reducible refine (inputs_hp L hL f [123] [125] H.up R hr (s1 := ⟨#[123]⟩) (s2 := ⟨#[125]⟩)).mono ?_); clear H; rintro e w ⟨K2, Aa, ca, rfl, hle, H, ha⟩))
 first | refine o0 ?_ | refine o1 ?_
 exact ⟨K2, Aa, ca, rfl, hle, H, ha⟩
theorem def_schema (hL : L ≤ 3000000) (R : Tk K A n c toks) (H : Hp w0 w K (rdE g A n c k :: M)) {h : NoteD × Bool × TokD × Nat} (hh : headF toks k = some h) (hkd : kindF h.2.2.1.text = 1) {r : DefD × Nat} (hr : schemaF toks L f h = some r) :
  Calls Tryz.prog 99 #[.pointer (some ⟨g, 0, none⟩)] w fun e w' => ∃ K' cs, e = .returned (.agg cs) ∧ Sat K' K ∧ Hp w0 w' K' (rdE g A n c r.2 :: M) ∧ RL K' (defL r.1) cs.toList := by
 have hlen := R.len
 have hL9 : L ≤ 9000000 := by omega
 unfold headF at hh
 simp only [Option.bind_eq_some_iff] at hh
 obtain ⟨⟨⟨nh, nb, nt⟩, k0⟩, q1, t0, q2, t1, q3, hh⟩ := hh
 injection hh with hh
 subst hh
 rw [hlen] at hr
 dsimp only at q2 q3 hkd
 have c1 := fun {w M} (h : Hp w0 w K (rdE g A n c k :: M)) => note_hp h R q1
 have c2 := fun {w M} (h : Hp w0 w K (rdE g A n c k0 :: M)) => took_hp h R q2 [101, 120, 116, 101, 110, 100] (s := ⟨#[101, 120, 116, 101, 110, 100]⟩)
 generalize (if isF t0 [101, 120, 116, 101, 110, 100] = true then k0 + 1 else k0) = k1 at c2 q3 hr
 generalize isF t0 [101, 120, 116, 101, 110, 100] = ext at c2 hr
 have c3 := fun {w M} (h : Hp w0 w K (rdE g A n c k1 :: M)) => named_hp h R q3
 generalize nextK n k1 = k2 at c3 hr
 obtain ⟨wk0, wl, wc, ws0, ws1, wn, wv⟩ := t1
 simp only [namedOf] at c3
 clear q1 q2 q3
 unfold schemaF at hr
 simp only [Option.bind_eq_some_iff] at hr
 try dsimp only at hr
 try rw [hlen] at hr
 obtain ⟨⟨ds, k4⟩, q6, ⟨rs, k5⟩, q8, hr⟩ := hr
 have d5 := fun {w K M} (h : Hp w0 w K (rdE g A n c k2 :: M)) (R : Tk K A n c toks) => dirs_hp L hL9 f h R q6
 injection hr with hr
 subst hr
 clear q6
 go_enter Tryz.func99, Tryz.ntmps99
 go_wp2_with (first | (refine oL H ?_) | (refine oA 3 H ?_; clear H; intro w gd H) | (refine oP H ?_; clear H; intro w _ H) | ((with_reducible refine (c1 H.up).mono ?_); clear H; rintro e w ⟨rfl, H⟩) | ((with_reducible refine (c2 H.up).mono ?_); clear H; rintro e w ⟨rfl, H⟩) | ((with_reducible refine (c3 H.up).mono ?_); clear H; rintro e w ⟨rfl, H⟩) | ((with_reducible refine (kindOf_is H hkd).mono ?_); clear H; rintro e w ⟨rfl, H⟩) | ((with_reducible refine (c4 H.up).mono ?_); clear H; rintro e w ⟨rfl, H⟩) | ((with_reducible refine (d5 H.up R).mono ?_); clear H; rintro e w ⟨K2, Ad, cd, rfl, hle2, H, hd⟩; replace R := R.sat hle2) | ((with_reducible refine (braces_hp 100 4 rootsL rfl (fun v => defU (.int .i64 1) (.bool ext) (.bool nh) (.bool nb) (.string (str nt)) (.string ⟨#[]⟩) (.slice none 0 0) (.slice Ad ds.length cd) (.slice none 0 0) (.slice none 0 0) (.slice none 0 0) (.slice none 0 0) v (.bool false) (.slice none 0 0) (.int .i64 wl) (.int .i64 wc)) 1 (.inl rfl) (fun _ => ⟨_, rfl⟩) (rootF toks) (fun K w k A' c' vs done r h1 h2 h3 R H => part_root h1 (by omega) h3 R H) q8 R H.fin).mono ?_); clear H; rintro e w ⟨K3, Ar, cr, rfl, hle3, H, hr⟩))
 refine oB H ?_
 exact ⟨K3, _, rfl, hle3.trans hle2, H.fin, def_leaf (Dat.nil (Nat.le_refl _)) (hd.sat hle3) (Dat.nil (Nat.le_refl _)) (Dat.nil (Nat.le_refl _)) (Dat.nil (Nat.le_refl _)) (Dat.nil (Nat.le_refl _)) hr (Dat.nil (Nat.le_refl _))⟩
theorem def_scalar (hL : L ≤ 3000000) (R : Tk K A n c toks) (H : Hp w0 w K (rdE g A n c k :: M)) {h : NoteD × Bool × TokD × Nat} (hh : headF toks k = some h) (hkd : kindF h.2.2.1.text = 2) {r : DefD × Nat} (hr : scalarF toks L f h = some r) :
  Calls Tryz.prog 99 #[.pointer (some ⟨g, 0, none⟩)] w fun e w' => ∃ K' cs, e = .returned (.agg cs) ∧ Sat K' K ∧ Hp w0 w' K' (rdE g A n c r.2 :: M) ∧ RL K' (defL r.1) cs.toList := by
 have hlen := R.len
 have hL9 : L ≤ 9000000 := by omega
 unfold headF at hh
 simp only [Option.bind_eq_some_iff] at hh
 obtain ⟨⟨⟨nh, nb, nt⟩, k0⟩, q1, t0, q2, t1, q3, hh⟩ := hh
 injection hh with hh
 subst hh
 rw [hlen] at hr
 dsimp only at q2 q3 hkd
 have c1 := fun {w M} (h : Hp w0 w K (rdE g A n c k :: M)) => note_hp h R q1
 have c2 := fun {w M} (h : Hp w0 w K (rdE g A n c k0 :: M)) => took_hp h R q2 [101, 120, 116, 101, 110, 100] (s := ⟨#[101, 120, 116, 101, 110, 100]⟩)
 generalize (if isF t0 [101, 120, 116, 101, 110, 100] = true then k0 + 1 else k0) = k1 at c2 q3 hr
 generalize isF t0 [101, 120, 116, 101, 110, 100] = ext at c2 hr
 have c3 := fun {w M} (h : Hp w0 w K (rdE g A n c k1 :: M)) => named_hp h R q3
 generalize nextK n k1 = k2 at c3 hr
 obtain ⟨wk0, wl, wc, ws0, ws1, wn, wv⟩ := t1
 simp only [namedOf] at c3
 clear q1 q2 q3
 unfold scalarF at hr
 simp only [Option.bind_eq_some_iff] at hr
 try dsimp only at hr
 try rw [hlen] at hr
 obtain ⟨t, q5, hr⟩ := hr
 have c4 := fun {w M} (h : Hp w0 w K (rdE g A n c k2 :: M)) => named_hp h R q5
 generalize nextK n k2 = k3 at c4 hr
 obtain ⟨tk0, tl, tc, ts0, ts1, tn, tv⟩ := t
 simp only [namedOf] at c4
 try dsimp only at hr
 obtain ⟨⟨ds, k4⟩, q6, hr⟩ := hr
 have d5 := fun {w K M} (h : Hp w0 w K (rdE g A n c k3 :: M)) (R : Tk K A n c toks) => dirs_hp L hL9 f h R q6
 injection hr with hr
 subst hr
 clear q5 q6
 go_enter Tryz.func99, Tryz.ntmps99
 go_wp2_with (first | (refine oL H ?_) | (refine oA 3 H ?_; clear H; intro w gd H) | (refine oP H ?_; clear H; intro w _ H) | ((with_reducible refine (c1 H.up).mono ?_); clear H; rintro e w ⟨rfl, H⟩) | ((with_reducible refine (c2 H.up).mono ?_); clear H; rintro e w ⟨rfl, H⟩) | ((with_reducible refine (c3 H.up).mono ?_); clear H; rintro e w ⟨rfl, H⟩) | ((with_reducible refine (kindOf_is H hkd).mono ?_); clear H; rintro e w ⟨rfl, H⟩) | ((with_reducible refine (c4 H.up).mono ?_); clear H; rintro e w ⟨rfl, H⟩) | ((with_reducible refine (d5 H.up R).mono ?_); clear H; rintro e w ⟨K2, Ad, cd, rfl, hle2, H, hd⟩; replace R := R.sat hle2) | ((with_reducible refine (braces_no rfl rfl rfl rfl rfl H.up).mono ?_); clear H; rintro e w ⟨rfl, H⟩))
 refine oB H ?_
 exact ⟨K2, _, rfl, hle2, H.fin, def_leaf (Dat.nil (Nat.le_refl _)) hd (Dat.nil (Nat.le_refl _)) (Dat.nil (Nat.le_refl _)) (Dat.nil (Nat.le_refl _)) (Dat.nil (Nat.le_refl _)) (Dat.nil (Nat.le_refl _)) (Dat.nil (Nat.le_refl _))⟩
theorem def_obj3 (hL : L ≤ 3000000) (R : Tk K A n c toks) (H : Hp w0 w K (rdE g A n c k :: M)) {h : NoteD × Bool × TokD × Nat} (hh : headF toks k = some h) (hkd : kindF h.2.2.1.text = 3) {r : DefD × Nat} (hr : objectF 3 toks L f h = some r) :
  Calls Tryz.prog 99 #[.pointer (some ⟨g, 0, none⟩)] w fun e w' => ∃ K' cs, e = .returned (.agg cs) ∧ Sat K' K ∧ Hp w0 w' K' (rdE g A n c r.2 :: M) ∧ RL K' (defL r.1) cs.toList := by
 have hlen := R.len
 have hL9 : L ≤ 9000000 := by omega
 unfold headF at hh
 simp only [Option.bind_eq_some_iff] at hh
 obtain ⟨⟨⟨nh, nb, nt⟩, k0⟩, q1, t0, q2, t1, q3, hh⟩ := hh
 injection hh with hh
 subst hh
 rw [hlen] at hr
 dsimp only at q2 q3 hkd
 have c1 := fun {w M} (h : Hp w0 w K (rdE g A n c k :: M)) => note_hp h R q1
 have c2 := fun {w M} (h : Hp w0 w K (rdE g A n c k0 :: M)) => took_hp h R q2 [101, 120, 116, 101, 110, 100] (s := ⟨#[101, 120, 116, 101, 110, 100]⟩)
 generalize (if isF t0 [101, 120, 116, 101, 110, 100] = true then k0 + 1 else k0) = k1 at c2 q3 hr
 generalize isF t0 [101, 120, 116, 101, 110, 100] = ext at c2 hr
 have c3 := fun {w M} (h : Hp w0 w K (rdE g A n c k1 :: M)) => named_hp h R q3
 generalize nextK n k1 = k2 at c3 hr
 obtain ⟨wk0, wl, wc, ws0, ws1, wn, wv⟩ := t1
 simp only [namedOf] at c3
 clear q1 q2 q3
 unfold objectF at hr
 simp only [Option.bind_eq_some_iff] at hr
 try dsimp only at hr
 try rw [hlen] at hr
 obtain ⟨t, q5, hr⟩ := hr
 have c4 := fun {w M} (h : Hp w0 w K (rdE g A n c k2 :: M)) => named_hp h R q5
 generalize nextK n k2 = k3 at c4 hr
 obtain ⟨tk0, tl, tc, ts0, ts1, tn, tv⟩ := t
 simp only [namedOf] at c4
 try dsimp only at hr
 obtain ⟨⟨ifs, k4⟩, q6, ⟨ds, k5⟩, q7, ⟨fs, k6⟩, q8, hr⟩ := hr
 injection hr with hr
 subst hr
 obtain ⟨t4, b, q9, hb, o1, o2⟩ := opt_cases q6
 have c6 := fun {w M} (h : Hp w0 w K (rdE g A n c k3 :: M)) => took_hp h R q9 [105, 109, 112, 108, 101, 109, 101, 110, 116, 115] (s := ⟨#[105, 109, 112, 108, 101, 109, 101, 110, 116, 115]⟩)
 rw [hb] at c6
 have d5 := fun {w K M} (h : Hp w0 w K (rdE g A n c k4 :: M)) (R : Tk K A n c toks) => dirs_hp L hL9 f h R q7
 clear q5 q6 q7 q9 hb
 cases b with
 | false =>
  obtain ⟨rfl, rfl⟩ := Prod.mk.inj (o1 rfl)
  rw [if_neg (by decide)] at c6
  clear o1 o2
  go_enter Tryz.func99, Tryz.ntmps99
  go_wp2_with (first | (refine oL H ?_) | (refine oA 3 H ?_; clear H; intro w gd H) | (refine oP H ?_; clear H; intro w _ H) | ((with_reducible refine (c1 H.up).mono ?_); clear H; rintro e w ⟨rfl, H⟩) | ((with_reducible refine (c2 H.up).mono ?_); clear H; rintro e w ⟨rfl, H⟩) | ((with_reducible refine (c3 H.up).mono ?_); clear H; rintro e w ⟨rfl, H⟩) | ((with_reducible refine (kindOf_is H hkd).mono ?_); clear H; rintro e w ⟨rfl, H⟩) | ((with_reducible refine (c4 H.up).mono ?_); clear H; rintro e w ⟨rfl, H⟩) | ((with_reducible refine (c6 H.up).mono ?_); clear H; rintro e w ⟨rfl, H⟩) | ((with_reducible refine (d5 H.up R).mono ?_); clear H; rintro e w ⟨K2, Ad, cd, rfl, hle2, H, hd⟩; replace R := R.sat hle2) | ((with_reducible refine (braces_hp 52 10 fieldsL rfl (fun v => defU (.int .i64 3) (.bool ext) (.bool nh) (.bool nb) (.string (str nt)) (.string (str tn)) (.slice none 0 0) (.slice Ad ds.length cd) v (.slice none 0 0) (.slice none 0 0) (.slice none 0 0) (.slice none 0 0) (.bool false) (.slice none 0 0) (.int .i64 tl) (.int .i64 tc)) 3 (.inr (.inl rfl)) (fun _ => ⟨_, rfl⟩) (fieldF toks L f) (fun K w k A' c' vs done r h1 h2 h3 R H => part_field rfl rfl h1 hL9 h2 h3 R H) q8 R H.fin).mono ?_); clear H; rintro e w ⟨K3, Af, cf, rfl, hle3, H, hf⟩))
  refine oB H ?_
  exact ⟨K3, _, rfl, hle3.trans hle2, H.fin, def_leaf (Dat.nil (Nat.le_refl _)) (hd.sat hle3) hf (Dat.nil (Nat.le_refl _)) (Dat.nil (Nat.le_refl _)) (Dat.nil (Nat.le_refl _)) (Dat.nil (Nat.le_refl _)) (Dat.nil (Nat.le_refl _))⟩
 | true =>
  rw [if_pos rfl] at c6
  have c7 := fun {w M} (h : Hp w0 w K (rdE g A n c (k3 + 1) :: M)) => listed_hp h R [38] L hL (o2 rfl) (s := ⟨#[38]⟩)
  clear o1 o2
  go_enter Tryz.func99, Tryz.ntmps99
  go_wp2_with (first | (refine oL H ?_) | (refine oA 3 H ?_; clear H; intro w gd H) | (refine oP H ?_; clear H; intro w _ H) | ((with_reducible refine (c1 H.up).mono ?_); clear H; rintro e w ⟨rfl, H⟩) | ((with_reducible refine (c2 H.up).mono ?_); clear H; rintro e w ⟨rfl, H⟩) | ((with_reducible refine (c3 H.up).mono ?_); clear H; rintro e w ⟨rfl, H⟩) | ((with_reducible refine (kindOf_is H hkd).mono ?_); clear H; rintro e w ⟨rfl, H⟩) | ((with_reducible refine (c4 H.up).mono ?_); clear H; rintro e w ⟨rfl, H⟩) | ((with_reducible refine (c6 H.up).mono ?_); clear H; rintro e w ⟨rfl, H⟩) | ((with_reducible refine (c7 H.up).mono ?_); clear H; rintro e w ⟨K1, Ai, ci, rfl, hle1, H, hi⟩; replace R := R.sat hle1) | ((with_reducible refine (d5 H.up R).mono ?_); clear H; rintro e w ⟨K2, Ad, cd, rfl, hle2, H, hd⟩; replace R := R.sat hle2) | ((with_reducible refine (braces_hp 52 10 fieldsL rfl (fun v => defU (.int .i64 3) (.bool ext) (.bool nh) (.bool nb) (.string (str nt)) (.string (str tn)) (.slice Ai ifs.length ci) (.slice Ad ds.length cd) v (.slice none 0 0) (.slice none 0 0) (.slice none 0 0) (.slice none 0 0) (.bool false) (.slice none 0 0) (.int .i64 tl) (.int .i64 tc)) 3 (.inr (.inl rfl)) (fun _ => ⟨_, rfl⟩) (fieldF toks L f) (fun K w k A' c' vs done r h1 h2 h3 R H => part_field rfl rfl h1 hL9 h2 h3 R H) q8 R H.fin).mono ?_); clear H; rintro e w ⟨K3, Af, cf, rfl, hle3, H, hf⟩))
  refine oB H ?_
  exact ⟨K3, _, rfl, hle3.trans (hle2.trans hle1), H.fin, def_leaf (hi.sat (hle3.trans hle2)) (hd.sat hle3) hf (Dat.nil (Nat.le_refl _)) (Dat.nil (Nat.le_refl _)) (Dat.nil (Nat.le_refl _)) (Dat.nil (Nat.le_refl _)) (Dat.nil (Nat.le_refl _))⟩
theorem def_obj4 (hL : L ≤ 3000000) (R : Tk K A n c toks) (H : Hp w0 w K (rdE g A n c k :: M)) {h : NoteD × Bool × TokD × Nat} (hh : headF toks k = some h) (hkd : kindF h.2.2.1.text = 4) {r : DefD × Nat} (hr : objectF 4 toks L f h = some r) :
  Calls Tryz.prog 99 #[.pointer (some ⟨g, 0, none⟩)] w fun e w' => ∃ K' cs, e = .returned (.agg cs) ∧ Sat K' K ∧ Hp w0 w' K' (rdE g A n c r.2 :: M) ∧ RL K' (defL r.1) cs.toList := by
 have hlen := R.len
 have hL9 : L ≤ 9000000 := by omega
 unfold headF at hh
 simp only [Option.bind_eq_some_iff] at hh
 obtain ⟨⟨⟨nh, nb, nt⟩, k0⟩, q1, t0, q2, t1, q3, hh⟩ := hh
 injection hh with hh
 subst hh
 rw [hlen] at hr
 dsimp only at q2 q3 hkd
 have c1 := fun {w M} (h : Hp w0 w K (rdE g A n c k :: M)) => note_hp h R q1
 have c2 := fun {w M} (h : Hp w0 w K (rdE g A n c k0 :: M)) => took_hp h R q2 [101, 120, 116, 101, 110, 100] (s := ⟨#[101, 120, 116, 101, 110, 100]⟩)
 generalize (if isF t0 [101, 120, 116, 101, 110, 100] = true then k0 + 1 else k0) = k1 at c2 q3 hr
 generalize isF t0 [101, 120, 116, 101, 110, 100] = ext at c2 hr
 have c3 := fun {w M} (h : Hp w0 w K (rdE g A n c k1 :: M)) => named_hp h R q3
 generalize nextK n k1 = k2 at c3 hr
 obtain ⟨wk0, wl, wc, ws0, ws1, wn, wv⟩ := t1
 simp only [namedOf] at c3
 clear q1 q2 q3
 unfold objectF at hr
 simp only [Option.bind_eq_some_iff] at hr
 try dsimp only at hr
 try rw [hlen] at hr
 obtain ⟨t, q5, hr⟩ := hr
 have c4 := fun {w M} (h : Hp w0 w K (rdE g A n c k2 :: M)) => named_hp h R q5
 generalize nextK n k2 = k3 at c4 hr
 obtain ⟨tk0, tl, tc, ts0, ts1, tn, tv⟩ := t
 simp only [namedOf] at c4
 try dsimp only at hr
 obtain ⟨⟨ifs, k4⟩, q6, ⟨ds, k5⟩, q7, ⟨fs, k6⟩, q8, hr⟩ := hr
 injection hr with hr
 subst hr
 obtain ⟨t4, b, q9, hb, o1, o2⟩ := opt_cases q6
 have c6 := fun {w M} (h : Hp w0 w K (rdE g A n c k3 :: M)) => took_hp h R q9 [105, 109, 112, 108, 101, 109, 101, 110, 116, 115] (s := ⟨#[105, 109, 112, 108, 101, 109, 101, 110, 116, 115]⟩)
 rw [hb] at c6
 have d5 := fun {w K M} (h : Hp w0 w K (rdE g A n c k4 :: M)) (R : Tk K A n c toks) => dirs_hp L hL9 f h R q7
 clear q5 q6 q7 q9 hb
 cases b with
 | false =>
  obtain ⟨rfl, rfl⟩ := Prod.mk.inj (o1 rfl)
  rw [if_neg (by decide)] at c6
  clear o1 o2
  go_enter Tryz.func99, Tryz.ntmps99
  go_wp2_with (first | (refine oL H ?_) | (refine oA 3 H ?_; clear H; intro w gd H) | (refine oP H ?_; clear H; intro w _ H) | ((with_reducible refine (c1 H.up).mono ?_); clear H; rintro e w ⟨rfl, H⟩) | ((with_reducible refine (c2 H.up).mono ?_); clear H; rintro e w ⟨rfl, H⟩) | ((with_reducible refine (c3 H.up).mono ?_); clear H; rintro e w ⟨rfl, H⟩) | ((with_reducible refine (kindOf_is H hkd).mono ?_); clear H; rintro e w ⟨rfl, H⟩) | ((with_reducible refine (c4 H.up).mono ?_); clear H; rintro e w ⟨rfl, H⟩) | ((with_reducible refine (c6 H.up).mono ?_); clear H; rintro e w ⟨rfl, H⟩) | ((with_reducible refine (d5 H.up R).mono ?_); clear H; rintro e w ⟨K2, Ad, cd, rfl, hle2, H, hd⟩; replace R := R.sat hle2) | ((with_reducible refine (braces_hp 52 10 fieldsL rfl (fun v => defU (.int .i64 4) (.bool ext) (.bool nh) (.bool nb) (.string (str nt)) (.string (str tn)) (.slice none 0 0) (.slice Ad ds.length cd) v (.slice none 0 0) (.slice none 0 0) (.slice none 0 0) (.slice none 0 0) (.bool false) (.slice none 0 0) (.int .i64 tl) (.int .i64 tc)) 4 (.inr (.inr (.inl rfl))) (fun _ => ⟨_, rfl⟩) (fieldF toks L f) (fun K w k A' c' vs done r h1 h2 h3 R H => part_field rfl rfl h1 hL9 h2 h3 R H) q8 R H.fin).mono ?_); clear H; rintro e w ⟨K3, Af, cf, rfl, hle3, H, hf⟩))
  refine oB H ?_
  exact ⟨K3, _, rfl, hle3.trans hle2, H.fin, def_leaf (Dat.nil (Nat.le_refl _)) (hd.sat hle3) hf (Dat.nil (Nat.le_refl _)) (Dat.nil (Nat.le_refl _)) (Dat.nil (Nat.le_refl _)) (Dat.nil (Nat.le_refl _)) (Dat.nil (Nat.le_refl _))⟩
 | true =>
  rw [if_pos rfl] at c6
  have c7 := fun {w M} (h : Hp w0 w K (rdE g A n c (k3 + 1) :: M)) => listed_hp h R [38] L hL (o2 rfl) (s := ⟨#[38]⟩)
  clear o1 o2
  go_enter Tryz.func99, Tryz.ntmps99
  go_wp2_with (first | (refine oL H ?_) | (refine oA 3 H ?_; clear H; intro w gd H) | (refine oP H ?_; clear H; intro w _ H) | ((with_reducible refine (c1 H.up).mono ?_); clear H; rintro e w ⟨rfl, H⟩) | ((with_reducible refine (c2 H.up).mono ?_); clear H; rintro e w ⟨rfl, H⟩) | ((with_reducible refine (c3 H.up).mono ?_); clear H; rintro e w ⟨rfl, H⟩) | ((with_reducible refine (kindOf_is H hkd).mono ?_); clear H; rintro e w ⟨rfl, H⟩) | ((with_reducible refine (c4 H.up).mono ?_); clear H; rintro e w ⟨rfl, H⟩) | ((with_reducible refine (c6 H.up).mono ?_); clear H; rintro e w ⟨rfl, H⟩) | ((with_reducible refine (c7 H.up).mono ?_); clear H; rintro e w ⟨K1, Ai, ci, rfl, hle1, H, hi⟩; replace R := R.sat hle1) | ((with_reducible refine (d5 H.up R).mono ?_); clear H; rintro e w ⟨K2, Ad, cd, rfl, hle2, H, hd⟩; replace R := R.sat hle2) | ((with_reducible refine (braces_hp 52 10 fieldsL rfl (fun v => defU (.int .i64 4) (.bool ext) (.bool nh) (.bool nb) (.string (str nt)) (.string (str tn)) (.slice Ai ifs.length ci) (.slice Ad ds.length cd) v (.slice none 0 0) (.slice none 0 0) (.slice none 0 0) (.slice none 0 0) (.bool false) (.slice none 0 0) (.int .i64 tl) (.int .i64 tc)) 4 (.inr (.inr (.inl rfl))) (fun _ => ⟨_, rfl⟩) (fieldF toks L f) (fun K w k A' c' vs done r h1 h2 h3 R H => part_field rfl rfl h1 hL9 h2 h3 R H) q8 R H.fin).mono ?_); clear H; rintro e w ⟨K3, Af, cf, rfl, hle3, H, hf⟩))
  refine oB H ?_
  exact ⟨K3, _, rfl, hle3.trans (hle2.trans hle1), H.fin, def_leaf (hi.sat (hle3.trans hle2)) (hd.sat hle3) hf (Dat.nil (Nat.le_refl _)) (Dat.nil (Nat.le_refl _)) (Dat.nil (Nat.le_refl _)) (Dat.nil (Nat.le_refl _)) (Dat.nil (Nat.le_refl _))⟩
theorem def_union (hL : L ≤ 3000000) (R : Tk K A n c toks) (H : Hp w0 w K (rdE g A n c k :: M)) {h : NoteD × Bool × TokD × Nat} (hh : headF toks k = some h) (hkd : kindF h.2.2.1.text = 5) {r : DefD × Nat} (hr : unionF toks L f h = some r) :
  Calls Tryz.prog 99 #[.pointer (some ⟨g, 0, none⟩)] w fun e w' => ∃ K' cs, e = .returned (.agg cs) ∧ Sat K' K ∧ Hp w0 w' K' (rdE g A n c r.2 :: M) ∧ RL K' (defL r.1) cs.toList := by
 have hlen := R.len
 have hL9 : L ≤ 9000000 := by omega
 unfold headF at hh
 simp only [Option.bind_eq_some_iff] at hh
 obtain ⟨⟨⟨nh, nb, nt⟩, k0⟩, q1, t0, q2, t1, q3, hh⟩ := hh
 injection hh with hh
 subst hh
 rw [hlen] at hr
 dsimp only at q2 q3 hkd
 have c1 := fun {w M} (h : Hp w0 w K (rdE g A n c k :: M)) => note_hp h R q1
 have c2 := fun {w M} (h : Hp w0 w K (rdE g A n c k0 :: M)) => took_hp h R q2 [101, 120, 116, 101, 110, 100] (s := ⟨#[101, 120, 116, 101, 110, 100]⟩)
 generalize (if isF t0 [101, 120, 116, 101, 110, 100] = true then k0 + 1 else k0) = k1 at c2 q3 hr
 generalize isF t0 [101, 120, 116, 101, 110, 100] = ext at c2 hr
 have c3 := fun {w M} (h : Hp w0 w K (rdE g A n c k1 :: M)) => named_hp h R q3
 generalize nextK n k1 = k2 at c3 hr
 obtain ⟨wk0, wl, wc, ws0, ws1, wn, wv⟩ := t1
 simp only [namedOf] at c3
 clear q1 q2 q3
 unfold unionF at hr
 simp only [Option.bind_eq_some_iff] at hr
 try dsimp only at hr
 try rw [hlen] at hr
 obtain ⟨t, q5, hr⟩ := hr
 have c4 := fun {w M} (h : Hp w0 w K (rdE g A n c k2 :: M)) => named_hp h R q5
 generalize nextK n k2 = k3 at c4 hr
 obtain ⟨tk0, tl, tc, ts0, ts1, tn, tv⟩ := t
 simp only [namedOf] at c4
 try dsimp only at hr
 obtain ⟨⟨ds, k4⟩, q6, ⟨ms, k5⟩, q7, hr⟩ := hr
 injection hr with hr
 subst hr
 obtain ⟨t4, b, q9, hb, o1, o2⟩ := opt_cases q7
 have c6 := fun {w K M} (h : Hp w0 w K (rdE g A n c k4 :: M)) (R : Tk K A n c toks) => took_hp h R q9 [61] (s := ⟨#[61]⟩)
 rw [hb] at c6
 have d5 := fun {w K M} (h : Hp w0 w K (rdE g A n c k3 :: M)) (R : Tk K A n c toks) => dirs_hp L hL9 f h R q6
 clear q5 q6 q7 q9 hb
 cases b with
 | false =>
  obtain ⟨rfl, rfl⟩ := Prod.mk.inj (o1 rfl)
  rw [if_neg (by decide)] at c6
  clear o1 o2
  go_enter Tryz.func99, Tryz.ntmps99
  go_wp2_with (first | (refine oL H ?_) | (refine oA 3 H ?_; clear H; intro w gd H) | (refine oP H ?_; clear H; intro w _ H) | ((with_reducible refine (c1 H.up).mono ?_); clear H; rintro e w ⟨rfl, H⟩) | ((with_reducible refine (c2 H.up).mono ?_); clear H; rintro e w ⟨rfl, H⟩) | ((with_reducible refine (c3 H.up).mono ?_); clear H; rintro e w ⟨rfl, H⟩) | ((with_reducible refine (kindOf_is H hkd).mono ?_); clear H; rintro e w ⟨rfl, H⟩) | ((with_reducible refine (c4 H.up).mono ?_); clear H; rintro e w ⟨rfl, H⟩) | ((with_reducible refine (d5 H.up R).mono ?_); clear H; rintro e w ⟨K2, Ad, cd, rfl, hle2, H, hd⟩; replace R := R.sat hle2) | ((with_reducible refine (c6 H.up R).mono ?_); clear H; rintro e w ⟨rfl, H⟩) | ((with_reducible refine (braces_no rfl rfl rfl rfl rfl H.up).mono ?_); clear H; rintro e w ⟨rfl, H⟩))
  refine oB H ?_
  exact ⟨K2, _, rfl, hle2, H.fin, def_leaf (Dat.nil (Nat.le_refl _)) hd (Dat.nil (Nat.le_refl _)) (Dat.nil (Nat.le_refl _)) (Dat.nil (Nat.le_refl _)) (Dat.nil (Nat.le_refl _)) (Dat.nil (Nat.le_refl _)) (Dat.nil (Nat.le_refl _))⟩
 | true =>
  rw [if_pos rfl] at c6
  have c7 := fun {w K M} (h : Hp w0 w K (rdE g A n c (k4 + 1) :: M)) (R : Tk K A n c toks) => listed_hp h R [124] L hL (o2 rfl) (s := ⟨#[124]⟩)
  clear o1 o2
  go_enter Tryz.func99, Tryz.ntmps99
  go_wp2_with (first | (refine oL H ?_) | (refine oA 3 H ?_; clear H; intro w gd H) | (refine oP H ?_; clear H; intro w _ H) | ((with_reducible refine (c1 H.up).mono ?_); clear H; rintro e w ⟨rfl, H⟩) | ((with_reducible refine (c2 H.up).mono ?_); clear H; rintro e w ⟨rfl, H⟩) | ((with_reducible refine (c3 H.up).mono ?_); clear H; rintro e w ⟨rfl, H⟩) | ((with_reducible refine (kindOf_is H hkd).mono ?_); clear H; rintro e w ⟨rfl, H⟩) | ((with_reducible refine (c4 H.up).mono ?_); clear H; rintro e w ⟨rfl, H⟩) | ((with_reducible refine (d5 H.up R).mono ?_); clear H; rintro e w ⟨K2, Ad, cd, rfl, hle2, H, hd⟩; replace R := R.sat hle2) | ((with_reducible refine (c6 H.up R).mono ?_); clear H; rintro e w ⟨rfl, H⟩) | ((with_reducible refine (c7 H.up R).mono ?_); clear H; rintro e w ⟨K3, Am, cm, rfl, hle3, H, hm⟩) | ((with_reducible refine (braces_no rfl rfl rfl rfl rfl H.up).mono ?_); clear H; rintro e w ⟨rfl, H⟩))
  refine oB H ?_
  exact ⟨K3, _, rfl, hle3.trans hle2, H.fin, def_leaf (Dat.nil (Nat.le_refl _)) (hd.sat hle3) (Dat.nil (Nat.le_refl _)) (Dat.nil (Nat.le_refl _)) hm (Dat.nil (Nat.le_refl _)) (Dat.nil (Nat.le_refl _)) (Dat.nil (Nat.le_refl _))⟩
theorem def_enum (hL : L ≤ 3000000) (R : Tk K A n c toks) (H : Hp w0 w K (rdE g A n c k :: M)) {h : NoteD × Bool × TokD × Nat} (hh : headF toks k = some h) (hkd : kindF h.2.2.1.text = 6) {r : DefD × Nat} (hr : enumF toks L f h = some r) :
  Calls Tryz.prog 99 #[.pointer (some ⟨g, 0, none⟩)] w fun e w' => ∃ K' cs, e = .returned (.agg cs) ∧ Sat K' K ∧ Hp w0 w' K' (rdE g A n c r.2 :: M) ∧ RL K' (defL r.1) cs.toList := by
 have hlen := R.len
 have hL9 : L ≤ 9000000 := by omega
 unfold headF at hh
 simp only [Option.bind_eq_some_iff] at hh
 obtain ⟨⟨⟨nh, nb, nt⟩, k0⟩, q1, t0, q2, t1, q3, hh⟩ := hh
 injection hh with hh
 subst hh
 rw [hlen] at hr
 dsimp only at q2 q3 hkd
 have c1 := fun {w M} (h : Hp w0 w K (rdE g A n c k :: M)) => note_hp h R q1
 have c2 := fun {w M} (h : Hp w0 w K (rdE g A n c k0 :: M)) => took_hp h R q2 [101, 120, 116, 101, 110, 100] (s := ⟨#[101, 120, 116, 101, 110, 100]⟩)
 generalize (if isF t0 [101, 120, 116, 101, 110, 100] = true then k0 + 1 else k0) = k1 at c2 q3 hr
 generalize isF t0 [101, 120, 116, 101, 110, 100] = ext at c2 hr
 have c3 := fun {w M} (h : Hp w0 w K (rdE g A n c k1 :: M)) => named_hp h R q3
 generalize nextK n k1 = k2 at c3 hr
 obtain ⟨wk0, wl, wc, ws0, ws1, wn, wv⟩ := t1
 simp only [namedOf] at c3
 clear q1 q2 q3
 unfold enumF at hr
 simp only [Option.bind_eq_some_iff] at hr
 try dsimp only at hr
 try rw [hlen] at hr
 obtain ⟨t, q5, hr⟩ := hr
 have c4 := fun {w M} (h : Hp w0 w K (rdE g A n c k2 :: M)) => named_hp h R q5
 generalize nextK n k2 = k3 at c4 hr
 obtain ⟨tk0, tl, tc, ts0, ts1, tn, tv⟩ := t
 simp only [namedOf] at c4
 try dsimp only at hr
 obtain ⟨⟨ds, k4⟩, q6, ⟨rs, k5⟩, q8, hr⟩ := hr
 have d5 := fun {w K M} (h : Hp w0 w K (rdE g A n c k3 :: M)) (R : Tk K A n c toks) => dirs_hp L hL9 f h R q6
 injection hr with hr
 subst hr
 clear q5 q6
 go_enter Tryz.func99, Tryz.ntmps99
 go_wp2_with (first | (refine oL H ?_) | (refine oA 3 H ?_; clear H; intro w gd H) | (refine oP H ?_; clear H; intro w _ H) | ((with_reducible refine (c1 H.up).mono ?_); clear H; rintro e w ⟨rfl, H⟩) | ((with_reducible refine (c2 H.up).mono ?_); clear H; rintro e w ⟨rfl, H⟩) | ((with_reducible refine (c3 H.up).mono ?_); clear H; rintro e w ⟨rfl, H⟩) | ((with_reducible refine (kindOf_is H hkd).mono ?_); clear H; rintro e w ⟨rfl, H⟩) | ((with_reducible refine (c4 H.up).mono ?_); clear H; rintro e w ⟨rfl, H⟩) | ((with_reducible refine (d5 H.up R).mono ?_); clear H; rintro e w ⟨K2, Ad, cd, rfl, hle2, H, hd⟩; replace R := R.sat hle2) | ((with_reducible refine (braces_hp 133 7 valuesL rfl (fun v => defU (.int .i64 6) (.bool ext) (.bool nh) (.bool nb) (.string (str nt)) (.string (str tn)) (.slice none 0 0) (.slice Ad ds.length cd) (.slice none 0 0) (.slice none 0 0) (.slice none 0 0) v (.slice none 0 0) (.bool false) (.slice none 0 0) (.int .i64 tl) (.int .i64 tc)) 6 (.inr (.inr (.inr rfl))) (fun _ => ⟨_, rfl⟩) (valueF toks L f) (fun K w k A' c' vs done r h1 h2 h3 R H => part_value h1 hL9 h2 h3 R H) q8 R H.fin).mono ?_); clear H; rintro e w ⟨K3, Ar, cr, rfl, hle3, H, hr⟩))
 refine oB H ?_
 exact ⟨K3, _, rfl, hle3.trans hle2, H.fin, def_leaf (Dat.nil (Nat.le_refl _)) (hd.sat hle3) (Dat.nil (Nat.le_refl _)) (Dat.nil (Nat.le_refl _)) (Dat.nil (Nat.le_refl _)) hr (Dat.nil (Nat.le_refl _)) (Dat.nil (Nat.le_refl _))⟩
theorem def_indef (hL : L ≤ 3000000) (R : Tk K A n c toks) (H : Hp w0 w K (rdE g A n c k :: M)) {h : NoteD × Bool × TokD × Nat} (hh : headF toks k = some h) (hkd : kindF h.2.2.1.text = 7) {r : DefD × Nat} (hr : inDefF toks L f h = some r) :
  Calls Tryz.prog 99 #[.pointer (some ⟨g, 0, none⟩)] w fun e w' => ∃ K' cs, e = .returned (.agg cs) ∧ Sat K' K ∧ Hp w0 w' K' (rdE g A n c r.2 :: M) ∧ RL K' (defL r.1) cs.toList := by
 have hlen := R.len
 have hL9 : L ≤ 9000000 := by omega
 unfold headF at hh
 simp only [Option.bind_eq_some_iff] at hh
 obtain ⟨⟨⟨nh, nb, nt⟩, k0⟩, q1, t0, q2, t1, q3, hh⟩ := hh
 injection hh with hh
 subst hh
 rw [hlen] at hr
 dsimp only at q2 q3 hkd
 have c1 := fun {w M} (h : Hp w0 w K (rdE g A n c k :: M)) => note_hp h R q1
 have c2 := fun {w M} (h : Hp w0 w K (rdE g A n c k0 :: M)) => took_hp h R q2 [101, 120, 116, 101, 110, 100] (s := ⟨#[101, 120, 116, 101, 110, 100]⟩)
 generalize (if isF t0 [101, 120, 116, 101, 110, 100] = true then k0 + 1 else k0) = k1 at c2 q3 hr
 generalize isF t0 [101, 120, 116, 101, 110, 100] = ext at c2 hr
 have c3 := fun {w M} (h : Hp w0 w K (rdE g A n c k1 :: M)) => named_hp h R q3
 generalize nextK n k1 = k2 at c3 hr
 obtain ⟨wk0, wl, wc, ws0, ws1, wn, wv⟩ := t1
 simp only [namedOf] at c3
 clear q1 q2 q3
 unfold inDefF at hr
 simp only [Option.bind_eq_some_iff] at hr
 try dsimp only at hr
 try rw [hlen] at hr
 obtain ⟨t, q5, hr⟩ := hr
 have c4 := fun {w M} (h : Hp w0 w K (rdE g A n c k2 :: M)) => named_hp h R q5
 generalize nextK n k2 = k3 at c4 hr
 obtain ⟨tk0, tl, tc, ts0, ts1, tn, tv⟩ := t
 simp only [namedOf] at c4
 try dsimp only at hr
 obtain ⟨⟨ds, k4⟩, q6, ⟨is, k5⟩, q8, hr⟩ := hr
 have d5 := fun {w K M} (h : Hp w0 w K (rdE g A n c k3 :: M)) (R : Tk K A n c toks) => dirs_hp L hL9 f h R q6
 injection hr with hr
 subst hr
 clear q5 q6
 go_enter Tryz.func99, Tryz.ntmps99
 go_wp2_with (first | (refine oL H ?_) | (refine oA 3 H ?_; clear H; intro w gd H) | (refine oP H ?_; clear H; intro w _ H) | ((with_reducible refine (c1 H.up).mono ?_); clear H; rintro e w ⟨rfl, H⟩) | ((with_reducible refine (c2 H.up).mono ?_); clear H; rintro e w ⟨rfl, H⟩) | ((with_reducible refine (c3 H.up).mono ?_); clear H; rintro e w ⟨rfl, H⟩) | ((with_reducible refine (kindOf_is H hkd).mono ?_); clear H; rintro e w ⟨rfl, H⟩) | ((with_reducible refine (c4 H.up).mono ?_); clear H; rintro e w ⟨rfl, H⟩) | ((with_reducible refine (d5 H.up R).mono ?_); clear H; rintro e w ⟨K2, Ad, cd, rfl, hle2, H, hd⟩; replace R := R.sat hle2) | ((with_reducible refine (braces_in hL9 q8 R H.fin).mono ?_); clear H; rintro e w ⟨K3, Ar, cr, rfl, hle3, H, hr⟩))
 refine oB H ?_
 exact ⟨K3, _, rfl, hle3.trans hle2, H.fin, def_leaf (Dat.nil (Nat.le_refl _)) (hd.sat hle3) (Dat.nil (Nat.le_refl _)) hr (Dat.nil (Nat.le_refl _)) (Dat.nil (Nat.le_refl _)) (Dat.nil (Nat.le_refl _)) (Dat.nil (Nat.le_refl _))⟩
theorem def_dir (hL : L ≤ 3000000) (R : Tk K A n c toks) (H : Hp w0 w K (rdE g A n c k :: M)) {h : NoteD × Bool × TokD × Nat} (hh : headF toks k = some h) (hkd : kindF h.2.2.1.text = 8) {r : DefD × Nat} (hr : dirF toks L f h = some r) :
  Calls Tryz.prog 99 #[.pointer (some ⟨g, 0, none⟩)] w fun e w' => ∃ K' cs, e = .returned (.agg cs) ∧ Sat K' K ∧ Hp w0 w' K' (rdE g A n c r.2 :: M) ∧ RL K' (defL r.1) cs.toList := by
 have hlen := R.len
 have hL9 : L ≤ 9000000 := by omega
 unfold headF at hh
 simp only [Option.bind_eq_some_iff] at hh
 obtain ⟨⟨⟨nh, nb, nt⟩, k0⟩, q1, t0, q2, t1, q3, hh⟩ := hh
 injection hh with hh
 subst hh
 rw [hlen] at hr
 dsimp only at q2 q3 hkd
 have c1 := fun {w M} (h : Hp w0 w K (rdE g A n c k :: M)) => note_hp h R q1
 have c2 := fun {w M} (h : Hp w0 w K (rdE g A n c k0 :: M)) => took_hp h R q2 [101, 120, 116, 101, 110, 100] (s := ⟨#[101, 120, 116, 101, 110, 100]⟩)
 generalize (if isF t0 [101, 120, 116, 101, 110, 100] = true then k0 + 1 else k0) = k1 at c2 q3 hr
 generalize isF t0 [101, 120, 116, 101, 110, 100] = ext at c2 hr
 have c3 := fun {w M} (h : Hp w0 w K (rdE g A n c k1 :: M)) => named_hp h R q3
 generalize nextK n k1 = k2 at c3 hr
 obtain ⟨wk0, wl, wc, ws0, ws1, wn, wv⟩ := t1
 simp only [namedOf] at c3
 clear q1 q2 q3
 unfold dirF at hr
 simp only [Option.bind_eq_some_iff] at hr
 try dsimp only at hr
 try rw [hlen] at hr
 obtain ⟨t2, r1, t3, r2, ⟨is, k4⟩, r3, t5, r4, t6, r5, ⟨ps, k6⟩, r6, hr⟩ := hr
 injection hr with hr
 subst hr
 dsimp only at r4 r5 r6
 have e1 := fun {w M} (h : Hp w0 w K (rdE g A n c k2 :: M)) => took_hp h R r1 [64] (s := ⟨#[64]⟩)
 generalize (if isF t2 [64] = true then k2 + 1 else k2) = j1 at e1 r2 r3
 have c4 := fun {w M} (h : Hp w0 w K (rdE g A n c j1 :: M)) => named_hp h R r2
 generalize nextK n j1 = j2 at c4 r3
 have e2 := fun {w M} (h : Hp w0 w K (rdE g A n c j2 :: M)) => inputs_hp L hL9 f [40] [41] h R r3 (s1 := ⟨#[40]⟩) (s2 := ⟨#[41]⟩)
 have e3 := fun {w K M} (h : Hp w0 w K (rdE g A n c k4 :: M)) (R : Tk K A n c toks) => took_hp h R r4 [114, 101, 112, 101, 97, 116, 97, 98, 108, 101] (s := ⟨#[114, 101, 112, 101, 97, 116, 97, 98, 108, 101]⟩)
 generalize (if isF t5 [114, 101, 112, 101, 97, 116, 97, 98, 108, 101] = true then k4 + 1 else k4) = j3 at e3 r5 r6
 generalize isF t5 [114, 101, 112, 101, 97, 116, 97, 98, 108, 101] = rep at e3 ⊢
 have e4 := fun {w K M} (h : Hp w0 w K (rdE g A n c j3 :: M)) (R : Tk K A n c toks) => took_hp h R r5 [111, 110] (s := ⟨#[111, 110]⟩)
 generalize (if isF t6 [111, 110] = true then j3 + 1 else j3) = j4 at e4 r6
 have e5 := fun {w K M} (h : Hp w0 w K (rdE g A n c j4 :: M)) (R : Tk K A n c toks) => listed_hp h R [124] L hL r6 (s := ⟨#[124]⟩)
 obtain ⟨tk0, tl, tc, ts0, ts1, tn, tv⟩ := t3
 simp only [namedOf] at c4
 clear r1 r2 r3 r4 r5 r6
 go_enter Tryz.func99, Tryz.ntmps99
 go_wp2_with (first | (refine oL H ?_) | (refine oA 3 H ?_; clear H; intro w gd H) | (refine oP H ?_; clear H; intro w _ H) | ((with_reducible refine (c1 H.up).mono ?_); clear H; rintro e w ⟨rfl, H⟩) | ((with_reducible refine (c2 H.up).mono ?_); clear H; rintro e w ⟨rfl, H⟩) | ((with_reducible refine (c3 H.up).mono ?_); clear H; rintro e w ⟨rfl, H⟩) | ((with_reducible refine (kindOf_is H hkd).mono ?_); clear H; rintro e w ⟨rfl, H⟩) | ((with_reducible refine (c4 H.up).mono ?_); clear H; rintro e w ⟨rfl, H⟩) | ((with_reducible refine (e1 H.up).mono ?_); clear H; rintro e w ⟨rfl, H⟩) | ((with_reducible refine (e2 H.up).mono ?_); clear H; rintro e w ⟨K2, Ai, ci, rfl, hle2, H, hi⟩; replace R := R.sat hle2) | ((with_reducible refine (e3 H.up R).mono ?_); clear H; rintro e w ⟨rfl, H⟩) | ((with_reducible refine (e4 H.up R).mono ?_); clear H; rintro e w ⟨rfl, H⟩) | ((with_reducible refine (e5 H.up R).mono ?_); clear H; rintro e w ⟨K3, Ap, cp, rfl, hle3, H, hp⟩))
 refine oB H ?_
 exact ⟨K3, _, rfl, hle3.trans hle2, H.fin, def_leaf (Dat.nil (Nat.le_refl _)) (Dat.nil (Nat.le_refl _)) (Dat.nil (Nat.le_refl _)) (hi.sat hle3) (Dat.nil (Nat.le_refl _)) (Dat.nil (Nat.le_refl _)) (Dat.nil (Nat.le_refl _)) hp⟩
theorem def_hp (hL : L ≤ 3000000) (R : Tk K A n c toks) (H : Hp w0 w K (rdE g A n c k :: M)) {r : DefD × Nat} (hr : defF toks L f k = some r) :
  Calls Tryz.prog 99 #[.pointer (some ⟨g, 0, none⟩)] w fun e w' => ∃ K' cs, e = .returned (.agg cs) ∧ Sat K' K ∧ Hp w0 w' K' (rdE g A n c r.2 :: M) ∧ RL K' (defL r.1) cs.toList := by
 obtain ⟨h, hh, hr⟩ := Option.bind_eq_some_iff.1 hr
 unfold bodyF at hr
 split at hr
 · exact def_schema hL R H hh ‹_› hr
 · exact def_scalar hL R H hh ‹_› hr
 · exact def_obj3 hL R H hh ‹_› hr
 · exact def_obj4 hL R H hh ‹_› hr
 · exact def_union hL R H hh ‹_› hr
 · exact def_enum hL R H hh ‹_› hr
 · exact def_indef hL R H hh ‹_› hr
 · exact def_dir hL R H hh ‹_› hr
 · cases hr
end
section
variable {w0 w K : World} {M : List Ent}
theorem one_c {α : Type} {f : α → List Leaf} {d : α} {vs : List Value} (h : RL K (f d) vs) : RL K ([d].flatMap f) vs := by rw [List.flatMap_singleton]; exact h
theorem el_k {α : Type} {f : α → List Leaf} {m n c k : Nat} {A : Option Addr} {l : List α} (hf : ∀ x, (f x).length = m) (h : RD K (.list n (l.flatMap f)) (.slice A n c)) (hk : k < l.length) (hm : 0 < m) :
  ∃ x ad us, l[k]? = some x ∧ A = some ad ∧ RL K (f x) us ∧ At K (ad.add (k * m)) us := by
 obtain ⟨ad, us, h1, h2, _, _, h5, h6⟩ := elem_at hf h (List.getElem?_eq_getElem hk) hm
 exact ⟨_, ad, us, List.getElem?_eq_getElem hk, h1, h2, h5, h6⟩
theorem wr_k {k n : Nat} (h : k < n) (hn : n ≤ 9000000) : (k : Int) < (n : Int) ∧ IntKind.i64.wrap ((k : Int) + 1) = k + 1 := ⟨by omega, IntWalk.i64_in _ (by omega)⟩
theorem copyLit_hp : ∀ (m : Nat) (d : LitD) (cs : Array Value) (w0 w K : World) (M : List Ent), litN d ≤ m → m ≤ 9000000 → RL K (litL d) cs.toList → Hp w0 w K M →
  Calls Tryz.prog 152 #[.agg cs] w fun e w' => ∃ K' cs', e = .returned (.agg cs') ∧ Sat K' K ∧ Hp w0 w' K' M ∧ RL K' (litL d) cs'.toList := by
 intro m
 induction m with
 | zero => intro d cs w0 w K M h; have := litN_pos d; omega
 | succ m ih =>
 intro d cs w0 w K M hn hm hd H
 obtain ⟨kind, text, block, items, fields, line, col⟩ := d
 obtain ⟨Ai, ci, Af, cf, hcs, hi, hf⟩ := lit_cells hd
 obtain rfl : cs = #[_, _, _, _, _, _, _] := Array.toList_inj.1 hcs
 have hni : items.length ≤ 9000000 := by have := lits_len items; simp only [litN] at hn; omega
 have hnf : fields.length ≤ 9000000 := by have := pairs_len fields; simp only [litN] at hn; omega
 have HI := hide (show ∀ x ∈ items, litN x ≤ m from fun x hx => by obtain ⟨k, hk⟩ := List.getElem?_of_mem hx; have := lits_at hk; simp only [litN] at hn; omega)
 have HF := hide (show ∀ x ∈ fields, pairN x ≤ m from fun x hx => by obtain ⟨k, hk⟩ := List.getElem?_of_mem hx; have := pairs_at hk; simp only [litN] at hn; omega)
 have HIH := hide ih
 rw [litsL_eq] at hi
 rw [pairsL_eq] at hf
 clear ih hcs hd hn
 obtain ⟨ni, hni2⟩ : ∃ x, items.length = x := ⟨_, rfl⟩
 obtain ⟨nf, hnf2⟩ : ∃ x, fields.length = x := ⟨_, rfl⟩
 rw [hni2] at hi hni ⊢
 rw [hnf2] at hf hnf ⊢
 have HNI := hide hni2
 have HNF := hide hnf2
 clear hni2 hnf2
 go_enter Tryz.func152, Tryz.ntmps152
 go_wp2_with (first | (refine oL H ?_) | (refine oA 1 H ?_; clear H; intro w gv H) | (refine oA 2 H ?_; clear H; intro w gz H) | (refine oA 3 H ?_; clear H; intro w gw H) | (refine oP H ?_; clear H; intro w _ H))
 replace H := H.nilRow 121 7
 go_loopw [14] (fun i wr => ∃ (K' : World) (k : Nat) (A' : Option Addr) (c' : Nat) (vs : List Value), k ≤ ni ∧ i = .int .i64 k ∧ Sat K' K ∧ RL K' (litsL (items.take k)) vs ∧ Hp w0 wr K' (.row 121 7 (.slice A' k c') k vs :: .box gw [.int .i64 kind, .string (str text), .bool block, .slice A' k c', .slice none 0 0, .int .i64 line, .int .i64 col] 121 :: .box gz [.int .i64 0, .string ⟨#[]⟩, .bool false, .slice none 0 0, .slice none 0 0, .int .i64 0, .int .i64 0] 121 :: .box gv [.int .i64 kind, .string (str text), .bool block, .slice Ai ni ci, .slice Af nf cf, .int .i64 line, .int .i64 col] 121 :: M)) (fun i _ => ni - (intOf i).toNat)
 case atStart => exact ⟨K, 0, none, 0, [], Nat.zero_le _, rfl, Sat.refl _, .nil (Nat.le_refl _), H⟩
 case round =>
  clear H
  obtain ⟨K', k, A', c', vs, hk, rfl, hle, hvs, H⟩ := hrel
  replace hi := hi.sat hle
  replace hf := hf.sat hle
  by_cases hlt : k < ni
  · obtain ⟨x, ad, us, hx, rfl, hxl, hat⟩ := el_k litL_len hi (by rw [HNI.out]; exact hlt) (by decide)
    obtain ⟨hkI, hwr⟩ := wr_k hlt hni
    have hxn := HI.out x (List.mem_of_getElem? hx)
    have HX := hide (take_next hx)
    obtain ⟨dk, dt, db, di, df, dln, dcl⟩ := x
    obtain ⟨Xi, xi, Xf, xf, rfl, -, -⟩ := lit_cells hxl
    have hc := fun {w M} (h : Hp w0 w K' M) => HIH.out _ #[_, _, _, _, _, _, _] w0 w K' M hxn (by omega) hxl h
    clear hx
    go_wp2_with (first | (refine oL H ?_) | (refine oA 5 H ?_; clear H; intro w gx H) | (refine oP H ?_; clear H; intro w _ H))
    refine rN [.box gw _ _, .box gx _ _] [7] H ?_; clear H; intro w H
    refine rT 0 H ?_; refine rT 1 H ?_; refine rT 2 H ?_
    refine rC 3 (hc H) ?_; clear H; rintro e w ⟨K2, cs, rfl, hle2, H, he⟩; obtain ⟨Bi, bi, Bf, bf, hcs, -, -⟩ := lit_cells he; obtain rfl : cs = #[_, _, _, _, _, _, _] := Array.toList_inj.1 hcs; clear hcs; refine rX H ?_
    refine rW 4 H ?_; clear H; intro w _ H
    refine rA 5 H ?_; clear H; intro A' c' w _ _ H; dsimp only [List.set] at H
    refine rT 6 H ?_
    refine rL 7 H ?_; clear H; intro w _ H
    refine rE ?_
    go_wp2_with (first | (refine oL H ?_) | (refine oP H ?_; clear H; intro w _ H))
    go_roundw
    case rel => exact ⟨K2, k + 1, _, _, _, by omega, by go_num, hle2.trans hle, by rw [HX.out, litsL_app]; exact (hvs.sat hle2).app (by simpa [litsL] using he), H.fin⟩
    case measure => simp [intOf]; omega
  · obtain rfl : k = ni := by omega
    rw [List.take_of_length_le (by rw [HNI.out]; exact Nat.le_refl _)] at hvs
    clear hlt hi
    go_wp2_with (first | (refine oL H ?_) | (refine oP H ?_; clear H; intro w _ H))
    replace H := H.nilRow 219 10
    go_loopw [29] (fun i wr => ∃ (K2 : World) (j : Nat) (A2 : Option Addr) (c2 : Nat) (vs2 : List Value), j ≤ nf ∧ i = .int .i64 j ∧ Sat K2 K' ∧ RL K2 (pairsL (fields.take j)) vs2 ∧ Hp w0 wr K2 (.row 219 10 (.slice A2 j c2) j vs2 :: .row 121 7 (.slice A' k c') k vs :: .box gw [.int .i64 kind, .string (str text), .bool block, .slice A' k c', .slice A2 j c2, .int .i64 line, .int .i64 col] 121 :: .box gz [.int .i64 0, .string ⟨#[]⟩, .bool false, .slice none 0 0, .slice none 0 0, .int .i64 0, .int .i64 0] 121 :: M)) (fun i _ => nf - (intOf i).toNat)
    case atStart => exact ⟨K', 0, none, 0, [], Nat.zero_le _, rfl, Sat.refl _, .nil (Nat.le_refl _), H.fin⟩
    case round =>
     clear H
     obtain ⟨K2, j, A2, c2, vs2, hj, rfl, hle2, hvs2, H⟩ := hrel
     replace hf := hf.sat hle2
     by_cases hlt : j < nf
     · obtain ⟨x, ad, us, hx, rfl, hxl, hat⟩ := el_k pairL_len hf (by rw [HNF.out]; exact hlt) (by decide)
       obtain ⟨hkI, hwr⟩ := wr_k hlt hnf
       have hxn := HF.out x (List.mem_of_getElem? hx)
       have HX := hide (take_next hx)
       obtain ⟨pn, ⟨dk, dt, db, di, df, dln, dcl⟩, pl, pc⟩ := x
       obtain ⟨ls, rfl, hvl⟩ := pair_cells hxl
       obtain ⟨Xi, xi, Xf, xf, rfl, -, -⟩ := lit_cells hvl
       have hc := fun {w M} (h : Hp w0 w K2 M) => HIH.out _ #[_, _, _, _, _, _, _] w0 w K2 M (by simp only [pairN] at hxn; omega) (by omega) hvl h
       simp only [List.cons_append, List.nil_append] at hat
       clear hx hxl
       go_wp2_with (first | (refine oL H ?_) | (refine oA 7 H ?_; clear H; intro w gx H) | (refine oP H ?_; clear H; intro w _ H))
       refine rN [.box gw _ _, .box gx _ _] [13] H ?_; clear H; intro w H
       refine rT 0 H ?_; refine rT 1 H ?_; refine rT 2 H ?_; refine rT 3 H ?_; refine rT 4 H ?_; refine rT 5 H ?_; refine rT 7 H ?_; refine rT 8 H ?_
       refine rC 6 (hc H) ?_; clear H; rintro e w ⟨K3, cs, rfl, hle3, H, he⟩; obtain ⟨Bi, bi, Bf, bf, hcs, -, -⟩ := lit_cells he; obtain rfl : cs = #[_, _, _, _, _, _, _] := Array.toList_inj.1 hcs; clear hcs; refine rX H ?_
       refine rT 9 H ?_
       refine rW 10 H ?_; clear H; intro w _ H
       refine rA 11 H ?_; clear H; intro A2 c2 w _ _ H; dsimp only [List.set] at H
       refine rT 12 H ?_
       refine rL 13 H ?_; clear H; intro w _ H
       refine rE ?_
       have hpe : RL K3 (pairL (.mk pn (.mk dk dt db di df dln dcl) pl pc)) [.string (str pn), .int .i64 dk, .string (str dt), .bool db, .slice Bi di.length bi, .slice Bf df.length bf, .int .i64 dln, .int .i64 dcl, .int .i64 pl, .int .i64 pc] := DatL.lit (DatL.app he (DatL.lit (DatL.lit (DatL.nil he.le))))
       go_wp2_with (first | (refine oL H ?_) | (refine oP H ?_; clear H; intro w _ H))
       go_roundw
       case rel => exact ⟨K3, j + 1, _, _, _, by omega, by go_num, hle3.trans hle2, by rw [HX.out, pairsL_app]; exact (hvs2.sat hle3).app (by simpa [pairsL] using hpe), H.fin⟩
       case measure => simp [intOf]; omega
     · obtain rfl : j = nf := by omega
       rw [List.take_of_length_le (by rw [HNF.out]; exact Nat.le_refl _)] at hvs2
       go_wp2_with (first | (refine oL H ?_) | (refine oP H ?_; clear H; intro w _ H))
       refine oB H ?_
       replace H : Hp _ _ _ (.row 219 10 _ _ _ :: .row 121 7 _ _ _ :: M) := H.fin
       obtain ⟨K3, hle3, H, hd2⟩ := H.freezeRow hvs2
       obtain ⟨K4, hle4, H, hd1⟩ := H.freezeRow (hvs.sat (hle3.trans hle2))
       refine ⟨K4, _, rfl, hle4.trans (hle3.trans (hle2.trans hle)), H, cells_lit ?_ ?_⟩
       · rw [HNI.out]; exact hd1
       · rw [HNF.out]; exact hd2.sat hle4
end
open Go.Proofs.YtbpgkkoeehopjaaGreat.ln Go.Proofs.YtbpgkkoeehopjaaGreat.lines
instance scRune : Sc Tryz.prog 21 := ⟨⟨_, Tryz.underlying21, rfl⟩⟩
instance scRunes : Sc Tryz.prog 187 := ⟨⟨_, Tryz.underlying187, rfl⟩⟩
instance sliRune : Sli Tryz.prog 187 21 1 4 := ⟨sli Tryz.underlying187 (z := .int .i32 0) (by kernel_rfl)⟩
instance sliRunes : Sli Tryz.prog 260 187 1 24 := ⟨sli Tryz.underlying260 (z := .slice none 0 0) (by kernel_rfl)⟩
def runesL (x : List Int) : List Leaf := x.map fun z => .lit (.int .i32 z)
def lineL (x : List Int) : List Leaf := [.list x.length (runesL x)]
abbrev linesL (ls : List (List Int)) : List Leaf := ls.flatMap lineL
abbrev rv (x : List Int) : List Value := x.map (Value.int .i32)
section
variable {w0 w K : World} {M : List Ent}
theorem runes_len (x : List Int) : (runesL x).length = x.length := by simp [runesL]
theorem runes_rl : ∀ (x : List Int), RL K (runesL x) (rv x)
 | [] => .nil (Nat.le_refl _)
 | z :: x => .lit (runes_rl x)
theorem runes_vs : ∀ {x : List Int} {us : List Value}, RL K (runesL x) us → us = rv x
 | [], us, h => h.nil_inv
 | z :: x, us, h => by
  obtain ⟨r, rfl, h'⟩ := DatL.lit_inv (show RL K (.lit (.int .i32 z) :: runesL x) us from h)
  rw [runes_vs h']
  rfl
theorem rune_rd {x : List Int} {n c : Nat} {A : Option Addr} (H : Hp w0 w K M) (h : RD K (.list n (runesL x)) (.slice A n c)) : Rd w w.heap.size A (rv x) := by
 obtain ⟨us, h1, h2, _, _⟩ := list_rd H h
 rw [← runes_vs h1]; exact h2
theorem line_k {ls : List (List Int)} {n c k : Nat} {A : Option Addr} {x : List Int} (h : RD K (.list n (linesL ls)) (.slice A n c)) (hx : ls[k]? = some x) :
  ∃ ad A' c', A = some ad ∧ K.cell? (ad.add k) = some (.slice A' x.length c') ∧ RD K (.list x.length (runesL x)) (.slice A' x.length c') := by
 obtain ⟨ad, vs, h1, h2, _, _, h5, _⟩ := elem_at (m := 1) (f := lineL) (fun _ => rfl) h hx (by omega)
 obtain ⟨A', c', r, rfl, hd, _⟩ := h2.list_inv
 refine ⟨ad, A', c', h1, ?_, hd⟩
 have := h5 _ rfl
 rwa [Nat.mul_one] at this
theorem ReadsL.drop1 {S : Nat → Prop} {α : Type} {f : α → List Leaf} (hf : ∀ x, (f x).length = 1) : ∀ (a : Nat) (l : List α) (us : List Value), ReadsL K S (l.flatMap f) us → ReadsL K S ((l.drop a).flatMap f) (us.drop a)
 | 0, l, us, h => h
 | a + 1, [], us, h => by
  have : us = [] := by simpa [ReadsL] using h
  subst this
  simp [ReadsL]
 | a + 1, x :: l, us, h => by
  rw [List.flatMap_cons] at h
  obtain ⟨t, ht⟩ : ∃ t, f x = [t] := List.length_eq_one_iff.1 (hf x)
  rw [ht, List.singleton_append, ReadsL] at h
  obtain ⟨v, r, rfl, _, h2⟩ := h
  exact ReadsL.drop1 hf a l r h2
theorem ReadsL.take1 {S : Nat → Prop} {α : Type} {f : α → List Leaf} (hf : ∀ x, (f x).length = 1) : ∀ (a : Nat) (l : List α) (us : List Value), ReadsL K S (l.flatMap f) us → ReadsL K S ((l.take a).flatMap f) (us.take a)
 | 0, l, us, h => by simp [ReadsL]
 | a + 1, [], us, h => by
  have : us = [] := by simpa [ReadsL] using h
  subst this
  simp [ReadsL]
 | a + 1, x :: l, us, h => by
  rw [List.flatMap_cons] at h
  obtain ⟨t, ht⟩ : ∃ t, f x = [t] := List.length_eq_one_iff.1 (hf x)
  rw [ht, List.singleton_append, ReadsL] at h
  obtain ⟨v, r, rfl, h1, h2⟩ := h
  rw [List.take_succ_cons, List.take_succ_cons, List.flatMap_cons, ht, List.singleton_append, ReadsL]
  exact ⟨v, _, rfl, h1, ReadsL.take1 hf a l r h2⟩
theorem RD.cut {α : Type} {f : α → List Leaf} (hf : ∀ x, (f x).length = 1) {l : List α} {n c a b : Nat} {A : Option Addr} (h : RD K (.list n (l.flatMap f)) (.slice A n c)) (hb : b ≤ n) (ha : a ≤ b) :
  RD K (.list (b - a) (((l.take b).drop a).flatMap f)) (.slice (A.map (·.add a)) (b - a) (c - a)) := by
 obtain ⟨A', c', us, he, h1, h2, hr, hs⟩ := reads_list h.reads
 injection he with e1 e2 e3
 subst e1 e3
 refine ⟨list_reads (by omega) (by omega) (ReadsL.drop1 hf a _ _ (ReadsL.take1 hf b _ _ hr)) (fun hn => ?_), h.le⟩
 obtain ⟨ad, rfl, hS, hc⟩ := hs (by rintro rfl; simp at hn)
 refine ⟨ad.add a, rfl, by rw [add_block]; exact hS, fun j u hu => ?_⟩
 rw [add_add]
 refine hc _ u ?_
 rw [List.getElem?_drop, List.getElem?_take] at hu
 split at hu
 · exact hu
 · cases hu
theorem RD.none {n : Nat} {A : Option Addr} (hn : n = 0) {c : Nat} (hc : c ≤ maxLen) : RD K (.list n []) (.slice A n c) := by
 subst hn
 exact ⟨list_reads (Nat.zero_le _) hc ReadsL.nil (fun h => absurd rfl h), Nat.le_refl _⟩
variable {P : Program} {ops : Array Oper} {rest : List Oper} {o : Oper} {a : Act} {Q : Exit → Act → World → Prop}
theorem oQm (m : Nat) {g : Nat} {us : List Value} {e : TypeId} (H : Hp w0 w K (.box g us e :: M)) {s x : Operand} {t : TypeId} {size bytes n i : Nat} {v : Value} {vs : List Value} {a' : Option Addr → Nat → Act}
  (h : ∀ A' c' w', n + m ≤ c' → c' ≤ maxLen → Hp w0 w' K (M.set i (.row e size (.slice A' (n + m) c') (n + m) (vs ++ us))) → wpList P ops Q rest (a' A' c') w')
  (ho : o.op = .call { callee := .builtin .append, args := #[s, x], argTypes := #[t, t] } := by rfl) (hx : a.eval x = .slice (some ⟨g, 0, none⟩) m m := by rfl) (hsl : Sli P t e size bytes := by infer_instance) (hs : a.eval s = v := by first | rfl | (simp [Act.eval, Act.put]; done) | fail)
  (hi : M[i]? = some (.row e size v n vs) := by ((repeat (first | exact i0 | apply iS)) <;> fail)) (hl : us.length = m * size := by rfl) (h1 : ∀ u ∈ us, u.oneCell' = true := by first | (simp [Value.oneCell']; done) | assumption | fail)
  (hb : (n + m) * bytes ≤ 140737488355328 := by omega) (ha : ∀ A' c', a.put o.dst (.slice A' (n + m) c') = a' A' c' := by (intro A c; simp only [Act.put, List.setIfInBounds_toArray, List.set_cons_zero, List.set_cons_succ]; try rfl)) (hgd : o.guard = none := by rfl) : wpList P ops Q (o :: rest) a w := by
 obtain ⟨ti, z, hu, hti, hz, hsz, hby, hzs, h0, hb0⟩ := hsl.h
 have hmul : (n + m) * 1 ≤ (n + m) * bytes := Nat.mul_le_mul_left _ hb0
 refine append_hp hgd s x t ho e ti z size bytes hu hti hz hsz hby hzs h0 H (i + 1) v n vs (by simpa using hi) hs (some ⟨g, 0, none⟩) m m us hx hl (H.rd (i := 0) rfl) h1 (by simp only [maxLen]; omega) hb fun v' w' H' => ?_
 have hlt : i < M.length := (List.getElem?_eq_some_iff.1 hi).1
 have H2 : Hp w0 w' K (M.set i (.row e size v' (n + m) (vs ++ us))) := by simpa using H'.tail
 obtain ⟨A', c', rfl, h2, h3⟩ := H2.slice (i := i) (List.getElem?_set_self hlt)
 rw [ha A' c']
 exact h A' c' w' h2 h3 H2
end
section
variable {w0 w K : World} {M : List Ent}
theorem common_hp {ls : List (List Int)} {n c : Nat} {A : Option Addr} (hl : ls.length = n) (hn : n ≤ 4194304) (hx : ∀ x ∈ ls, x.length ≤ 4194304) (hd : RD K (.list n (linesL ls)) (.slice A n c)) (H : Hp w0 w K M) :
  Calls Tryz.prog 215 #[.slice A n c] w fun e w' => e = .returned (.int .i64 (commonF ls)) ∧ w' = w := by
 obtain ⟨r, hr⟩ : ∃ r, commonF ls = r := ⟨_, rfl⟩
 rw [hr]
 unfold commonF at hr
 obtain ⟨q, hq⟩ : ∃ q, leastGo (ls.drop 1) (-1) = q := ⟨_, rfl⟩
 rw [hq] at hr
 have HQ := hide hq
 have HN := hide hl
 have HX := hide hx
 clear hq hl hx
 go_enter Tryz.func215, Tryz.ntmps215
 go_wp2_with fail
 go_loopw [3, 4, 5] (fun lv iv _ wr => ∃ (k : Nat) (l : Int), (k ≤ n ∨ k = 1) ∧ lv = .int .i64 l ∧ iv = .int .i64 k ∧ Hid (leastGo (ls.drop k) l = q) ∧ -1 ≤ l ∧ l ≤ 4194304 ∧ wr = w) (fun _ iv _ _ => n - (intOf iv).toNat)
 case atStart => exact ⟨1, -1, .inr rfl, rfl, rfl, HQ, by omega, by omega, rfl⟩
 case round =>
  clear HQ
  obtain ⟨k, l, hk, rfl, rfl, hq, hl1, hl2, rfl⟩ := hrel
  by_cases hlt : k < n
  · have hkI : (k : Int) < (n : Int) := by omega
    obtain ⟨x, hx⟩ : ∃ x, ls[k]? = some x := ⟨_, List.getElem?_eq_getElem (by rw [HN.out]; exact hlt)⟩
    obtain ⟨ad, A', c', rfl, hcK, hxd⟩ := line_k hd hx
    have hc := H.sat.cell hcK
    have hxl := HX.out x (List.mem_of_getElem? hx)
    have hcall := indent_any A' x.length c' _ x wr (rune_rd H hxd) rfl (by omega)
    have hix := indF_le x
    obtain ⟨hk', hxe⟩ := List.getElem?_eq_some_iff.1 hx
    have h0 := hq.out
    rw [List.drop_eq_getElem_cons hk', hxe, leastGo] at h0
    unfold leastF at h0
    generalize indF x = p at h0 hcall hix
    generalize x.length = m at h0 hcall hix hxl hc
    clear hx hxe hk' hq hxd hcK
    by_cases hpm : p < m
    · have hpI : (p : Int) < (m : Int) := by omega
      by_cases hl0 : l < 0
      · rw [if_pos ⟨hpm, .inl hl0⟩] at h0
        have H1 := hide h0
        clear h0
        go_wp2_with (first | (go_at_call 221; refine hcall.mono ?_; rintro e w' ⟨rfl, rfl⟩))
        go_roundw
        case rel => exact ⟨k + 1, p, by omega, rfl, by go_num, H1, by omega, by omega, trivial⟩
        case measure => simp [intOf]; omega
      · by_cases hpl : (p : Int) < l
        · rw [if_pos ⟨hpm, .inr hpl⟩] at h0
          have H1 := hide h0
          clear h0
          go_wp2_with (first | (go_at_call 221; refine hcall.mono ?_; rintro e w' ⟨rfl, rfl⟩))
          go_roundw
          case rel => exact ⟨k + 1, p, by omega, rfl, by go_num, H1, by omega, by omega, trivial⟩
          case measure => simp [intOf]; omega
        · rw [if_neg (by omega)] at h0
          have H1 := hide h0
          clear h0
          go_wp2_with (first | (go_at_call 221; refine hcall.mono ?_; rintro e w' ⟨rfl, rfl⟩))
          go_roundw
          case rel => exact ⟨k + 1, l, by omega, rfl, by go_num, H1, by omega, by omega, trivial⟩
          case measure => simp [intOf]; omega
    · have hpI : ¬ (p : Int) < (m : Int) := by omega
      rw [if_neg (by omega)] at h0
      have H1 := hide h0
      clear h0
      go_wp2_with (first | (go_at_call 221; refine hcall.mono ?_; rintro e w' ⟨rfl, rfl⟩))
      go_roundw
      case rel => exact ⟨k + 1, l, by omega, rfl, by go_num, H1, by omega, by omega, trivial⟩
      case measure => simp [intOf]; omega
  · have hkI : ¬ (k : Int) < (n : Int) := by omega
    have h0 := hq.out
    rw [List.drop_of_length_le (by rw [HN.out]; omega), leastGo] at h0
    subst h0
    by_cases hl0 : l < 0
    · rw [if_pos hl0] at hr
      subst hr
      clear hq
      go_wp2_with fail
      go_ret
      exact ⟨rfl, rfl⟩
    · rw [if_neg hl0] at hr
      subst hr
      clear hq
      go_wp2_with fail
      go_ret
      exact ⟨rfl, rfl⟩
theorem opened_hp {s : List Int} {n c : Nat} {A : Option Addr} (hl : s.length = n) (hn : n ≤ 4194304) (hd : RD K (.list n (runesL s)) (.slice A n c)) (H : Hp w0 w K M) :
  Calls Tryz.prog 211 #[.slice A n c] w fun e w' => ∃ K' A' c', e = .returned (.slice A' (openF s).length c') ∧ Sat K' K ∧ Hp w0 w' K' M ∧ RD K' (.list (openF s).length (runesL (openF s))) (.slice A' (openF s).length c') := by
 have HE : Hid ([] ++ openGo s (n + 1) 0 = openF s) := by show _ = _; unfold openF; rw [hl]; rfl
 have HN := hide hl
 obtain ⟨out, hout⟩ : ∃ x, openF s = x := ⟨_, rfl⟩
 rw [hout] at HE ⊢
 clear hl hout
 go_enter Tryz.func211, Tryz.ntmps211
 go_wp2_with fail
 replace H := H.nilRow 21 1
 go_loopw [3, 4, 5] (fun v iv _ wr => ∃ (k g : Nat) (dn : List Int) (A' : Option Addr) (c' : Nat), k ≤ n ∧ n < k + g ∧ dn.length ≤ k ∧ v = .slice A' dn.length c' ∧ iv = .int .i64 k ∧ Hid (dn ++ openGo s g k = out) ∧ Hp w0 wr K (.row 21 1 (.slice A' dn.length c') dn.length (rv dn) :: M)) (fun _ iv _ _ => n - (intOf iv).toNat)
 case atStart => exact ⟨0, n + 1, [], none, 0, by omega, by omega, by simp, rfl, rfl, HE, H⟩
 case round =>
  clear H HE
  obtain ⟨k, g, dn, A', c', hk, hg, hdn, rfl, rfl, he, H⟩ := hrel
  obtain ⟨g, rfl⟩ : ∃ g', g = g' + 1 := ⟨g - 1, by omega⟩
  have h0 := he.out
  rw [openGo] at h0
  clear he
  by_cases hlt : k < n
  · have hkI : (k : Int) < (n : Int) := by omega
    obtain ⟨z, hz⟩ : ∃ z, s[k]? = some z := ⟨_, List.getElem?_eq_getElem (by rw [HN.out]; exact hlt)⟩
    rw [hz] at h0
    dsimp only at h0
    have hrd := rune_rd H hd
    obtain ⟨ad, rfl, hc⟩ := at_i32 hrd hz
    have hcall := escaped_any (some ad) n c _ s wr hrd HN.out (by omega) k (by omega)
    clear hz hrd
    cases h3 : escT s k with
    | true =>
     rw [h3, if_pos rfl] at h0
     rw [h3] at hcall
     have hl4 := escT_len h3
     have := HN.out
     have H1 : Hid ((dn ++ [34, 34, 34]) ++ openGo s g (k + 4) = out) := by show _ = _; rw [← h0]; simp
     clear h0 h3
     go_wp2_with (first | (go_at_call 214; refine hcall.mono ?_; rintro e w' ⟨rfl, rfl⟩) | (refine oP H ?_ (hd := dbS (pv := [(0, .int .i32 34), (1, .int .i32 34), (2, .int .i32 34)]) (cs := [.int .i32 34, .int .i32 34, .int .i32 34]) rfl rfl (by simp [Act.eval]) rfl); clear H hc; intro w g1 H) | (refine oQm 3 H ?_; clear H; intro A1 c1 w1 _ _ H; dsimp only [List.set] at H))
     have hlen : (dn ++ [34, 34, 34]).length = dn.length + 3 := by simp
     go_roundw
     case rel => exact ⟨k + 4, g, dn ++ [34, 34, 34], _, _, by omega, by omega, by omega, by rw [hlen], by go_num, H1, by rw [hlen]; simpa [rv] using H⟩
     case measure => simp [intOf]; omega
    | false =>
     rw [h3, if_neg (by decide)] at h0
     rw [h3] at hcall
     have H1 : Hid ((dn ++ [z]) ++ openGo s g (k + 1) = out) := by show _ = _; rw [← h0]; simp
     clear h0 h3
     go_wp2_with (first | (go_at_call 214; refine hcall.mono ?_; rintro e w' ⟨rfl, rfl⟩) | (refine oP H ?_; clear H hc; intro w g1 H) | (refine oQ H ?_; clear H; intro A1 c1 w1 _ _ H; dsimp only [List.set] at H))
     have hlen : (dn ++ [z]).length = dn.length + 1 := by simp
     go_roundw
     case rel => exact ⟨k + 1, g, dn ++ [z], _, _, by omega, by omega, by omega, by rw [hlen], by go_num, H1, by rw [hlen]; simpa [rv] using H⟩
     case measure => simp [intOf]; omega
  · have hkI : ¬ (k : Int) < (n : Int) := by omega
    rw [List.getElem?_eq_none (by rw [HN.out]; omega)] at h0
    dsimp only at h0
    rw [List.append_nil] at h0
    subst h0
    obtain ⟨K', hle, H, hdn⟩ := H.freezeRow (runes_rl dn)
    go_wp2_with fail
    go_ret
    exact ⟨K', _, _, rfl, hle, H, hdn⟩
end
end Go.Proofs.YtbpgkkoeehopjaaGreat.hp
namespace Go.Proofs.YtbpgkkoeehopjaaGreat.hp
open Go.RowKit Go.Proofs.YtbpgkkoeehopjaaGreat.words Go.Proofs.YtbpgkkoeehopjaaGreat.enc Go.Proofs.YtbpgkkoeehopjaaGreat.tree Go.Proofs.YtbpgkkoeehopjaaGreat.gram Go.Proofs.YtbpgkkoeehopjaaGreat.lex Go.Proofs.YtbpgkkoeehopjaaGreat.rd Go.Proofs.YtbpgkkoeehopjaaGreat.dec Go.Proofs.YtbpgkkoeehopjaaGreat.dat Go.Proofs.YtbpgkkoeehopjaaGreat.held
set_option maxRecDepth 100000
set_option maxHeartbeats 40000000
attribute [local go_sem ↓] Go.wp_at_zero Go.wp_at_succ
section
variable {w0 w K : World} {M : List Ent}
theorem copyDirs_row {l : List DirD} {A : Option Addr} {c : Nat} (hm : sumN dirN l ≤ 9000000) (hd : RD K (.list l.length (dirsL l)) (.slice A l.length c)) (H : Hp w0 w K M) :
  Calls Tryz.prog 109 #[.slice A l.length c] w fun e w' => ∃ K' A' c' vs, e = .returned (.slice A' l.length c') ∧ Sat K' K ∧ RL K' (dirsL l) vs ∧ Hp w0 w' K' (.row 181 4 (.slice A' l.length c') l.length vs :: M) := by
 have hn := Nat.le_trans (sum_len dirN_pos l) hm
 have HX := hide (show ∀ x ∈ l, dirN x ≤ 9000000 from fun x hx => by obtain ⟨k, hk⟩ := List.getElem?_of_mem hx; have := sum_at (f := dirN) hk; omega)
 obtain ⟨n, hn2⟩ : ∃ x, l.length = x := ⟨_, rfl⟩
 rw [hn2] at hd hn ⊢
 have HN := hide hn2
 clear hn2 hm
 go_enter Tryz.func109, Tryz.ntmps109
 go_wp2_with fail
 replace H := H.nilRow 181 4
 go_loopw [3, 11] (fun v i wr => ∃ (K' : World) (k : Nat) (A' : Option Addr) (c' : Nat) (vs : List Value), k ≤ n ∧ i = .int .i64 k ∧ v = .slice A' k c' ∧ Sat K' K ∧ RL K' (dirsL (l.take k)) vs ∧ Hp w0 wr K' (.row 181 4 (.slice A' k c') k vs :: M)) (fun _ i _ => n - (intOf i).toNat)
 case atStart => exact ⟨K, 0, none, 0, [], Nat.zero_le _, rfl, rfl, Sat.refl _, .nil (Nat.le_refl _), H⟩
 case round =>
  clear H
  obtain ⟨K', k, A', c', vs, hk, rfl, rfl, hle, hvs, H⟩ := hrel
  replace hd := hd.sat hle
  by_cases hlt : k < n
  · obtain ⟨x, ad, us, hx, rfl, hxl, hat⟩ := el_k (m := 4) (f := dirL) (fun _ => rfl) hd (by rw [HN.out]; exact hlt) (by decide)
    obtain ⟨hkI, hwr⟩ := wr_k hlt hn
    have hxn := HX.out x (List.mem_of_getElem? hx)
    have HT := hide (take_next hx)
    obtain ⟨dn, args, dl, dc⟩ := x
    obtain ⟨Aa, ca, rfl, ha⟩ := dir_cells hxl
    simp only [dirN] at hxn
    have hna : args.length ≤ 9000000 := by have := pairs_len args; omega
    have HF := hide (show ∀ x ∈ args, pairN x ≤ 9000000 from fun x hx => by obtain ⟨k, hk⟩ := List.getElem?_of_mem hx; have := pairs_at hk; omega)
    dsimp only at ha hat
    rw [pairsL_eq] at ha
    obtain ⟨na, hna2⟩ : ∃ x, args.length = x := ⟨_, rfl⟩
    rw [hna2] at ha hna hat
    have HNA := hide hna2
    clear hx hna2 hxn hxl
    go_wp2_with (first | (refine oL H ?_) | (refine oA 6 H ?_; clear H; intro w gd H) | (refine oP H ?_; clear H; intro w _ H))
    replace H : Hp _ _ _ (.box gd _ _ :: .row 181 4 _ _ _ :: M) := H.fin
    replace H := H.nilRow 185 10
    go_loopw [23] (fun i wq => ∃ (K2 : World) (j : Nat) (A2 : Option Addr) (c2 : Nat) (vs2 : List Value), j ≤ na ∧ i = .int .i64 j ∧ Sat K2 K' ∧ RL K2 (pairsL (args.take j)) vs2 ∧ Hp w0 wq K2 (.row 185 10 (.slice A2 j c2) j vs2 :: .box gd [.string (str dn), .slice A2 j c2, .int .i64 dl, .int .i64 dc] 181 :: .row 181 4 (.slice A' k c') k vs :: M)) (fun i _ => na - (intOf i).toNat)
    case atStart => exact ⟨K', 0, none, 0, [], Nat.zero_le _, rfl, Sat.refl _, .nil (Nat.le_refl _), H⟩
    case round =>
     clear H
     obtain ⟨K2, j, A2, c2, vs2, hj, rfl, hle2, hvs2, H⟩ := hrel
     replace ha := ha.sat hle2
     by_cases hlt2 : j < na
     · obtain ⟨x, ad, us, hx, rfl, hxl, hat2⟩ := el_k pairL_len ha (by rw [HNA.out]; exact hlt2) (by decide)
       obtain ⟨hjI, hwj⟩ := wr_k hlt2 hna
       have hxn := HF.out x (List.mem_of_getElem? hx)
       have HY := hide (take_next hx)
       obtain ⟨pn, ⟨dk, dt, db, di, df, dln, dcl⟩, pl, pc⟩ := x
       obtain ⟨ls, rfl, hvl⟩ := pair_cells hxl
       obtain ⟨Xi, xi, Xf, xf, rfl, -, -⟩ := lit_cells hvl
       have hc := fun {w M} (h : Hp w0 w K2 M) => copyLit_hp 9000000 _ #[_, _, _, _, _, _, _] w0 w K2 M (by simp only [pairN] at hxn; omega) (Nat.le_refl _) hvl h
       simp only [List.cons_append, List.nil_append] at hat2
       clear hx hxl hat
       go_wp2_with (first | (refine oL H ?_) | (refine oA 8 H ?_; clear H; intro w gx H) | (refine oP H ?_; clear H; intro w _ H))
       refine rN [.box gd _ _, .box gx _ _] [13] H ?_; clear H; intro w H
       refine rT 0 H ?_; refine rT 1 H ?_; refine rT 2 H ?_; refine rT 3 H ?_; refine rT 4 H ?_; refine rT 5 H ?_; refine rT 7 H ?_; refine rT 8 H ?_
       refine rC 6 (hc H) ?_; clear H; rintro e w ⟨K3, cs, rfl, hle3, H, he⟩; obtain ⟨Bi, bi, Bf, bf, hcs, -, -⟩ := lit_cells he; obtain rfl : cs = #[_, _, _, _, _, _, _] := Array.toList_inj.1 hcs; clear hcs; refine rX H ?_
       refine rT 9 H ?_
       refine rW 10 H ?_; clear H; intro w _ H
       refine rA 11 H ?_; clear H; intro A2 c2 w _ _ H; dsimp only [List.set] at H
       refine rT 12 H ?_
       refine rL 13 H ?_; clear H; intro w _ H
       refine rE ?_
       have hpe : RL K3 (pairL (.mk pn (.mk dk dt db di df dln dcl) pl pc)) [.string (str pn), .int .i64 dk, .string (str dt), .bool db, .slice Bi di.length bi, .slice Bf df.length bf, .int .i64 dln, .int .i64 dcl, .int .i64 pl, .int .i64 pc] := DatL.lit (DatL.app he (DatL.lit (DatL.lit (DatL.nil he.le))))
       go_wp2_with (first | (refine oL H ?_) | (refine oP H ?_; clear H; intro w _ H))
       go_roundw
       case rel => exact ⟨K3, j + 1, _, _, _, by omega, by go_num, hle3.trans hle2, by rw [HY.out, pairsL_app]; exact (hvs2.sat hle3).app (by simpa [pairsL] using hpe), H.fin⟩
       case measure => simp [intOf]; omega
     · obtain rfl : j = na := by omega
       rw [List.take_of_length_le (by rw [HNA.out]; exact Nat.le_refl _)] at hvs2
       obtain ⟨K3, hle3, H, hd1⟩ := H.freezeRow hvs2
       have hde : RL K3 (dirL ⟨dn, args, dl, dc⟩) [.string (str dn), .slice A2 j c2, .int .i64 dl, .int .i64 dc] := .lit (.cons (by rw [HNA.out]; exact hd1) (.lit (.lit (.nil (Nat.le_refl _)))))
       go_wp2_with (first | (refine oL H ?_) | (refine oP H ?_; clear H; intro w _ H) | (refine oQ H ?_; clear H; intro A' c' w _ _ H; dsimp only [List.set] at H))
       go_roundw
       case rel => exact ⟨K3, k + 1, _, _, _, by omega, by go_num, rfl, hle3.trans (hle2.trans hle), by rw [HT.out, dirsL_app]; exact (hvs.sat (hle3.trans hle2)).app (one_c (f := dirL) hde), H.fin⟩
       case measure => simp [intOf]; omega
  · obtain rfl : k = n := by omega
    rw [List.take_of_length_le (by rw [HN.out]; exact Nat.le_refl _)] at hvs
    go_wp2_with fail
    go_ret
    exact ⟨K', A', c', vs, rfl, hle, hvs, H⟩
theorem copyDirs_hp {l : List DirD} {A : Option Addr} {c : Nat} (hm : sumN dirN l ≤ 9000000) (hd : RD K (.list l.length (dirsL l)) (.slice A l.length c)) (H : Hp w0 w K M) :
  Calls Tryz.prog 109 #[.slice A l.length c] w fun e w' => ∃ K' A' c', e = .returned (.slice A' l.length c') ∧ Sat K' K ∧ Hp w0 w' K' M ∧ RD K' (.list l.length (dirsL l)) (.slice A' l.length c') :=
 (copyDirs_row hm hd H).mono fun e w' ⟨K', A', c', vs, he, hle, hvs, H⟩ => by
   obtain ⟨K2, hle2, H, hd⟩ := H.freezeRow hvs
   exact ⟨K2, A', c', he, hle2.trans hle, H, hd⟩
theorem copyInputs_row {l : List InputD} {A : Option Addr} {c : Nat} (hm : sumN inputN l ≤ 9000000) (hd : RD K (.list l.length (inputsL l)) (.slice A l.length c)) (H : Hp w0 w K M) :
  Calls Tryz.prog 110 #[.slice A l.length c] w fun e w' => ∃ K' A' c' vs, e = .returned (.slice A' l.length c') ∧ Sat K' K ∧ RL K' (inputsL l) vs ∧ Hp w0 w' K' (.row 123 17 (.slice A' l.length c') l.length vs :: M) := by
 have hn := Nat.le_trans (sum_len inputN_pos l) hm
 have HX := hide (show ∀ x ∈ l, inputN x ≤ 9000000 from fun x hx => by obtain ⟨k, hk⟩ := List.getElem?_of_mem hx; have := sum_at (f := inputN) hk; omega)
 obtain ⟨n, hn2⟩ : ∃ x, l.length = x := ⟨_, rfl⟩
 rw [hn2] at hd hn ⊢
 have HN := hide hn2
 clear hn2 hm
 go_enter Tryz.func110, Tryz.ntmps110
 go_wp2_with fail
 replace H := H.nilRow 123 17
 go_loopw [3, 8] (fun v i wr => ∃ (K' : World) (k : Nat) (A' : Option Addr) (c' : Nat) (vs : List Value), k ≤ n ∧ i = .int .i64 k ∧ v = .slice A' k c' ∧ Sat K' K ∧ RL K' (inputsL (l.take k)) vs ∧ Hp w0 wr K' (.row 123 17 (.slice A' k c') k vs :: M)) (fun _ i _ => n - (intOf i).toNat)
 case atStart => exact ⟨K, 0, none, 0, [], Nat.zero_le _, rfl, rfl, Sat.refl _, .nil (Nat.le_refl _), H⟩
 case round =>
  clear H
  obtain ⟨K', k, A', c', vs, hk, rfl, rfl, hle, hvs, H⟩ := hrel
  replace hd := hd.sat hle
  by_cases hlt : k < n
  · obtain ⟨x, ad, us, hx, rfl, hxl, hat⟩ := el_k inputL_len hd (by rw [HN.out]; exact hlt) (by decide)
    obtain ⟨hkI, hwr⟩ := wr_k hlt hn
    have hxn := HX.out x (List.mem_of_getElem? hx)
    have HT := hide (take_next hx)
    obtain ⟨⟨nh, nb, nt⟩, dn, ⟨tn, tw⟩, dh, ⟨dk, dt, db, di, df, dln, dcl⟩, ds, dl, dc⟩ := x
    obtain ⟨ls, Ad, cd, rfl, hvl, hds⟩ := input_cells hxl
    obtain ⟨Xi, xi, Xf, xf, rfl, -, -⟩ := lit_cells hvl
    simp only [inputN] at hxn
    have hc := fun {w M} (h : Hp w0 w K' M) => copyLit_hp 9000000 _ #[_, _, _, _, _, _, _] w0 w K' M (by omega) (Nat.le_refl _) hvl h
    have hc2 := fun {w K M} (h : Hp w0 w K M) (hd : RD K (.list ds.length (dirsL ds)) (.slice Ad ds.length cd)) => copyDirs_hp (by omega) hd h
    simp only [List.cons_append, List.nil_append] at hat
    clear hx hxl
    go_wp2_with (first | (refine oL H ?_) | (refine oP H ?_; clear H; intro w _ H) | ((with_reducible refine (hc H).mono ?_); clear hc H; rintro e w ⟨K2, cs, rfl, hle2, H, he⟩; obtain ⟨Bi, bi, Bf, bf, hcs, -, -⟩ := lit_cells he; obtain rfl : cs = #[_, _, _, _, _, _, _] := Array.toList_inj.1 hcs; clear hcs; replace hds := hds.sat hle2) | ((with_reducible refine (hc2 H hds).mono ?_); clear hc2 H; rintro e w ⟨K3, Ae, ce, rfl, hle3, H, hde⟩) | (refine oQ H ?_; clear H; intro A' c' w _ _ H; dsimp only [List.set] at H))
    have hpe := input_leaf (nh := nh) (nb := nb) (nt := nt) (dn := dn) (tn := tn) (tw := tw) (dh := dh) (dl := dl) (dc := dc) (he.sat hle3) hde
    go_roundw
    case rel => exact ⟨K3, k + 1, _, _, _, by omega, by go_num, rfl, hle3.trans (hle2.trans hle), by rw [HT.out, inputsL_app]; exact (hvs.sat (hle3.trans hle2)).app (one_c (f := inputL) hpe), H.fin⟩
    case measure => simp [intOf]; omega
  · obtain rfl : k = n := by omega
    rw [List.take_of_length_le (by rw [HN.out]; exact Nat.le_refl _)] at hvs
    go_wp2_with fail
    go_ret
    exact ⟨K', A', c', vs, rfl, hle, hvs, H⟩
theorem copyInputs_hp {l : List InputD} {A : Option Addr} {c : Nat} (hm : sumN inputN l ≤ 9000000) (hd : RD K (.list l.length (inputsL l)) (.slice A l.length c)) (H : Hp w0 w K M) :
  Calls Tryz.prog 110 #[.slice A l.length c] w fun e w' => ∃ K' A' c', e = .returned (.slice A' l.length c') ∧ Sat K' K ∧ Hp w0 w' K' M ∧ RD K' (.list l.length (inputsL l)) (.slice A' l.length c') :=
 (copyInputs_row hm hd H).mono fun e w' ⟨K', A', c', vs, he, hle, hvs, H⟩ => by
   obtain ⟨K2, hle2, H, hd⟩ := H.freezeRow hvs
   exact ⟨K2, A', c', he, hle2.trans hle, H, hd⟩
end
section
variable {P : Program} {w0 w K : World} {M : List Ent} {ops : Array Oper} {rest : List Oper} {o : Oper} {a : Act} {Q : Exit → Act → World → Prop}
theorem oN {m c : Nat} {A : Option Addr} {ls : List Leaf} (H : Hp w0 w K M) {s x : Operand} {t e : TypeId} {size bytes : Nat} {a' : Option Addr → Nat → Act}
  (h : ∀ us A' c' w', RL K ls us → m ≤ c' → c' ≤ maxLen → Hp w0 w' K (.row e size (.slice A' m c') m us :: M) → wpList P ops Q rest (a' A' c') w')
  (ho : o.op = .call { callee := .builtin .append, args := #[s, x], argTypes := #[t, t] } := by rfl) (hs : a.eval s = .slice none 0 0 := by rfl) (hx : a.eval x = .slice A m c := by first | rfl | (simp [Act.eval, Act.put]; done) | fail) (hsl : Sli P t e size bytes := by infer_instance)
  (hd : RD K (.list m ls) (.slice A m c) := by assumption) (hlen : ls.length = m * size := by first | exact namedsL_len _ | exact rootsL_len _ | fail)
  (hb : m * bytes ≤ 140737488355328 := by omega) (ha : ∀ A' c', a.put o.dst (.slice A' m c') = a' A' c' := by (intro A c; simp only [Act.put, List.setIfInBounds_toArray, List.set_cons_zero, List.set_cons_succ]; try rfl)) (hgd : o.guard = none := by rfl) : wpList P ops Q (o :: rest) a w :=
 oR (H.nilRow e size) (fun us A' c' w' h1 _ h3 h4 H' => by
  rw [Nat.zero_add] at h3 H' ⊢
  rw [ha A' c']
  exact h us A' c' w' h1 h3 h4 H') ho hx hsl hs (i := 0) rfl hd hlen (by rw [Nat.zero_add]; exact hb) (fun _ _ => rfl) hgd
end
section
variable {w0 w K : World} {M : List Ent}
theorem copyField_hp (d : FieldD) (cs : Array Value) (H : Hp w0 w K M) (hm : fieldN d ≤ 9000000) (hd : RL K (fieldL d) cs.toList) :
  Calls Tryz.prog 87 #[.agg cs] w fun e w' => ∃ K' cs', e = .returned (.agg cs') ∧ Sat K' K ∧ Hp w0 w' K' M ∧ RL K' (fieldL d) cs'.toList := by
 obtain ⟨⟨nh, nb, nt⟩, dn, args, ⟨tn, tw⟩, ds, dl, dc⟩ := d
 obtain ⟨Aa, ca, Ad, cd, hcs, ha, hds⟩ := field_cells hd
 obtain rfl : cs = #[_, _, _, _, _, _, _, _, _, _] := Array.toList_inj.1 hcs
 simp only [fieldN] at hm
 clear hcs hd
 have c2 := fun {w K M} (h : Hp w0 w K M) (hd : RD K (.list ds.length (dirsL ds)) (.slice Ad ds.length cd)) => copyDirs_hp (by omega) hd h
 go_enter Tryz.func87, Tryz.ntmps87
 go_wp2_with (first | (refine oL H ?_) | (refine oP H ?_; clear H; intro w _ H) | ((with_reducible refine (copyInputs_hp (by omega) ha H).mono ?_); clear H; rintro e w ⟨K2, Ab, cb, rfl, hle2, H, hb⟩; replace hds := hds.sat hle2) | ((with_reducible refine (c2 H hds).mono ?_); clear H; rintro e w ⟨K3, Ae, ce, rfl, hle3, H, he⟩))
 refine oB H ?_
 exact ⟨K3, _, rfl, hle3.trans hle2, H.fin, field_leaf (hb.sat hle3) he⟩
theorem copyDef_rows (d : DefD) (cs : Array Value) (H : Hp w0 w K M) (hm : defN d ≤ 9000000) (hd : RL K (defL d) cs.toList) :
  Calls Tryz.prog 65 #[.agg cs] w fun e w' => ∃ K' V, e = .returned (.agg (DV.cells d V).toArray) ∧ Sat K' K ∧ Hp w0 w' K' (DV.rows d V ++ M) ∧ V.ok K' d := by
 obtain ⟨kind, ext, ⟨nh, nb, nt⟩, name, li, ld, lf, lp, lm, lv, lr, rep, lq, dl, dc⟩ := d
 obtain ⟨A6, c6, A7, c7, A8, c8, A9, c9, A10, c10, A11, c11, A12, c12, A14, c14, hcs, h6, h7, h8, h9, h10, h11, h12, h14⟩ := def_cells hd
 obtain rfl : cs = #[_, _, _, _, _, _, _, _, _, _, _, _, _, _, _, _, _] := Array.toList_inj.1 hcs
 dsimp only at h6 h7 h8 h9 h10 h11 h12 h14
 simp only [defN] at hm
 have s7 := sum_len dirN_pos ld
 have s8 := sum_len fieldN_pos lf
 have s9 := sum_len inputN_pos lp
 have s11 := sum_len valueN_pos lv
 have HF := hide (show ∀ x ∈ lf, fieldN x ≤ 9000000 from fun x hx => by obtain ⟨k, hk⟩ := List.getElem?_of_mem hx; have := sum_at (f := fieldN) hk; omega)
 have HV := hide (show ∀ x ∈ lv, valueN x ≤ 9000000 from fun x hx => by obtain ⟨k, hk⟩ := List.getElem?_of_mem hx; have := sum_at (f := valueN) hk; omega)
 have b6 : li.length ≤ 9000000 ∧ sumN dirN ld ≤ 9000000 ∧ lf.length ≤ 9000000 ∧ sumN inputN lp ≤ 9000000 ∧ lm.length ≤ 9000000 ∧ lv.length ≤ 9000000 ∧ lr.length ≤ 9000000 ∧ lq.length ≤ 9000000 := by omega
 obtain ⟨b6, b7, b8, b9, b10, b11, b12, b14⟩ := b6
 clear hcs hd s7 s8 s9 s11 hm
 obtain ⟨nf, hnf⟩ : ∃ x, lf.length = x := ⟨_, rfl⟩
 obtain ⟨nv, hnv⟩ : ∃ x, lv.length = x := ⟨_, rfl⟩
 rw [hnf] at h8 b8
 rw [hnv] at h11 b11
 have HNF := hide hnf
 have HNV := hide hnv
 dsimp only
 rw [hnf, hnv]
 clear hnf hnv
 go_enter Tryz.func65, Tryz.ntmps65
 go_wp2_with (first | (refine oA 1 H ?_; clear H; intro w gd H) | (refine oA 2 H ?_; clear H; intro w gz H))
 refine rB [] H ?_; clear H; intro w H
 refine rT 0 H ?_; refine rT 1 H ?_; refine rT 2 H ?_; refine rT 3 H ?_; refine rT 4 H ?_; refine rT 5 H ?_
 refine rE ?_
 go_wp2_with (first | (refine oL H ?_) | (refine oP H ?_; clear H; intro w _ H))
 replace H := H.nilRow 52 10
 go_loopw [17] (fun i wr => ∃ (K' : World) (k : Nat) (A' : Option Addr) (c' : Nat) (vs : List Value), k ≤ nf ∧ i = .int .i64 k ∧ Sat K' K ∧ RL K' (fieldsL (lf.take k)) vs ∧ Hp w0 wr K' (.row 52 10 (.slice A' k c') k vs :: .box gz [.int .i64 0, .bool false, .bool false, .bool false, .string ⟨#[]⟩, .string ⟨#[]⟩, .slice none 0 0, .slice none 0 0, .slice none 0 0, .slice none 0 0, .slice none 0 0, .slice none 0 0, .slice none 0 0, .bool false, .slice none 0 0, .int .i64 0, .int .i64 0] 43 ::
  .box gd [.int .i64 kind, .bool ext, .bool nh, .bool nb, .string (str nt), .string (str name), .slice A6 li.length c6, .slice A7 ld.length c7, .slice A' k c', .slice A9 lp.length c9, .slice A10 lm.length c10, .slice none 0 0, .slice A12 lr.length c12, .bool rep, .slice A14 lq.length c14, .int .i64 dl, .int .i64 dc] 43 :: M)) (fun i _ => nf - (intOf i).toNat)
 case atStart => exact ⟨K, 0, none, 0, [], Nat.zero_le _, rfl, Sat.refl _, .nil (Nat.le_refl _), H⟩
 case round =>
  clear H
  obtain ⟨K', k, A', c', vs, hk, rfl, hle, hvs, H⟩ := hrel
  replace h8 := h8.sat hle
  by_cases hlt : k < nf
  · obtain ⟨x, ad, us, hx, rfl, hxl, hat⟩ := el_k (m := 10) (f := fieldL) (fun _ => rfl) h8 (by rw [HNF.out]; exact hlt) (by decide)
    obtain ⟨hkI, hwr⟩ := wr_k hlt b8
    have hxn := HF.out x (List.mem_of_getElem? hx)
    have HX := hide (take_next hx)
    obtain ⟨⟨fnh, fnb, fnt⟩, fn, fas, ⟨ftn, ftw⟩, fds, fl, fc⟩ := x
    obtain ⟨Xi, xi, Xf, xf, rfl, -, -⟩ := field_cells hxl
    have hc := fun {w M} (h : Hp w0 w K' M) => copyField_hp _ #[_, _, _, _, _, _, _, _, _, _] h hxn hxl
    clear hx
    go_wp2_with (first | (refine oL H ?_) | (refine oA 6 H ?_; clear H; intro w gx H) | (refine oP H ?_; clear H; intro w _ H))
    refine rN [.box gd _ _, .box gx _ _] [7] H ?_; clear H; intro w H
    refine rT 0 H ?_; refine rT 1 H ?_; refine rT 2 H ?_
    refine rC 3 (hc H) ?_; clear H; rintro e w ⟨K2, cs, rfl, hle2, H, he⟩; obtain ⟨Bi, bi, Bf, bf, hcs, -, -⟩ := field_cells he; obtain rfl : cs = #[_, _, _, _, _, _, _, _, _, _] := Array.toList_inj.1 hcs; clear hcs; refine rX H ?_
    refine rW 4 H ?_; clear H; intro w _ H
    refine rA 5 H ?_; clear H; intro A' c' w _ _ H; dsimp only [List.set] at H
    refine rT 6 H ?_
    refine rL 7 H ?_; clear H; intro w _ H
    refine rE ?_
    go_wp2_with (first | (refine oL H ?_) | (refine oP H ?_; clear H; intro w _ H))
    go_roundw
    case rel => exact ⟨K2, k + 1, _, _, _, by omega, by go_num, hle2.trans hle, by rw [HX.out, fieldsL_app]; exact (hvs.sat hle2).app (one_c (f := fieldL) he), H.fin⟩
    case measure => simp [intOf]; omega
  · obtain rfl : k = nf := by omega
    rw [List.take_of_length_le (by rw [HNF.out]; exact Nat.le_refl _)] at hvs
    replace h11 := h11.sat hle
    clear hlt h8
    go_wp2_with (first | (refine oL H ?_) | (refine oP H ?_; clear H; intro w _ H))
    replace H := H.nilRow 133 7
    go_loopw [31] (fun i wr => ∃ (K2 : World) (j : Nat) (A2 : Option Addr) (c2 : Nat) (vs2 : List Value), j ≤ nv ∧ i = .int .i64 j ∧ Sat K2 K' ∧ RL K2 (valuesL (lv.take j)) vs2 ∧ Hp w0 wr K2 (.row 133 7 (.slice A2 j c2) j vs2 :: .row 52 10 (.slice A' k c') k vs :: .box gz [.int .i64 0, .bool false, .bool false, .bool false, .string ⟨#[]⟩, .string ⟨#[]⟩, .slice none 0 0, .slice none 0 0, .slice none 0 0, .slice none 0 0, .slice none 0 0, .slice none 0 0, .slice none 0 0, .bool false, .slice none 0 0, .int .i64 0, .int .i64 0] 43 ::
     .box gd [.int .i64 kind, .bool ext, .bool nh, .bool nb, .string (str nt), .string (str name), .slice A6 li.length c6, .slice A7 ld.length c7, .slice A' k c', .slice A9 lp.length c9, .slice A10 lm.length c10, .slice A2 j c2, .slice A12 lr.length c12, .bool rep, .slice A14 lq.length c14, .int .i64 dl, .int .i64 dc] 43 :: M)) (fun i _ => nv - (intOf i).toNat)
    case atStart => exact ⟨K', 0, none, 0, [], Nat.zero_le _, rfl, Sat.refl _, .nil (Nat.le_refl _), H⟩
    case round =>
     clear H
     obtain ⟨K2, j, A2, c2, vs2, hj, rfl, hle2, hvs2, H⟩ := hrel
     replace h11 := h11.sat hle2
     by_cases hlt : j < nv
     · obtain ⟨x, ad, us, hx, rfl, hxl, hat⟩ := el_k (m := 7) (f := valueL) (fun _ => rfl) h11 (by rw [HNV.out]; exact hlt) (by decide)
       obtain ⟨hkI, hwr⟩ := wr_k hlt b11
       have hxn := HV.out x (List.mem_of_getElem? hx)
       have HX := hide (take_next hx)
       obtain ⟨⟨fnh, fnb, fnt⟩, fn, fds, fl, fc⟩ := x
       obtain ⟨Xd, xd, rfl, hxd⟩ := value_cells hxl
       simp only [valueN] at hxn
       have hc := fun {w M} (h : Hp w0 w K2 M) => copyDirs_hp (by omega) hxd h
       clear hx hxl
       go_wp2_with (first | (refine oL H ?_) | (refine oP H ?_; clear H; intro w _ H) | ((with_reducible refine (hc H).mono ?_); clear H; rintro e w ⟨K3, Ae, ce, rfl, hle3, H, he⟩) | (refine oQ H ?_; clear H; intro A' c' w _ _ H; dsimp only [List.set] at H))
       go_roundw
       case rel => exact ⟨K3, j + 1, _, _, _, by omega, by go_num, hle3.trans hle2, by rw [HX.out, valuesL_app]; exact (hvs2.sat hle3).app (one_c (f := valueL) (value_leaf he)), H.fin⟩
       case measure => simp [intOf]; omega
     · obtain rfl : j = nv := by omega
       rw [List.take_of_length_le (by rw [HNV.out]; exact Nat.le_refl _)] at hvs2
       have q := hle2.trans hle
       replace h6 := h6.sat q
       replace h7 := h7.sat q
       replace h9 := h9.sat q
       replace h10 := h10.sat q
       replace h12 := h12.sat q
       replace h14 := h14.sat q
       have c9 := fun {w K M} (h : Hp w0 w K M) (hd : RD K (.list lp.length (inputsL lp)) (.slice A9 lp.length c9)) => copyInputs_row b9 hd h
       have c7 := fun {w K M} (h : Hp w0 w K M) (hd : RD K (.list ld.length (dirsL ld)) (.slice A7 ld.length c7)) => copyDirs_row b7 hd h
       clear hlt h11
       go_upto_region 15 with (first | (refine oL H ?_) | (refine oP H ?_; clear H; intro w _ H) | (refine oN H ?_; clear H; intro u6 B6 e6 w q6 _ _ H))
       go_upto_region 16 with (first | (refine oL H ?_) | (refine oP H ?_; clear H; intro w _ H) | (refine oN H ?_; clear H; intro u10 B10 e10 w q10 _ _ H))
       go_upto_region 17 with (first | (refine oL H ?_) | (refine oP H ?_; clear H; intro w _ H) | (refine oN H ?_; clear H; intro u14 B14 e14 w q14 _ _ H))
       go_upto_region 18 with (first | (refine oL H ?_) | (refine oP H ?_; clear H; intro w _ H) | (refine oN H ?_; clear H; intro u12 B12 e12 w q12 _ _ H))
       go_wp2_with (first | (refine oL H ?_) | (refine oP H ?_; clear H; intro w _ H) | ((with_reducible refine (c9 H h9).mono ?_); clear H; rintro e w ⟨K3, B9, e9, u9, rfl, hle3, q9, H⟩; replace h7 := h7.sat hle3) | ((with_reducible refine (c7 H h7).mono ?_); clear H; rintro e w ⟨K4, B7, e7, u7, rfl, hle4, q7, H⟩))
       refine oB H ?_
       have q2 := hle4.trans hle3
       refine ⟨K4, ⟨.slice A' k c', .slice A2 j c2, .slice B6 li.length e6, .slice B10 lm.length e10, .slice B14 lq.length e14, .slice B12 lr.length e12, .slice B9 lp.length e9, .slice B7 ld.length e7, vs, vs2, u6, u10, u14, u12, u9, u7⟩, rfl, (q2.trans hle2).trans hle, ?_, hvs.sat (q2.trans hle2), hvs2.sat q2, q6.sat q2, q10.sat q2, q14.sat q2, q12.sat q2, q9.sat hle4, q7⟩
       dsimp only [DV.rows]
       rw [HNF.out, HNV.out]
       exact H.fin
theorem DV.freeze {d : DefD} {V : DV} (H : Hp w0 w K (DV.rows d V ++ M)) (hV : V.ok K d) : ∃ K', Sat K' K ∧ Hp w0 w K' M ∧ RL K' (defL d) (DV.cells d V) := by
 obtain ⟨kind, ext, ⟨nh, nb, nt⟩, name, li, ld, lf, lp, lm, lv, lr, rep, lq, dl, dc⟩ := d
 obtain ⟨K1, e1, H, d8⟩ := H.freezeRow hV.r8
 obtain ⟨K2, e2, H, d11⟩ := H.freezeRow (hV.r11.sat e1)
 have f2 := e2.trans e1
 obtain ⟨K3, e3, H, d6⟩ := H.freezeRow (hV.r6.sat f2)
 have f3 := e3.trans f2
 obtain ⟨K4, e4, H, d10⟩ := H.freezeRow (hV.r10.sat f3)
 have f4 := e4.trans f3
 obtain ⟨K5, e5, H, d14⟩ := H.freezeRow (hV.r14.sat f4)
 have f5 := e5.trans f4
 obtain ⟨K6, e6, H, d12⟩ := H.freezeRow (hV.r12.sat f5)
 have f6 := e6.trans f5
 obtain ⟨K7, e7, H, d9⟩ := H.freezeRow (hV.r9.sat f6)
 have f7 := e7.trans f6
 obtain ⟨K8, e8, H, d7⟩ := H.freezeRow (hV.r7.sat f7)
 have g6 := e8.trans e7
 have g5 := g6.trans e6
 have g4 := g5.trans e5
 have g3 := g4.trans e4
 have g2 := g3.trans e3
 exact ⟨K8, e8.trans f7, H, def_leaf (d6.sat g3) d7 (d8.sat (g2.trans e2)) (d9.sat e8) (d10.sat g4) (d11.sat g2) (d12.sat g6) (d14.sat g5)⟩
theorem copyDef_hp (d : DefD) (cs : Array Value) (H : Hp w0 w K M) (hm : defN d ≤ 9000000) (hd : RL K (defL d) cs.toList) :
  Calls Tryz.prog 65 #[.agg cs] w fun e w' => ∃ K' cs', e = .returned (.agg cs') ∧ Sat K' K ∧ Hp w0 w' K' M ∧ RL K' (defL d) cs'.toList :=
 (copyDef_rows d cs H hm hd).mono fun e w' ⟨K', V, he, hle, H, hV⟩ => by
   obtain ⟨K2, hle2, H, h⟩ := DV.freeze H hV
   exact ⟨K2, _, he, hle2.trans hle, H, h⟩
end
end Go.Proofs.YtbpgkkoeehopjaaGreat.hp
