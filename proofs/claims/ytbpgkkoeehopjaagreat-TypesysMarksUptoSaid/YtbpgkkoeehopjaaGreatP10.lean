/- Part 10 of 17 of a proof: see the last part. -/
import Derived.Test.YtbpgkkoeehopjaaGreatP4
import Derived.Test.YtbpgkkoeehopjaaGreatP5
import Derived.Test.YtbpgkkoeehopjaaGreatP9
set_option linter.unusedVariables false
set_option linter.unusedSimpArgs false
namespace Go.Proofs.YtbpgkkoeehopjaaGreat.gram
open Go.Proofs.YtbpgkkoeehopjaaGreat.tree
set_option maxRecDepth 100000
def firstAny (g : List Txt → Option (List Txt)) : List (List Txt) → Option (List Txt)
 | [] => some []
 | c :: r => match g c with
  | none => none
  | some a => match firstAny g r with
   | none => none
   | some b => some (a ++ b)
def firstSyms (g : List Txt → Option (List Txt)) (nu : Txt → Option Bool) (R : List RuleD) : List Txt → Option (List Txt)
 | [] => some []
 | s :: r =>
  if s = [] ∨ 1000 < s.length then none
  else if ruleF s = true then
   match firstAny g (choicesF R s) with
   | none => none
   | some F => match nu s with
    | none => none
    | some true => (match firstSyms g nu R r with
     | none => none
     | some G => some (F ++ G))
    | some false => some F
  else some [s]
def firstF (R : List RuleD) (nf : Nat) : Nat → List Txt → Option (List Txt)
 | 0, _ => none
 | f + 1, l => firstSyms (firstF R nf f) (nullF R nf) R l
def fits (F : List Txt) (t : TokD) : Bool := F.any fun s => fitsF s t
theorem fits_app (F G : List Txt) (t : TokD) : fits (F ++ G) t = (fits F t || fits G t) := by simp [fits]
theorem any_first {g : List Txt → Option (List Txt)} {b : List Txt → Option Bool} {t : TokD} (h : ∀ l F, g l = some F → b l = some (fits F t)) : ∀ {cs : List (List Txt)} {F : List Txt}, firstAny g cs = some F → anyO b cs = some (fits F t)
 | [], F, hF => by rw [firstAny] at hF; injection hF with hF; subst hF; rfl
 | c :: r, F, hF => by
  rw [firstAny] at hF
  cases hg : g c with
  | none => rw [hg] at hF; cases hF
  | some a =>
   rw [hg] at hF
   cases hr : firstAny g r with
   | none => rw [hr] at hF; cases hF
   | some G =>
    rw [hr] at hF
    injection hF with hF
    subst hF
    rw [anyO, h c a hg, fits_app]
    cases fits a t with
    | true => rfl
    | false => exact any_first h hr
theorem syms_first {g : List Txt → Option (List Txt)} {b : List Txt → Option Bool} {nu : Txt → Option Bool} {R : List RuleD} {t : TokD} (h : ∀ l F, g l = some F → b l = some (fits F t)) : ∀ {l F : List Txt}, firstSyms g nu R l = some F → begSyms b nu R t l = some (fits F t)
 | [], F, hF => by rw [firstSyms] at hF; injection hF with hF; subst hF; rfl
 | s :: r, F, hF => by
  rw [firstSyms] at hF
  rw [begSyms]
  by_cases h0 : s = [] ∨ 1000 < s.length
  · rw [if_pos h0] at hF; cases hF
  rw [if_neg h0] at hF ⊢
  cases hr : ruleF s with
  | false =>
   rw [hr, if_neg (by decide)] at hF
   rw [if_neg (by decide)]
   injection hF with hF; subst hF; simp [fits]
  | true =>
   rw [hr, if_pos rfl] at hF
   rw [if_pos rfl]
   cases ha : firstAny g (choicesF R s) with
   | none => rw [ha] at hF; cases hF
   | some G =>
    rw [ha] at hF
    rw [any_first h ha]
    cases hz : nu s with
    | none => rw [hz] at hF; cases hF
    | some z =>
     rw [hz] at hF
     cases z with
     | false =>
      injection hF with hF; subst hF
      cases fits G t <;> rfl
     | true =>
      simp only at hF
      cases hf : firstSyms g nu R r with
      | none => rw [hf] at hF; cases hF
      | some H =>
       rw [hf] at hF
       injection hF with hF
       subst hF
       rw [fits_app]
       cases fits G t with
       | true => rfl
       | false => exact syms_first h hf
theorem beg_first {R : List RuleD} {nf : Nat} {t : TokD} : ∀ {f : Nat} {l F : List Txt}, firstF R nf f l = some F → begF R nf t f l = some (fits F t)
 | 0, l, F, h => by cases h
 | f + 1, l, F, h => syms_first (fun l F h => beg_first h) h
def rowsF (R : List RuleD) (nf bf : Nat) : List (List Txt) → Option (List (List Txt × List Txt))
 | [] => some []
 | c :: r => match firstF R nf bf c with
  | none => none
  | some F => match rowsF R nf bf r with
   | none => none
   | some T => some ((F, c) :: T)
def pick (t : TokD) : List (List Txt × List Txt) → Option (List Txt)
 | [] => none
 | (F, c) :: r => if fits F t = true then some c else pick t r
theorem cho_rows {R : List RuleD} {nf bf : Nat} {t : TokD} : ∀ {cs : List (List Txt)} {T : List (List Txt × List Txt)}, rowsF R nf bf cs = some T → choF (begF R nf t bf) cs = some (pick t T)
 | [], T, h => by rw [rowsF] at h; injection h with h; subst h; rfl
 | c :: r, T, h => by
  rw [rowsF] at h
  cases hf : firstF R nf bf c with
  | none => rw [hf] at h; cases h
  | some F =>
   rw [hf] at h
   cases hr : rowsF R nf bf r with
   | none => rw [hr] at h; cases h
   | some U =>
    rw [hr] at h
    injection h with h
    subst h
    rw [choF, beg_first hf, pick]
    cases fits F t with
    | true => rfl
    | false => exact cho_rows hr
def tabF (R : List RuleD) (nf bf : Nat) (s : Txt) : Option (List (List Txt × List Txt) × Bool) :=
 match rowsF R nf bf (choicesF R s) with
 | none => none
 | some T => match nullF R nf s with
  | none => none
  | some z => some (T, z)
theorem chosen_tab {R : List RuleD} {nf bf : Nat} {t : TokD} {s : Txt} {T : List (List Txt × List Txt)} {z : Bool} (h : tabF R nf bf s = some (T, z)) : chosenF R nf bf t s = some (match pick t T with | some c => (c, true) | none => ([], z)) := by
 unfold tabF at h
 cases hr : rowsF R nf bf (choicesF R s) with
 | none => rw [hr] at h; cases h
 | some U =>
  rw [hr] at h
  cases hz : nullF R nf s with
  | none => rw [hz] at h; cases h
  | some y =>
   rw [hz] at h
   injection h with h
   injection h with h1 h2
   subst h1 h2
   unfold chosenF
   rw [cho_rows hr]
   cases pick t U with
   | none => simp only [hz]
   | some c => rfl
abbrev nfG : Nat := 40
abbrev bfG : Nat := 40
def tabG (s : Txt) : Option (List (List Txt × List Txt) × Bool) := tabF rulesG nfG bfG s
def rankF (R : List RuleD) : Nat → Txt → Nat
 | 0, _ => 0
 | f + 1, s => if ruleF s = true then ((choicesF R s).map fun c => match c with | [] => 0 | x :: _ => rankF R f x).foldl max 0 + 1 else 0
def rank (s : Txt) : Nat := rankF rulesG 40 s
def firstsG (s : Txt) : List Txt := if ruleF s = true then (match tabG s with
 | some (T, _) => T.flatMap (·.1)
 | none => []) else [s]
def symOk (s : Txt) : Bool := decide (s ≠ []) && decide (s.length ≤ 1000) && (!ruleF s || (rulesG.any fun r => decide (r.name = s)))
abbrev endT : Txt := [46, 101, 110, 100]
def rowOk (s : Txt) (p : List Txt × List Txt) : Bool := match p.2 with
 | [] => p.1.isEmpty
 | x :: r => decide (r.length ≤ 11) && (x :: r).all symOk && decide (p.1 = firstsG x) && decide (rank x < rank s) && decide (endT ∉ p.1)
def tabOk (s : Txt) : Bool := match tabG s with
 | some (T, _) => T.all (rowOk s)
 | none => false
theorem tab_ok : ∀ r ∈ rulesG, (tabOk r.name && decide (rank r.name ≤ 12)) = true := by decide +kernel
theorem sym_rule {s : Txt} (h : symOk s = true) (hr : ruleF s = true) : (∃ T z, tabG s = some (T, z) ∧ ∀ p ∈ T, rowOk s p = true) ∧ rank s ≤ 12 := by
 unfold symOk at h
 rw [hr] at h
 simp only [Bool.not_true, Bool.false_or, Bool.and_eq_true, List.any_eq_true, decide_eq_true_eq] at h
 obtain ⟨_, r, hm, rfl⟩ := h
 have h1 := tab_ok r hm
 simp only [Bool.and_eq_true, decide_eq_true_eq] at h1
 refine ⟨?_, h1.2⟩
 have h2 := h1.1
 unfold tabOk at h2
 cases ht : tabG r.name with
 | none => rw [ht] at h2; cases h2
 | some p =>
  obtain ⟨T, z⟩ := p
  rw [ht] at h2
  exact ⟨T, z, rfl, List.all_eq_true.1 h2⟩
theorem sym_ne {s : Txt} (h : symOk s = true) : ¬ (s = [] ∨ 1000 < s.length) := by
 unfold symOk at h
 simp only [Bool.and_eq_true, decide_eq_true_eq] at h
 rintro (h0 | h0)
 · exact h.1.1 h0
 · have := h.1.2; omega
theorem rank_term {s : Txt} (h : ruleF s = false) : rank s = 0 := by
 unfold rank rankF
 rw [h, if_neg (by decide)]
theorem fits_kind {s : Txt} {t : TokD} (h : fitsF s t = true) : t.kind ≠ 1 ∧ (s ≠ endT → t.kind ≠ 0) := by
 unfold fitsF at h
 split at h
 · have : t.kind = 3 := by simpa using h
   omega
 split at h
 · simp only [Bool.and_eq_true] at h
   have : t.kind = 3 := by simpa using h.1
   omega
 split at h
 · simp only [Bool.and_eq_true] at h
   have : t.kind = 3 := by simpa using h.1
   omega
 split at h
 · simp only [Bool.and_eq_true] at h
   have : t.kind = 3 := by simpa using h.1
   omega
 split at h
 · simp only [Bool.or_eq_true] at h
   rcases h with h | h
   · have : t.kind = 6 := by simpa using h
     omega
   · have : t.kind = 7 := by simpa using h
     omega
 split at h
 · simp only [Bool.or_eq_true] at h
   rcases h with h | h
   · have : t.kind = 4 := by simpa using h
     omega
   · have : t.kind = 5 := by simpa using h
     omega
 split at h
 · rename_i he
   have : t.kind = 0 := by simpa using h
   exact ⟨by omega, fun h => absurd he h⟩
 cases s with
 | nil => cases h
 | cons c r =>
  simp only at h
  split at h
  · simp only [Bool.and_eq_true] at h
    have : t.kind = 3 := by simpa using h.1
    omega
  · simp only [Bool.and_eq_true] at h
    have : t.kind = 2 := by simpa using h.1
    omega
theorem fits_not_end {F : List Txt} {t : TokD} (h : fits F t = true) (hn : endT ∉ F) : t.kind ≠ 0 := by
 unfold fits at h
 obtain ⟨s, hs, hf⟩ := List.any_eq_true.1 h
 exact (fits_kind hf).2 (fun e => hn (e ▸ hs))
theorem pick_some {t : TokD} {c : List Txt} : ∀ {T : List (List Txt × List Txt)}, pick t T = some c → ∃ F, (F, c) ∈ T ∧ fits F t = true
 | [], h => by cases h
 | (F, d) :: r, h => by
  rw [pick] at h
  split at h
  · rename_i hf
    injection h with h; subst h
    exact ⟨F, List.mem_cons_self .., hf⟩
  · obtain ⟨G, hm, hG⟩ := pick_some h
    exact ⟨G, List.mem_cons_of_mem _ hm, hG⟩
theorem pick_none {t : TokD} : ∀ {T : List (List Txt × List Txt)}, pick t T = none → fits (T.flatMap (·.1)) t = false
 | [], h => rfl
 | (F, d) :: r, h => by
  rw [pick] at h
  split at h
  · cases h
  · rename_i hf
    rw [List.flatMap_cons, fits_app, pick_none h]
    simpa using hf
theorem fits_mem {t : TokD} {F G : List Txt} (h : fits F t = true) (hs : ∀ x ∈ F, x ∈ G) : fits G t = true := by
 unfold fits at h ⊢
 obtain ⟨s, hm, hf⟩ := List.any_eq_true.1 h
 exact List.any_eq_true.2 ⟨s, hs s hm, hf⟩
structure TokE (toks : List TokD) : Prop where
 ends : ∀ k t, toks[k]? = some t → ((t.kind = 0 ∨ t.kind = 1) ↔ k + 1 = toks.length)
def sure (t : TokD) (s : Txt) : Bool := fits (firstsG s) t && (t.kind != 0)
def phi (toks : List TokD) (st : List Txt) (k : Nat) : Nat := match st, toks[k]? with
 | s :: r, some t => if sure t s = true then (s :: r).length + 200 * (toks.length - k - 1) + 12 * rank s else (s :: r).length + 200 * (toks.length - k)
 | _, _ => 200 * (toks.length - k)
theorem phi_le {toks : List TokD} {st : List Txt} {k : Nat} (hok : ∀ s ∈ st, symOk s = true) (hk : k < toks.length) : phi toks st k ≤ st.length + 200 * (toks.length - k) := by
 unfold phi
 split
 · rename_i s r t ht
   split
   · have hr : rank s ≤ 12 := by
      cases hr : ruleF s with
      | true => exact (sym_rule (hok s (List.mem_cons_self ..)) hr).2
      | false => rw [rank_term hr]; omega
     omega
   · omega
 · omega
theorem run_ends (toks : List TokD) (depth : Int) (hE : TokE toks) : ∀ (f : Nat) (st : List Txt) (k : Nat) (op : Int), k < toks.length → (∀ s ∈ st, symOk s = true) → phi toks st k < f → f ≤ 900000000 → ∃ r, runF rulesG nfG bfG toks depth f st k op = some r
 | 0, st, k, op, hk, hok, hp, hf => by omega
 | f + 1, [], k, op, hk, hok, hp, hf => ⟨_, rfl⟩
 | f + 1, s :: r, k, op, hk, hok, hp, hf => by
  obtain ⟨t, ht⟩ : ∃ t, toks[k]? = some t := ⟨_, List.getElem?_eq_getElem hk⟩
  have hs := hok s (List.mem_cons_self ..)
  have hrest : ∀ x ∈ r, symOk x = true := fun x hx => hok x (List.mem_cons_of_mem _ hx)
  have hp0 : phi toks (s :: r) k = if sure t s = true then (s :: r).length + 200 * (toks.length - k - 1) + 12 * rank s else (s :: r).length + 200 * (toks.length - k) := by unfold phi; simp only [ht]
  rw [hp0] at hp
  rw [runF, ht]
  simp only
  rw [if_neg (sym_ne hs)]
  cases hr : ruleF s with
  | true =>
   rw [if_pos rfl]
   obtain ⟨⟨T, z, hT, hall⟩, hrk⟩ := sym_rule hs hr
   have hfs : firstsG s = T.flatMap (·.1) := by unfold firstsG; rw [hr, if_pos rfl, hT]
   rw [chosen_tab hT]
   cases hpk : pick t T with
   | none =>
    have hns : sure t s = false := by unfold sure; rw [hfs, pick_none hpk]; rfl
    rw [hns, if_neg (by decide)] at hp
    cases z with
    | false => exact ⟨_, rfl⟩
    | true =>
     simp only [List.nil_append, List.length_nil]
     have h1 := phi_le hrest hk
     simp only [List.length_cons] at hp
     rw [if_neg (by omega)]
     exact run_ends toks depth hE f r k op hk hrest (by omega) (by omega)
   | some c =>
    obtain ⟨F, hm, hF⟩ := pick_some hpk
    have hro := hall _ hm
    unfold rowOk at hro
    cases c with
    | nil =>
     simp only [List.isEmpty_iff] at hro
     subst hro
     cases hF
    | cons x c =>
     simp only [Bool.and_eq_true, decide_eq_true_eq, List.all_eq_true] at hro
     obtain ⟨⟨⟨⟨h1, h2⟩, h3⟩, h4⟩, h5⟩ := hro
     have hk0 := fits_not_end hF h5
     have hsu : sure t s = true := by
      unfold sure
      rw [hfs, fits_mem hF (fun y hy => List.mem_flatMap.2 ⟨_, hm, hy⟩)]
      simpa using hk0
     have hsx : sure t x = true := by
      unfold sure
      rw [← h3, hF]
      simpa using hk0
     rw [hsu, if_pos rfl] at hp
     simp only [List.length_cons] at hp
     simp only [List.length_cons]
     have hpx : phi toks (x :: c ++ r) k = (x :: c ++ r).length + 200 * (toks.length - k - 1) + 12 * rank x := by
      unfold phi; simp only [ht, List.cons_append]; rw [hsx, if_pos rfl]
     have hl : (x :: c ++ r).length = c.length + 1 + r.length := by simp; omega
     rw [if_neg (by omega)]
     refine run_ends toks depth hE f (x :: c ++ r) k op hk ?_ (by omega) (by omega)
     intro y hy
     rcases List.mem_append.1 hy with hy | hy
     · exact h2 y hy
     · exact hrest y hy
  | false =>
   rw [if_neg (by decide)]
   cases hft : fitsF s t with
   | false => exact ⟨_, rfl⟩
   | true =>
    rw [if_neg (by decide)]
    by_cases hb : bracketF s = 1 ∧ depth ≤ op
    · rw [if_pos hb]; exact ⟨_, rfl⟩
    rw [if_neg hb]
    have hfs : firstsG s = [s] := by unfold firstsG; rw [hr, if_neg (by decide)]
    have hk1 := (fits_kind hft).1
    by_cases h0 : t.kind = 0
    · have hl := (hE.ends k t ht).1 (.inl h0)
      have hns : sure t s = false := by unfold sure; rw [h0]; simp
      rw [hns, if_neg (by decide)] at hp
      simp only [List.length_cons] at hp
      rw [if_neg (by omega)]
      have h1 := phi_le hrest hk
      exact run_ends toks depth hE f r k _ hk hrest (by omega) (by omega)
    · have hl : ¬ k + 1 = toks.length := fun e => by have := (hE.ends k t ht).2 e; omega
      have hsu : sure t s = true := by
       unfold sure
       rw [hfs]
       simp only [fits, List.any_cons, List.any_nil, hft, Bool.or_false, Bool.true_and]
       simpa using h0
      rw [hsu, if_pos rfl, rank_term hr] at hp
      simp only [List.length_cons] at hp
      have hk2 : k + 1 < toks.length := by omega
      rw [if_pos hk2]
      have h1 := phi_le hrest hk2
      exact run_ends toks depth hE f r (k + 1) _ hk2 hrest (by omega) (by omega)
def Runs (toks : List TokD) (n : Nat) (st : List Txt) (k : Nat) (op : Int) : Prop := runF rulesG nfG bfG toks 200 n st k op = some (0, 0, 0)
def Alt : List (List Txt × List Txt) → Bool → TokD → (List Txt → Prop) → Prop
 | [], true, _, P => P []
 | [], false, _, _ => False
 | (F, c) :: r, z, t, P => (fits F t = true ∧ P c) ∨ (fits F t = false ∧ Alt r z t P)
theorem alt_pick {t : TokD} {P : List Txt → Prop} {z : Bool} : ∀ {T : List (List Txt × List Txt)}, (∀ c, pick t T = some c → P c) → (pick t T = none → z = true ∧ P []) → Alt T z t P
 | [], h1, h2 => by
  obtain ⟨rfl, h⟩ := h2 rfl
  exact h
 | (F, c) :: r, h1, h2 => by
  cases hf : fits F t with
  | true => exact .inl ⟨hf, h1 c (by rw [pick, if_pos hf])⟩
  | false =>
   have he : pick t ((F, c) :: r) = pick t r := by rw [pick, if_neg (by rw [hf]; decide)]
   rw [he] at h1 h2
   exact .inr ⟨hf, alt_pick h1 h2⟩
theorem Runs.rule {toks : List TokD} {n k : Nat} {s : Txt} {rest : List Txt} {op : Int} {T : List (List Txt × List Txt)} {z : Bool} (h : Runs toks n (s :: rest) k op) (hT : tabG s = some (T, z)) (hs : (decide (s ≠ []) && decide (s.length ≤ 1000) && ruleF s) = true) :
  ∃ m t, n = m + 1 ∧ toks[k]? = some t ∧ Alt T z t (fun c => Runs toks m (c ++ rest) k op) := by
 simp only [Bool.and_eq_true, decide_eq_true_eq] at hs
 unfold Runs at h
 cases n with
 | zero => cases h
 | succ m =>
  rw [runF] at h
  cases ht : toks[k]? with
  | none => rw [ht] at h; cases h
  | some t =>
   rw [ht] at h
   simp only at h
   rw [if_neg (by rintro (h0 | h0); exact hs.1.1 h0; have := hs.1.2; omega), hs.2, if_pos rfl, chosen_tab hT] at h
   refine ⟨m, t, rfl, rfl, alt_pick ?_ ?_⟩
   · intro c hc
     rw [hc] at h
     simp only at h
     split at h
     · cases h
     · exact h
   · intro hc
     rw [hc] at h
     cases z with
     | false => simp at h
     | true =>
      simp only at h
      split at h
      · cases h
      · exact ⟨rfl, h⟩
abbrev nDOC : Txt := [68, 79, 67]
abbrev nDEFS : Txt := [68, 69, 70, 83]
abbrev nDEF : Txt := [68, 69, 70]
abbrev nBODY : Txt := [66, 79, 68, 89]
abbrev nXBODY : Txt := [88, 66, 79, 68, 89]
abbrev nXSCHEMA : Txt := [88, 83, 67, 72, 69, 77, 65]
abbrev nROOTS0 : Txt := [82, 79, 79, 84, 83, 48]
abbrev nROOTS : Txt := [82, 79, 79, 84, 83]
abbrev nROOTL : Txt := [82, 79, 79, 84, 76]
abbrev nROOT : Txt := [82, 79, 79, 84]
abbrev nXOBJECT : Txt := [88, 79, 66, 74, 69, 67, 84]
abbrev nIFACES : Txt := [73, 70, 65, 67, 69, 83]
abbrev nIFACES1 : Txt := [73, 70, 65, 67, 69, 83, 49]
abbrev nAMP : Txt := [65, 77, 80]
abbrev nIFACEL : Txt := [73, 70, 65, 67, 69, 76]
abbrev nFIELDS : Txt := [70, 73, 69, 76, 68, 83]
abbrev nFIELDS1 : Txt := [70, 73, 69, 76, 68, 83, 49]
abbrev nFIELDL : Txt := [70, 73, 69, 76, 68, 76]
abbrev nFIELD : Txt := [70, 73, 69, 76, 68]
abbrev nFIELD0 : Txt := [70, 73, 69, 76, 68, 48]
abbrev nINPUTS : Txt := [73, 78, 80, 85, 84, 83]
abbrev nVALUEL : Txt := [86, 65, 76, 85, 69, 76]
abbrev nVALUE : Txt := [86, 65, 76, 85, 69]
abbrev nVALUE0 : Txt := [86, 65, 76, 85, 69, 48]
abbrev nDEFAULT : Txt := [68, 69, 70, 65, 85, 76, 84]
abbrev nMEMBERS : Txt := [77, 69, 77, 66, 69, 82, 83]
abbrev nMEMBERS1 : Txt := [77, 69, 77, 66, 69, 82, 83, 49]
abbrev nMEMBERL : Txt := [77, 69, 77, 66, 69, 82, 76]
abbrev nBAR : Txt := [66, 65, 82]
abbrev nXUNION : Txt := [88, 85, 78, 73, 79, 78]
abbrev nCASES : Txt := [67, 65, 83, 69, 83]
abbrev nCASES1 : Txt := [67, 65, 83, 69, 83, 49]
abbrev nCASEL : Txt := [67, 65, 83, 69, 76]
abbrev nCASE : Txt := [67, 65, 83, 69]
abbrev nCASE0 : Txt := [67, 65, 83, 69, 48]
abbrev nXENUM : Txt := [88, 69, 78, 85, 77]
abbrev nBLANKS : Txt := [66, 76, 65, 78, 75, 83]
abbrev nBLANKS1 : Txt := [66, 76, 65, 78, 75, 83, 49]
abbrev nXINPUT : Txt := [88, 73, 78, 80, 85, 84]
abbrev nREPEAT : Txt := [82, 69, 80, 69, 65, 84]
abbrev nPLACES : Txt := [80, 76, 65, 67, 69, 83]
abbrev nDIRS : Txt := [68, 73, 82, 83]
abbrev nDIR : Txt := [68, 73, 82]
abbrev nARGS : Txt := [65, 82, 71, 83]
abbrev nARGL : Txt := [65, 82, 71, 76]
abbrev nARG : Txt := [65, 82, 71]
abbrev nLIT : Txt := [76, 73, 84]
abbrev nLITL : Txt := [76, 73, 84, 76]
abbrev nOBJL : Txt := [79, 66, 74, 76]
abbrev nTYPE : Txt := [84, 89, 80, 69]
abbrev nTYPE0 : Txt := [84, 89, 80, 69, 48]
abbrev nBANG : Txt := [66, 65, 78, 71]
theorem tab_DOC : tabG nDOC = some ([([[46, 115, 116, 114], [39, 115, 99, 104, 101, 109, 97], [39, 115, 99, 97, 108, 97, 114], [39, 116, 121, 112, 101], [39, 105, 110, 116, 101, 114, 102, 97, 99, 101], [39, 117, 110, 105, 111, 110], [39, 101, 110, 117, 109], [39, 105, 110, 112, 117, 116], [39, 100, 105, 114, 101, 99, 116, 105, 118, 101], [39, 101, 120, 116, 101, 110, 100]], [nDEF, nDEFS, [46, 101, 110, 100]])], false) := by kernel_rfl
theorem in_DOC {toks : List TokD} {n k : Nat} {rest : List Txt} {op : Int} (h : Runs toks n (nDOC :: rest) k op) : ∃ m t, n = m + 1 ∧ toks[k]? = some t ∧ ((fits [[46, 115, 116, 114], [39, 115, 99, 104, 101, 109, 97], [39, 115, 99, 97, 108, 97, 114], [39, 116, 121, 112, 101], [39, 105, 110, 116, 101, 114, 102, 97, 99, 101], [39, 117, 110, 105, 111, 110], [39, 101, 110, 117, 109], [39, 105, 110, 112, 117, 116], [39, 100, 105, 114, 101, 99, 116, 105, 118, 101], [39, 101, 120, 116, 101, 110, 100]] t = true ∧ Runs toks m (nDEF :: nDEFS :: [46, 101, 110, 100] :: rest) k op) ∨ (fits [[46, 115, 116, 114], [39, 115, 99, 104, 101, 109, 97], [39, 115, 99, 97, 108, 97, 114], [39, 116, 121, 112, 101], [39, 105, 110, 116, 101, 114, 102, 97, 99, 101], [39, 117, 110, 105, 111, 110], [39, 101, 110, 117, 109], [39, 105, 110, 112, 117, 116], [39, 100, 105, 114, 101, 99, 116, 105, 118, 101], [39, 101, 120, 116, 101, 110, 100]] t = false ∧ (False))) := h.rule tab_DOC (by decide +kernel)
theorem tab_DEFS : tabG nDEFS = some ([([[46, 115, 116, 114], [39, 115, 99, 104, 101, 109, 97], [39, 115, 99, 97, 108, 97, 114], [39, 116, 121, 112, 101], [39, 105, 110, 116, 101, 114, 102, 97, 99, 101], [39, 117, 110, 105, 111, 110], [39, 101, 110, 117, 109], [39, 105, 110, 112, 117, 116], [39, 100, 105, 114, 101, 99, 116, 105, 118, 101], [39, 101, 120, 116, 101, 110, 100]], [nDEF, nDEFS]), ([], [])], true) := by kernel_rfl
theorem in_DEFS {toks : List TokD} {n k : Nat} {rest : List Txt} {op : Int} (h : Runs toks n (nDEFS :: rest) k op) : ∃ m t, n = m + 1 ∧ toks[k]? = some t ∧ ((fits [[46, 115, 116, 114], [39, 115, 99, 104, 101, 109, 97], [39, 115, 99, 97, 108, 97, 114], [39, 116, 121, 112, 101], [39, 105, 110, 116, 101, 114, 102, 97, 99, 101], [39, 117, 110, 105, 111, 110], [39, 101, 110, 117, 109], [39, 105, 110, 112, 117, 116], [39, 100, 105, 114, 101, 99, 116, 105, 118, 101], [39, 101, 120, 116, 101, 110, 100]] t = true ∧ Runs toks m (nDEF :: nDEFS :: rest) k op) ∨ (fits [[46, 115, 116, 114], [39, 115, 99, 104, 101, 109, 97], [39, 115, 99, 97, 108, 97, 114], [39, 116, 121, 112, 101], [39, 105, 110, 116, 101, 114, 102, 97, 99, 101], [39, 117, 110, 105, 111, 110], [39, 101, 110, 117, 109], [39, 105, 110, 112, 117, 116], [39, 100, 105, 114, 101, 99, 116, 105, 118, 101], [39, 101, 120, 116, 101, 110, 100]] t = false ∧ ((fits [] t = true ∧ Runs toks m (rest) k op) ∨ (fits [] t = false ∧ (Runs toks m rest k op))))) := h.rule tab_DEFS (by decide +kernel)
theorem tab_DEF : tabG nDEF = some ([([[46, 115, 116, 114]], [[46, 115, 116, 114], nBODY]), ([[39, 115, 99, 104, 101, 109, 97], [39, 115, 99, 97, 108, 97, 114], [39, 116, 121, 112, 101], [39, 105, 110, 116, 101, 114, 102, 97, 99, 101], [39, 117, 110, 105, 111, 110], [39, 101, 110, 117, 109], [39, 105, 110, 112, 117, 116], [39, 100, 105, 114, 101, 99, 116, 105, 118, 101]], [nBODY]), ([[39, 101, 120, 116, 101, 110, 100]], [[39, 101, 120, 116, 101, 110, 100], nXBODY])], false) := by kernel_rfl
theorem in_DEF {toks : List TokD} {n k : Nat} {rest : List Txt} {op : Int} (h : Runs toks n (nDEF :: rest) k op) : ∃ m t, n = m + 1 ∧ toks[k]? = some t ∧ ((fits [[46, 115, 116, 114]] t = true ∧ Runs toks m ([46, 115, 116, 114] :: nBODY :: rest) k op) ∨ (fits [[46, 115, 116, 114]] t = false ∧ ((fits [[39, 115, 99, 104, 101, 109, 97], [39, 115, 99, 97, 108, 97, 114], [39, 116, 121, 112, 101], [39, 105, 110, 116, 101, 114, 102, 97, 99, 101], [39, 117, 110, 105, 111, 110], [39, 101, 110, 117, 109], [39, 105, 110, 112, 117, 116], [39, 100, 105, 114, 101, 99, 116, 105, 118, 101]] t = true ∧ Runs toks m (nBODY :: rest) k op) ∨ (fits [[39, 115, 99, 104, 101, 109, 97], [39, 115, 99, 97, 108, 97, 114], [39, 116, 121, 112, 101], [39, 105, 110, 116, 101, 114, 102, 97, 99, 101], [39, 117, 110, 105, 111, 110], [39, 101, 110, 117, 109], [39, 105, 110, 112, 117, 116], [39, 100, 105, 114, 101, 99, 116, 105, 118, 101]] t = false ∧ ((fits [[39, 101, 120, 116, 101, 110, 100]] t = true ∧ Runs toks m ([39, 101, 120, 116, 101, 110, 100] :: nXBODY :: rest) k op) ∨ (fits [[39, 101, 120, 116, 101, 110, 100]] t = false ∧ (False))))))) := h.rule tab_DEF (by decide +kernel)
theorem tab_BODY : tabG nBODY = some ([([[39, 115, 99, 104, 101, 109, 97]], [[39, 115, 99, 104, 101, 109, 97], nDIRS, nROOTS]), ([[39, 115, 99, 97, 108, 97, 114]], [[39, 115, 99, 97, 108, 97, 114], [46, 110, 97, 109, 101], nDIRS]), ([[39, 116, 121, 112, 101]], [[39, 116, 121, 112, 101], [46, 110, 97, 109, 101], nIFACES, nDIRS, nFIELDS]), ([[39, 105, 110, 116, 101, 114, 102, 97, 99, 101]], [[39, 105, 110, 116, 101, 114, 102, 97, 99, 101], [46, 110, 97, 109, 101], nIFACES, nDIRS, nFIELDS]), ([[39, 117, 110, 105, 111, 110]], [[39, 117, 110, 105, 111, 110], [46, 110, 97, 109, 101], nDIRS, nMEMBERS]), ([[39, 101, 110, 117, 109]], [[39, 101, 110, 117, 109], [46, 110, 97, 109, 101], nDIRS, nCASES]), ([[39, 105, 110, 112, 117, 116]], [[39, 105, 110, 112, 117, 116], [46, 110, 97, 109, 101], nDIRS, nBLANKS]), ([[39, 100, 105, 114, 101, 99, 116, 105, 118, 101]], [[39, 100, 105, 114, 101, 99, 116, 105, 118, 101], [64], [46, 110, 97, 109, 101], nINPUTS, nREPEAT, [39, 111, 110], nBAR, [46, 112, 108, 97, 99, 101], nPLACES])], false) := by kernel_rfl
theorem in_BODY {toks : List TokD} {n k : Nat} {rest : List Txt} {op : Int} (h : Runs toks n (nBODY :: rest) k op) : ∃ m t, n = m + 1 ∧ toks[k]? = some t ∧ ((fits [[39, 115, 99, 104, 101, 109, 97]] t = true ∧ Runs toks m ([39, 115, 99, 104, 101, 109, 97] :: nDIRS :: nROOTS :: rest) k op) ∨ (fits [[39, 115, 99, 104, 101, 109, 97]] t = false ∧ ((fits [[39, 115, 99, 97, 108, 97, 114]] t = true ∧ Runs toks m ([39, 115, 99, 97, 108, 97, 114] :: [46, 110, 97, 109, 101] :: nDIRS :: rest) k op) ∨ (fits [[39, 115, 99, 97, 108, 97, 114]] t = false ∧ ((fits [[39, 116, 121, 112, 101]] t = true ∧ Runs toks m ([39, 116, 121, 112, 101] :: [46, 110, 97, 109, 101] :: nIFACES :: nDIRS :: nFIELDS :: rest) k op) ∨ (fits [[39, 116, 121, 112, 101]] t = false ∧ ((fits [[39, 105, 110, 116, 101, 114, 102, 97, 99, 101]] t = true ∧ Runs toks m ([39, 105, 110, 116, 101, 114, 102, 97, 99, 101] :: [46, 110, 97, 109, 101] :: nIFACES :: nDIRS :: nFIELDS :: rest) k op) ∨ (fits [[39, 105, 110, 116, 101, 114, 102, 97, 99, 101]] t = false ∧ ((fits [[39, 117, 110, 105, 111, 110]] t = true ∧ Runs toks m ([39, 117, 110, 105, 111, 110] :: [46, 110, 97, 109, 101] :: nDIRS :: nMEMBERS :: rest) k op) ∨ (fits [[39, 117, 110, 105, 111, 110]] t = false ∧ ((fits [[39, 101, 110, 117, 109]] t = true ∧ Runs toks m ([39, 101, 110, 117, 109] :: [46, 110, 97, 109, 101] :: nDIRS :: nCASES :: rest) k op) ∨ (fits [[39, 101, 110, 117, 109]] t = false ∧ ((fits [[39, 105, 110, 112, 117, 116]] t = true ∧ Runs toks m ([39, 105, 110, 112, 117, 116] :: [46, 110, 97, 109, 101] :: nDIRS :: nBLANKS :: rest) k op) ∨ (fits [[39, 105, 110, 112, 117, 116]] t = false ∧ ((fits [[39, 100, 105, 114, 101, 99, 116, 105, 118, 101]] t = true ∧ Runs toks m ([39, 100, 105, 114, 101, 99, 116, 105, 118, 101] :: [64] :: [46, 110, 97, 109, 101] :: nINPUTS :: nREPEAT :: [39, 111, 110] :: nBAR :: [46, 112, 108, 97, 99, 101] :: nPLACES :: rest) k op) ∨ (fits [[39, 100, 105, 114, 101, 99, 116, 105, 118, 101]] t = false ∧ (False))))))))))))))))) := h.rule tab_BODY (by decide +kernel)
theorem tab_XBODY : tabG nXBODY = some ([([[39, 115, 99, 104, 101, 109, 97]], [[39, 115, 99, 104, 101, 109, 97], nXSCHEMA]), ([[39, 115, 99, 97, 108, 97, 114]], [[39, 115, 99, 97, 108, 97, 114], [46, 110, 97, 109, 101], nDIR, nDIRS]), ([[39, 116, 121, 112, 101]], [[39, 116, 121, 112, 101], [46, 110, 97, 109, 101], nXOBJECT]), ([[39, 105, 110, 116, 101, 114, 102, 97, 99, 101]], [[39, 105, 110, 116, 101, 114, 102, 97, 99, 101], [46, 110, 97, 109, 101], nXOBJECT]), ([[39, 117, 110, 105, 111, 110]], [[39, 117, 110, 105, 111, 110], [46, 110, 97, 109, 101], nXUNION]), ([[39, 101, 110, 117, 109]], [[39, 101, 110, 117, 109], [46, 110, 97, 109, 101], nXENUM]), ([[39, 105, 110, 112, 117, 116]], [[39, 105, 110, 112, 117, 116], [46, 110, 97, 109, 101], nXINPUT])], false) := by kernel_rfl
theorem in_XBODY {toks : List TokD} {n k : Nat} {rest : List Txt} {op : Int} (h : Runs toks n (nXBODY :: rest) k op) : ∃ m t, n = m + 1 ∧ toks[k]? = some t ∧ ((fits [[39, 115, 99, 104, 101, 109, 97]] t = true ∧ Runs toks m ([39, 115, 99, 104, 101, 109, 97] :: nXSCHEMA :: rest) k op) ∨ (fits [[39, 115, 99, 104, 101, 109, 97]] t = false ∧ ((fits [[39, 115, 99, 97, 108, 97, 114]] t = true ∧ Runs toks m ([39, 115, 99, 97, 108, 97, 114] :: [46, 110, 97, 109, 101] :: nDIR :: nDIRS :: rest) k op) ∨ (fits [[39, 115, 99, 97, 108, 97, 114]] t = false ∧ ((fits [[39, 116, 121, 112, 101]] t = true ∧ Runs toks m ([39, 116, 121, 112, 101] :: [46, 110, 97, 109, 101] :: nXOBJECT :: rest) k op) ∨ (fits [[39, 116, 121, 112, 101]] t = false ∧ ((fits [[39, 105, 110, 116, 101, 114, 102, 97, 99, 101]] t = true ∧ Runs toks m ([39, 105, 110, 116, 101, 114, 102, 97, 99, 101] :: [46, 110, 97, 109, 101] :: nXOBJECT :: rest) k op) ∨ (fits [[39, 105, 110, 116, 101, 114, 102, 97, 99, 101]] t = false ∧ ((fits [[39, 117, 110, 105, 111, 110]] t = true ∧ Runs toks m ([39, 117, 110, 105, 111, 110] :: [46, 110, 97, 109, 101] :: nXUNION :: rest) k op) ∨ (fits [[39, 117, 110, 105, 111, 110]] t = false ∧ ((fits [[39, 101, 110, 117, 109]] t = true ∧ Runs toks m ([39, 101, 110, 117, 109] :: [46, 110, 97, 109, 101] :: nXENUM :: rest) k op) ∨ (fits [[39, 101, 110, 117, 109]] t = false ∧ ((fits [[39, 105, 110, 112, 117, 116]] t = true ∧ Runs toks m ([39, 105, 110, 112, 117, 116] :: [46, 110, 97, 109, 101] :: nXINPUT :: rest) k op) ∨ (fits [[39, 105, 110, 112, 117, 116]] t = false ∧ (False))))))))))))))) := h.rule tab_XBODY (by decide +kernel)
theorem tab_XSCHEMA : tabG nXSCHEMA = some ([([[64]], [nDIR, nDIRS, nROOTS0]), ([[123]], [nROOTS])], false) := by kernel_rfl
theorem in_XSCHEMA {toks : List TokD} {n k : Nat} {rest : List Txt} {op : Int} (h : Runs toks n (nXSCHEMA :: rest) k op) : ∃ m t, n = m + 1 ∧ toks[k]? = some t ∧ ((fits [[64]] t = true ∧ Runs toks m (nDIR :: nDIRS :: nROOTS0 :: rest) k op) ∨ (fits [[64]] t = false ∧ ((fits [[123]] t = true ∧ Runs toks m (nROOTS :: rest) k op) ∨ (fits [[123]] t = false ∧ (False))))) := h.rule tab_XSCHEMA (by decide +kernel)
theorem tab_ROOTS0 : tabG nROOTS0 = some ([([[123]], [nROOTS]), ([], [])], true) := by kernel_rfl
theorem in_ROOTS0 {toks : List TokD} {n k : Nat} {rest : List Txt} {op : Int} (h : Runs toks n (nROOTS0 :: rest) k op) : ∃ m t, n = m + 1 ∧ toks[k]? = some t ∧ ((fits [[123]] t = true ∧ Runs toks m (nROOTS :: rest) k op) ∨ (fits [[123]] t = false ∧ ((fits [] t = true ∧ Runs toks m (rest) k op) ∨ (fits [] t = false ∧ (Runs toks m rest k op))))) := h.rule tab_ROOTS0 (by decide +kernel)
theorem tab_ROOTS : tabG nROOTS = some ([([[123]], [[123], nROOT, nROOTL, [125]])], false) := by kernel_rfl
theorem in_ROOTS {toks : List TokD} {n k : Nat} {rest : List Txt} {op : Int} (h : Runs toks n (nROOTS :: rest) k op) : ∃ m t, n = m + 1 ∧ toks[k]? = some t ∧ ((fits [[123]] t = true ∧ Runs toks m ([123] :: nROOT :: nROOTL :: [125] :: rest) k op) ∨ (fits [[123]] t = false ∧ (False))) := h.rule tab_ROOTS (by decide +kernel)
theorem tab_ROOTL : tabG nROOTL = some ([([[46, 114, 111, 111, 116]], [nROOT, nROOTL]), ([], [])], true) := by kernel_rfl
theorem in_ROOTL {toks : List TokD} {n k : Nat} {rest : List Txt} {op : Int} (h : Runs toks n (nROOTL :: rest) k op) : ∃ m t, n = m + 1 ∧ toks[k]? = some t ∧ ((fits [[46, 114, 111, 111, 116]] t = true ∧ Runs toks m (nROOT :: nROOTL :: rest) k op) ∨ (fits [[46, 114, 111, 111, 116]] t = false ∧ ((fits [] t = true ∧ Runs toks m (rest) k op) ∨ (fits [] t = false ∧ (Runs toks m rest k op))))) := h.rule tab_ROOTL (by decide +kernel)
theorem tab_ROOT : tabG nROOT = some ([([[46, 114, 111, 111, 116]], [[46, 114, 111, 111, 116], [58], [46, 110, 97, 109, 101]])], false) := by kernel_rfl
theorem in_ROOT {toks : List TokD} {n k : Nat} {rest : List Txt} {op : Int} (h : Runs toks n (nROOT :: rest) k op) : ∃ m t, n = m + 1 ∧ toks[k]? = some t ∧ ((fits [[46, 114, 111, 111, 116]] t = true ∧ Runs toks m ([46, 114, 111, 111, 116] :: [58] :: [46, 110, 97, 109, 101] :: rest) k op) ∨ (fits [[46, 114, 111, 111, 116]] t = false ∧ (False))) := h.rule tab_ROOT (by decide +kernel)
theorem tab_XOBJECT : tabG nXOBJECT = some ([([[39, 105, 109, 112, 108, 101, 109, 101, 110, 116, 115]], [nIFACES1, nDIRS, nFIELDS]), ([[64]], [nDIR, nDIRS, nFIELDS]), ([[123]], [nFIELDS1])], false) := by kernel_rfl
theorem in_XOBJECT {toks : List TokD} {n k : Nat} {rest : List Txt} {op : Int} (h : Runs toks n (nXOBJECT :: rest) k op) : ∃ m t, n = m + 1 ∧ toks[k]? = some t ∧ ((fits [[39, 105, 109, 112, 108, 101, 109, 101, 110, 116, 115]] t = true ∧ Runs toks m (nIFACES1 :: nDIRS :: nFIELDS :: rest) k op) ∨ (fits [[39, 105, 109, 112, 108, 101, 109, 101, 110, 116, 115]] t = false ∧ ((fits [[64]] t = true ∧ Runs toks m (nDIR :: nDIRS :: nFIELDS :: rest) k op) ∨ (fits [[64]] t = false ∧ ((fits [[123]] t = true ∧ Runs toks m (nFIELDS1 :: rest) k op) ∨ (fits [[123]] t = false ∧ (False))))))) := h.rule tab_XOBJECT (by decide +kernel)
theorem tab_IFACES : tabG nIFACES = some ([([[39, 105, 109, 112, 108, 101, 109, 101, 110, 116, 115]], [nIFACES1]), ([], [])], true) := by kernel_rfl
theorem in_IFACES {toks : List TokD} {n k : Nat} {rest : List Txt} {op : Int} (h : Runs toks n (nIFACES :: rest) k op) : ∃ m t, n = m + 1 ∧ toks[k]? = some t ∧ ((fits [[39, 105, 109, 112, 108, 101, 109, 101, 110, 116, 115]] t = true ∧ Runs toks m (nIFACES1 :: rest) k op) ∨ (fits [[39, 105, 109, 112, 108, 101, 109, 101, 110, 116, 115]] t = false ∧ ((fits [] t = true ∧ Runs toks m (rest) k op) ∨ (fits [] t = false ∧ (Runs toks m rest k op))))) := h.rule tab_IFACES (by decide +kernel)
theorem tab_IFACES1 : tabG nIFACES1 = some ([([[39, 105, 109, 112, 108, 101, 109, 101, 110, 116, 115]], [[39, 105, 109, 112, 108, 101, 109, 101, 110, 116, 115], nAMP, [46, 110, 97, 109, 101], nIFACEL])], false) := by kernel_rfl
theorem in_IFACES1 {toks : List TokD} {n k : Nat} {rest : List Txt} {op : Int} (h : Runs toks n (nIFACES1 :: rest) k op) : ∃ m t, n = m + 1 ∧ toks[k]? = some t ∧ ((fits [[39, 105, 109, 112, 108, 101, 109, 101, 110, 116, 115]] t = true ∧ Runs toks m ([39, 105, 109, 112, 108, 101, 109, 101, 110, 116, 115] :: nAMP :: [46, 110, 97, 109, 101] :: nIFACEL :: rest) k op) ∨ (fits [[39, 105, 109, 112, 108, 101, 109, 101, 110, 116, 115]] t = false ∧ (False))) := h.rule tab_IFACES1 (by decide +kernel)
theorem tab_AMP : tabG nAMP = some ([([[38]], [[38]]), ([], [])], true) := by kernel_rfl
theorem in_AMP {toks : List TokD} {n k : Nat} {rest : List Txt} {op : Int} (h : Runs toks n (nAMP :: rest) k op) : ∃ m t, n = m + 1 ∧ toks[k]? = some t ∧ ((fits [[38]] t = true ∧ Runs toks m ([38] :: rest) k op) ∨ (fits [[38]] t = false ∧ ((fits [] t = true ∧ Runs toks m (rest) k op) ∨ (fits [] t = false ∧ (Runs toks m rest k op))))) := h.rule tab_AMP (by decide +kernel)
theorem tab_IFACEL : tabG nIFACEL = some ([([[38]], [[38], [46, 110, 97, 109, 101], nIFACEL]), ([], [])], true) := by kernel_rfl
theorem in_IFACEL {toks : List TokD} {n k : Nat} {rest : List Txt} {op : Int} (h : Runs toks n (nIFACEL :: rest) k op) : ∃ m t, n = m + 1 ∧ toks[k]? = some t ∧ ((fits [[38]] t = true ∧ Runs toks m ([38] :: [46, 110, 97, 109, 101] :: nIFACEL :: rest) k op) ∨ (fits [[38]] t = false ∧ ((fits [] t = true ∧ Runs toks m (rest) k op) ∨ (fits [] t = false ∧ (Runs toks m rest k op))))) := h.rule tab_IFACEL (by decide +kernel)
theorem tab_FIELDS : tabG nFIELDS = some ([([[123]], [nFIELDS1]), ([], [])], true) := by kernel_rfl
theorem in_FIELDS {toks : List TokD} {n k : Nat} {rest : List Txt} {op : Int} (h : Runs toks n (nFIELDS :: rest) k op) : ∃ m t, n = m + 1 ∧ toks[k]? = some t ∧ ((fits [[123]] t = true ∧ Runs toks m (nFIELDS1 :: rest) k op) ∨ (fits [[123]] t = false ∧ ((fits [] t = true ∧ Runs toks m (rest) k op) ∨ (fits [] t = false ∧ (Runs toks m rest k op))))) := h.rule tab_FIELDS (by decide +kernel)
theorem tab_FIELDS1 : tabG nFIELDS1 = some ([([[123]], [[123], nFIELD, nFIELDL, [125]])], false) := by kernel_rfl
theorem in_FIELDS1 {toks : List TokD} {n k : Nat} {rest : List Txt} {op : Int} (h : Runs toks n (nFIELDS1 :: rest) k op) : ∃ m t, n = m + 1 ∧ toks[k]? = some t ∧ ((fits [[123]] t = true ∧ Runs toks m ([123] :: nFIELD :: nFIELDL :: [125] :: rest) k op) ∨ (fits [[123]] t = false ∧ (False))) := h.rule tab_FIELDS1 (by decide +kernel)
theorem tab_FIELDL : tabG nFIELDL = some ([([[46, 115, 116, 114], [46, 110, 97, 109, 101]], [nFIELD, nFIELDL]), ([], [])], true) := by kernel_rfl
theorem in_FIELDL {toks : List TokD} {n k : Nat} {rest : List Txt} {op : Int} (h : Runs toks n (nFIELDL :: rest) k op) : ∃ m t, n = m + 1 ∧ toks[k]? = some t ∧ ((fits [[46, 115, 116, 114], [46, 110, 97, 109, 101]] t = true ∧ Runs toks m (nFIELD :: nFIELDL :: rest) k op) ∨ (fits [[46, 115, 116, 114], [46, 110, 97, 109, 101]] t = false ∧ ((fits [] t = true ∧ Runs toks m (rest) k op) ∨ (fits [] t = false ∧ (Runs toks m rest k op))))) := h.rule tab_FIELDL (by decide +kernel)
theorem tab_FIELD : tabG nFIELD = some ([([[46, 115, 116, 114]], [[46, 115, 116, 114], nFIELD0]), ([[46, 110, 97, 109, 101]], [nFIELD0])], false) := by kernel_rfl
theorem in_FIELD {toks : List TokD} {n k : Nat} {rest : List Txt} {op : Int} (h : Runs toks n (nFIELD :: rest) k op) : ∃ m t, n = m + 1 ∧ toks[k]? = some t ∧ ((fits [[46, 115, 116, 114]] t = true ∧ Runs toks m ([46, 115, 116, 114] :: nFIELD0 :: rest) k op) ∨ (fits [[46, 115, 116, 114]] t = false ∧ ((fits [[46, 110, 97, 109, 101]] t = true ∧ Runs toks m (nFIELD0 :: rest) k op) ∨ (fits [[46, 110, 97, 109, 101]] t = false ∧ (False))))) := h.rule tab_FIELD (by decide +kernel)
theorem tab_FIELD0 : tabG nFIELD0 = some ([([[46, 110, 97, 109, 101]], [[46, 110, 97, 109, 101], nINPUTS, [58], nTYPE, nDIRS])], false) := by kernel_rfl
theorem in_FIELD0 {toks : List TokD} {n k : Nat} {rest : List Txt} {op : Int} (h : Runs toks n (nFIELD0 :: rest) k op) : ∃ m t, n = m + 1 ∧ toks[k]? = some t ∧ ((fits [[46, 110, 97, 109, 101]] t = true ∧ Runs toks m ([46, 110, 97, 109, 101] :: nINPUTS :: [58] :: nTYPE :: nDIRS :: rest) k op) ∨ (fits [[46, 110, 97, 109, 101]] t = false ∧ (False))) := h.rule tab_FIELD0 (by decide +kernel)
theorem tab_INPUTS : tabG nINPUTS = some ([([[40]], [[40], nVALUE, nVALUEL, [41]]), ([], [])], true) := by kernel_rfl
theorem in_INPUTS {toks : List TokD} {n k : Nat} {rest : List Txt} {op : Int} (h : Runs toks n (nINPUTS :: rest) k op) : ∃ m t, n = m + 1 ∧ toks[k]? = some t ∧ ((fits [[40]] t = true ∧ Runs toks m ([40] :: nVALUE :: nVALUEL :: [41] :: rest) k op) ∨ (fits [[40]] t = false ∧ ((fits [] t = true ∧ Runs toks m (rest) k op) ∨ (fits [] t = false ∧ (Runs toks m rest k op))))) := h.rule tab_INPUTS (by decide +kernel)
theorem tab_VALUEL : tabG nVALUEL = some ([([[46, 115, 116, 114], [46, 110, 97, 109, 101]], [nVALUE, nVALUEL]), ([], [])], true) := by kernel_rfl
theorem in_VALUEL {toks : List TokD} {n k : Nat} {rest : List Txt} {op : Int} (h : Runs toks n (nVALUEL :: rest) k op) : ∃ m t, n = m + 1 ∧ toks[k]? = some t ∧ ((fits [[46, 115, 116, 114], [46, 110, 97, 109, 101]] t = true ∧ Runs toks m (nVALUE :: nVALUEL :: rest) k op) ∨ (fits [[46, 115, 116, 114], [46, 110, 97, 109, 101]] t = false ∧ ((fits [] t = true ∧ Runs toks m (rest) k op) ∨ (fits [] t = false ∧ (Runs toks m rest k op))))) := h.rule tab_VALUEL (by decide +kernel)
theorem tab_VALUE : tabG nVALUE = some ([([[46, 115, 116, 114]], [[46, 115, 116, 114], nVALUE0]), ([[46, 110, 97, 109, 101]], [nVALUE0])], false) := by kernel_rfl
theorem in_VALUE {toks : List TokD} {n k : Nat} {rest : List Txt} {op : Int} (h : Runs toks n (nVALUE :: rest) k op) : ∃ m t, n = m + 1 ∧ toks[k]? = some t ∧ ((fits [[46, 115, 116, 114]] t = true ∧ Runs toks m ([46, 115, 116, 114] :: nVALUE0 :: rest) k op) ∨ (fits [[46, 115, 116, 114]] t = false ∧ ((fits [[46, 110, 97, 109, 101]] t = true ∧ Runs toks m (nVALUE0 :: rest) k op) ∨ (fits [[46, 110, 97, 109, 101]] t = false ∧ (False))))) := h.rule tab_VALUE (by decide +kernel)
theorem tab_VALUE0 : tabG nVALUE0 = some ([([[46, 110, 97, 109, 101]], [[46, 110, 97, 109, 101], [58], nTYPE, nDEFAULT, nDIRS])], false) := by kernel_rfl
theorem in_VALUE0 {toks : List TokD} {n k : Nat} {rest : List Txt} {op : Int} (h : Runs toks n (nVALUE0 :: rest) k op) : ∃ m t, n = m + 1 ∧ toks[k]? = some t ∧ ((fits [[46, 110, 97, 109, 101]] t = true ∧ Runs toks m ([46, 110, 97, 109, 101] :: [58] :: nTYPE :: nDEFAULT :: nDIRS :: rest) k op) ∨ (fits [[46, 110, 97, 109, 101]] t = false ∧ (False))) := h.rule tab_VALUE0 (by decide +kernel)
theorem tab_DEFAULT : tabG nDEFAULT = some ([([[61]], [[61], nLIT]), ([], [])], true) := by kernel_rfl
theorem in_DEFAULT {toks : List TokD} {n k : Nat} {rest : List Txt} {op : Int} (h : Runs toks n (nDEFAULT :: rest) k op) : ∃ m t, n = m + 1 ∧ toks[k]? = some t ∧ ((fits [[61]] t = true ∧ Runs toks m ([61] :: nLIT :: rest) k op) ∨ (fits [[61]] t = false ∧ ((fits [] t = true ∧ Runs toks m (rest) k op) ∨ (fits [] t = false ∧ (Runs toks m rest k op))))) := h.rule tab_DEFAULT (by decide +kernel)
theorem tab_MEMBERS : tabG nMEMBERS = some ([([[61]], [nMEMBERS1]), ([], [])], true) := by kernel_rfl
theorem in_MEMBERS {toks : List TokD} {n k : Nat} {rest : List Txt} {op : Int} (h : Runs toks n (nMEMBERS :: rest) k op) : ∃ m t, n = m + 1 ∧ toks[k]? = some t ∧ ((fits [[61]] t = true ∧ Runs toks m (nMEMBERS1 :: rest) k op) ∨ (fits [[61]] t = false ∧ ((fits [] t = true ∧ Runs toks m (rest) k op) ∨ (fits [] t = false ∧ (Runs toks m rest k op))))) := h.rule tab_MEMBERS (by decide +kernel)
theorem tab_MEMBERS1 : tabG nMEMBERS1 = some ([([[61]], [[61], nBAR, [46, 110, 97, 109, 101], nMEMBERL])], false) := by kernel_rfl
theorem in_MEMBERS1 {toks : List TokD} {n k : Nat} {rest : List Txt} {op : Int} (h : Runs toks n (nMEMBERS1 :: rest) k op) : ∃ m t, n = m + 1 ∧ toks[k]? = some t ∧ ((fits [[61]] t = true ∧ Runs toks m ([61] :: nBAR :: [46, 110, 97, 109, 101] :: nMEMBERL :: rest) k op) ∨ (fits [[61]] t = false ∧ (False))) := h.rule tab_MEMBERS1 (by decide +kernel)
theorem tab_MEMBERL : tabG nMEMBERL = some ([([[124]], [[124], [46, 110, 97, 109, 101], nMEMBERL]), ([], [])], true) := by kernel_rfl
theorem in_MEMBERL {toks : List TokD} {n k : Nat} {rest : List Txt} {op : Int} (h : Runs toks n (nMEMBERL :: rest) k op) : ∃ m t, n = m + 1 ∧ toks[k]? = some t ∧ ((fits [[124]] t = true ∧ Runs toks m ([124] :: [46, 110, 97, 109, 101] :: nMEMBERL :: rest) k op) ∨ (fits [[124]] t = false ∧ ((fits [] t = true ∧ Runs toks m (rest) k op) ∨ (fits [] t = false ∧ (Runs toks m rest k op))))) := h.rule tab_MEMBERL (by decide +kernel)
theorem tab_BAR : tabG nBAR = some ([([[124]], [[124]]), ([], [])], true) := by kernel_rfl
theorem in_BAR {toks : List TokD} {n k : Nat} {rest : List Txt} {op : Int} (h : Runs toks n (nBAR :: rest) k op) : ∃ m t, n = m + 1 ∧ toks[k]? = some t ∧ ((fits [[124]] t = true ∧ Runs toks m ([124] :: rest) k op) ∨ (fits [[124]] t = false ∧ ((fits [] t = true ∧ Runs toks m (rest) k op) ∨ (fits [] t = false ∧ (Runs toks m rest k op))))) := h.rule tab_BAR (by decide +kernel)
theorem tab_XUNION : tabG nXUNION = some ([([[64]], [nDIR, nDIRS, nMEMBERS]), ([[61]], [nMEMBERS1])], false) := by kernel_rfl
theorem in_XUNION {toks : List TokD} {n k : Nat} {rest : List Txt} {op : Int} (h : Runs toks n (nXUNION :: rest) k op) : ∃ m t, n = m + 1 ∧ toks[k]? = some t ∧ ((fits [[64]] t = true ∧ Runs toks m (nDIR :: nDIRS :: nMEMBERS :: rest) k op) ∨ (fits [[64]] t = false ∧ ((fits [[61]] t = true ∧ Runs toks m (nMEMBERS1 :: rest) k op) ∨ (fits [[61]] t = false ∧ (False))))) := h.rule tab_XUNION (by decide +kernel)
theorem tab_CASES : tabG nCASES = some ([([[123]], [nCASES1]), ([], [])], true) := by kernel_rfl
theorem in_CASES {toks : List TokD} {n k : Nat} {rest : List Txt} {op : Int} (h : Runs toks n (nCASES :: rest) k op) : ∃ m t, n = m + 1 ∧ toks[k]? = some t ∧ ((fits [[123]] t = true ∧ Runs toks m (nCASES1 :: rest) k op) ∨ (fits [[123]] t = false ∧ ((fits [] t = true ∧ Runs toks m (rest) k op) ∨ (fits [] t = false ∧ (Runs toks m rest k op))))) := h.rule tab_CASES (by decide +kernel)
theorem tab_CASES1 : tabG nCASES1 = some ([([[123]], [[123], nCASE, nCASEL, [125]])], false) := by kernel_rfl
theorem in_CASES1 {toks : List TokD} {n k : Nat} {rest : List Txt} {op : Int} (h : Runs toks n (nCASES1 :: rest) k op) : ∃ m t, n = m + 1 ∧ toks[k]? = some t ∧ ((fits [[123]] t = true ∧ Runs toks m ([123] :: nCASE :: nCASEL :: [125] :: rest) k op) ∨ (fits [[123]] t = false ∧ (False))) := h.rule tab_CASES1 (by decide +kernel)
theorem tab_CASEL : tabG nCASEL = some ([([[46, 115, 116, 114], [46, 99, 97, 115, 101]], [nCASE, nCASEL]), ([], [])], true) := by kernel_rfl
theorem in_CASEL {toks : List TokD} {n k : Nat} {rest : List Txt} {op : Int} (h : Runs toks n (nCASEL :: rest) k op) : ∃ m t, n = m + 1 ∧ toks[k]? = some t ∧ ((fits [[46, 115, 116, 114], [46, 99, 97, 115, 101]] t = true ∧ Runs toks m (nCASE :: nCASEL :: rest) k op) ∨ (fits [[46, 115, 116, 114], [46, 99, 97, 115, 101]] t = false ∧ ((fits [] t = true ∧ Runs toks m (rest) k op) ∨ (fits [] t = false ∧ (Runs toks m rest k op))))) := h.rule tab_CASEL (by decide +kernel)
theorem tab_CASE : tabG nCASE = some ([([[46, 115, 116, 114]], [[46, 115, 116, 114], nCASE0]), ([[46, 99, 97, 115, 101]], [nCASE0])], false) := by kernel_rfl
theorem in_CASE {toks : List TokD} {n k : Nat} {rest : List Txt} {op : Int} (h : Runs toks n (nCASE :: rest) k op) : ∃ m t, n = m + 1 ∧ toks[k]? = some t ∧ ((fits [[46, 115, 116, 114]] t = true ∧ Runs toks m ([46, 115, 116, 114] :: nCASE0 :: rest) k op) ∨ (fits [[46, 115, 116, 114]] t = false ∧ ((fits [[46, 99, 97, 115, 101]] t = true ∧ Runs toks m (nCASE0 :: rest) k op) ∨ (fits [[46, 99, 97, 115, 101]] t = false ∧ (False))))) := h.rule tab_CASE (by decide +kernel)
theorem tab_CASE0 : tabG nCASE0 = some ([([[46, 99, 97, 115, 101]], [[46, 99, 97, 115, 101], nDIRS])], false) := by kernel_rfl
theorem in_CASE0 {toks : List TokD} {n k : Nat} {rest : List Txt} {op : Int} (h : Runs toks n (nCASE0 :: rest) k op) : ∃ m t, n = m + 1 ∧ toks[k]? = some t ∧ ((fits [[46, 99, 97, 115, 101]] t = true ∧ Runs toks m ([46, 99, 97, 115, 101] :: nDIRS :: rest) k op) ∨ (fits [[46, 99, 97, 115, 101]] t = false ∧ (False))) := h.rule tab_CASE0 (by decide +kernel)
theorem tab_XENUM : tabG nXENUM = some ([([[64]], [nDIR, nDIRS, nCASES]), ([[123]], [nCASES1])], false) := by kernel_rfl
theorem in_XENUM {toks : List TokD} {n k : Nat} {rest : List Txt} {op : Int} (h : Runs toks n (nXENUM :: rest) k op) : ∃ m t, n = m + 1 ∧ toks[k]? = some t ∧ ((fits [[64]] t = true ∧ Runs toks m (nDIR :: nDIRS :: nCASES :: rest) k op) ∨ (fits [[64]] t = false ∧ ((fits [[123]] t = true ∧ Runs toks m (nCASES1 :: rest) k op) ∨ (fits [[123]] t = false ∧ (False))))) := h.rule tab_XENUM (by decide +kernel)
theorem tab_BLANKS : tabG nBLANKS = some ([([[123]], [nBLANKS1]), ([], [])], true) := by kernel_rfl
theorem in_BLANKS {toks : List TokD} {n k : Nat} {rest : List Txt} {op : Int} (h : Runs toks n (nBLANKS :: rest) k op) : ∃ m t, n = m + 1 ∧ toks[k]? = some t ∧ ((fits [[123]] t = true ∧ Runs toks m (nBLANKS1 :: rest) k op) ∨ (fits [[123]] t = false ∧ ((fits [] t = true ∧ Runs toks m (rest) k op) ∨ (fits [] t = false ∧ (Runs toks m rest k op))))) := h.rule tab_BLANKS (by decide +kernel)
theorem tab_BLANKS1 : tabG nBLANKS1 = some ([([[123]], [[123], nVALUE, nVALUEL, [125]])], false) := by kernel_rfl
theorem in_BLANKS1 {toks : List TokD} {n k : Nat} {rest : List Txt} {op : Int} (h : Runs toks n (nBLANKS1 :: rest) k op) : ∃ m t, n = m + 1 ∧ toks[k]? = some t ∧ ((fits [[123]] t = true ∧ Runs toks m ([123] :: nVALUE :: nVALUEL :: [125] :: rest) k op) ∨ (fits [[123]] t = false ∧ (False))) := h.rule tab_BLANKS1 (by decide +kernel)
theorem tab_XINPUT : tabG nXINPUT = some ([([[64]], [nDIR, nDIRS, nBLANKS]), ([[123]], [nBLANKS1])], false) := by kernel_rfl
theorem in_XINPUT {toks : List TokD} {n k : Nat} {rest : List Txt} {op : Int} (h : Runs toks n (nXINPUT :: rest) k op) : ∃ m t, n = m + 1 ∧ toks[k]? = some t ∧ ((fits [[64]] t = true ∧ Runs toks m (nDIR :: nDIRS :: nBLANKS :: rest) k op) ∨ (fits [[64]] t = false ∧ ((fits [[123]] t = true ∧ Runs toks m (nBLANKS1 :: rest) k op) ∨ (fits [[123]] t = false ∧ (False))))) := h.rule tab_XINPUT (by decide +kernel)
theorem tab_REPEAT : tabG nREPEAT = some ([([[39, 114, 101, 112, 101, 97, 116, 97, 98, 108, 101]], [[39, 114, 101, 112, 101, 97, 116, 97, 98, 108, 101]]), ([], [])], true) := by kernel_rfl
theorem in_REPEAT {toks : List TokD} {n k : Nat} {rest : List Txt} {op : Int} (h : Runs toks n (nREPEAT :: rest) k op) : ∃ m t, n = m + 1 ∧ toks[k]? = some t ∧ ((fits [[39, 114, 101, 112, 101, 97, 116, 97, 98, 108, 101]] t = true ∧ Runs toks m ([39, 114, 101, 112, 101, 97, 116, 97, 98, 108, 101] :: rest) k op) ∨ (fits [[39, 114, 101, 112, 101, 97, 116, 97, 98, 108, 101]] t = false ∧ ((fits [] t = true ∧ Runs toks m (rest) k op) ∨ (fits [] t = false ∧ (Runs toks m rest k op))))) := h.rule tab_REPEAT (by decide +kernel)
theorem tab_PLACES : tabG nPLACES = some ([([[124]], [[124], [46, 112, 108, 97, 99, 101], nPLACES]), ([], [])], true) := by kernel_rfl
theorem in_PLACES {toks : List TokD} {n k : Nat} {rest : List Txt} {op : Int} (h : Runs toks n (nPLACES :: rest) k op) : ∃ m t, n = m + 1 ∧ toks[k]? = some t ∧ ((fits [[124]] t = true ∧ Runs toks m ([124] :: [46, 112, 108, 97, 99, 101] :: nPLACES :: rest) k op) ∨ (fits [[124]] t = false ∧ ((fits [] t = true ∧ Runs toks m (rest) k op) ∨ (fits [] t = false ∧ (Runs toks m rest k op))))) := h.rule tab_PLACES (by decide +kernel)
theorem tab_DIRS : tabG nDIRS = some ([([[64]], [nDIR, nDIRS]), ([], [])], true) := by kernel_rfl
theorem in_DIRS {toks : List TokD} {n k : Nat} {rest : List Txt} {op : Int} (h : Runs toks n (nDIRS :: rest) k op) : ∃ m t, n = m + 1 ∧ toks[k]? = some t ∧ ((fits [[64]] t = true ∧ Runs toks m (nDIR :: nDIRS :: rest) k op) ∨ (fits [[64]] t = false ∧ ((fits [] t = true ∧ Runs toks m (rest) k op) ∨ (fits [] t = false ∧ (Runs toks m rest k op))))) := h.rule tab_DIRS (by decide +kernel)
theorem tab_DIR : tabG nDIR = some ([([[64]], [[64], [46, 110, 97, 109, 101], nARGS])], false) := by kernel_rfl
theorem in_DIR {toks : List TokD} {n k : Nat} {rest : List Txt} {op : Int} (h : Runs toks n (nDIR :: rest) k op) : ∃ m t, n = m + 1 ∧ toks[k]? = some t ∧ ((fits [[64]] t = true ∧ Runs toks m ([64] :: [46, 110, 97, 109, 101] :: nARGS :: rest) k op) ∨ (fits [[64]] t = false ∧ (False))) := h.rule tab_DIR (by decide +kernel)
theorem tab_ARGS : tabG nARGS = some ([([[40]], [[40], nARG, nARGL, [41]]), ([], [])], true) := by kernel_rfl
theorem in_ARGS {toks : List TokD} {n k : Nat} {rest : List Txt} {op : Int} (h : Runs toks n (nARGS :: rest) k op) : ∃ m t, n = m + 1 ∧ toks[k]? = some t ∧ ((fits [[40]] t = true ∧ Runs toks m ([40] :: nARG :: nARGL :: [41] :: rest) k op) ∨ (fits [[40]] t = false ∧ ((fits [] t = true ∧ Runs toks m (rest) k op) ∨ (fits [] t = false ∧ (Runs toks m rest k op))))) := h.rule tab_ARGS (by decide +kernel)
theorem tab_ARGL : tabG nARGL = some ([([[46, 110, 97, 109, 101]], [nARG, nARGL]), ([], [])], true) := by kernel_rfl
theorem in_ARGL {toks : List TokD} {n k : Nat} {rest : List Txt} {op : Int} (h : Runs toks n (nARGL :: rest) k op) : ∃ m t, n = m + 1 ∧ toks[k]? = some t ∧ ((fits [[46, 110, 97, 109, 101]] t = true ∧ Runs toks m (nARG :: nARGL :: rest) k op) ∨ (fits [[46, 110, 97, 109, 101]] t = false ∧ ((fits [] t = true ∧ Runs toks m (rest) k op) ∨ (fits [] t = false ∧ (Runs toks m rest k op))))) := h.rule tab_ARGL (by decide +kernel)
theorem tab_ARG : tabG nARG = some ([([[46, 110, 97, 109, 101]], [[46, 110, 97, 109, 101], [58], nLIT])], false) := by kernel_rfl
theorem in_ARG {toks : List TokD} {n k : Nat} {rest : List Txt} {op : Int} (h : Runs toks n (nARG :: rest) k op) : ∃ m t, n = m + 1 ∧ toks[k]? = some t ∧ ((fits [[46, 110, 97, 109, 101]] t = true ∧ Runs toks m ([46, 110, 97, 109, 101] :: [58] :: nLIT :: rest) k op) ∨ (fits [[46, 110, 97, 109, 101]] t = false ∧ (False))) := h.rule tab_ARG (by decide +kernel)
theorem tab_LIT : tabG nLIT = some ([([[46, 110, 97, 109, 101]], [[46, 110, 97, 109, 101]]), ([[46, 115, 116, 114]], [[46, 115, 116, 114]]), ([[46, 110, 117, 109]], [[46, 110, 117, 109]]), ([[91]], [[91], nLITL, [93]]), ([[123]], [[123], nOBJL, [125]])], false) := by kernel_rfl
theorem in_LIT {toks : List TokD} {n k : Nat} {rest : List Txt} {op : Int} (h : Runs toks n (nLIT :: rest) k op) : ∃ m t, n = m + 1 ∧ toks[k]? = some t ∧ ((fits [[46, 110, 97, 109, 101]] t = true ∧ Runs toks m ([46, 110, 97, 109, 101] :: rest) k op) ∨ (fits [[46, 110, 97, 109, 101]] t = false ∧ ((fits [[46, 115, 116, 114]] t = true ∧ Runs toks m ([46, 115, 116, 114] :: rest) k op) ∨ (fits [[46, 115, 116, 114]] t = false ∧ ((fits [[46, 110, 117, 109]] t = true ∧ Runs toks m ([46, 110, 117, 109] :: rest) k op) ∨ (fits [[46, 110, 117, 109]] t = false ∧ ((fits [[91]] t = true ∧ Runs toks m ([91] :: nLITL :: [93] :: rest) k op) ∨ (fits [[91]] t = false ∧ ((fits [[123]] t = true ∧ Runs toks m ([123] :: nOBJL :: [125] :: rest) k op) ∨ (fits [[123]] t = false ∧ (False))))))))))) := h.rule tab_LIT (by decide +kernel)
theorem tab_LITL : tabG nLITL = some ([([[46, 110, 97, 109, 101], [46, 115, 116, 114], [46, 110, 117, 109], [91], [123]], [nLIT, nLITL]), ([], [])], true) := by kernel_rfl
theorem in_LITL {toks : List TokD} {n k : Nat} {rest : List Txt} {op : Int} (h : Runs toks n (nLITL :: rest) k op) : ∃ m t, n = m + 1 ∧ toks[k]? = some t ∧ ((fits [[46, 110, 97, 109, 101], [46, 115, 116, 114], [46, 110, 117, 109], [91], [123]] t = true ∧ Runs toks m (nLIT :: nLITL :: rest) k op) ∨ (fits [[46, 110, 97, 109, 101], [46, 115, 116, 114], [46, 110, 117, 109], [91], [123]] t = false ∧ ((fits [] t = true ∧ Runs toks m (rest) k op) ∨ (fits [] t = false ∧ (Runs toks m rest k op))))) := h.rule tab_LITL (by decide +kernel)
theorem tab_OBJL : tabG nOBJL = some ([([[46, 110, 97, 109, 101]], [[46, 110, 97, 109, 101], [58], nLIT, nOBJL]), ([], [])], true) := by kernel_rfl
theorem in_OBJL {toks : List TokD} {n k : Nat} {rest : List Txt} {op : Int} (h : Runs toks n (nOBJL :: rest) k op) : ∃ m t, n = m + 1 ∧ toks[k]? = some t ∧ ((fits [[46, 110, 97, 109, 101]] t = true ∧ Runs toks m ([46, 110, 97, 109, 101] :: [58] :: nLIT :: nOBJL :: rest) k op) ∨ (fits [[46, 110, 97, 109, 101]] t = false ∧ ((fits [] t = true ∧ Runs toks m (rest) k op) ∨ (fits [] t = false ∧ (Runs toks m rest k op))))) := h.rule tab_OBJL (by decide +kernel)
theorem tab_TYPE : tabG nTYPE = some ([([[46, 110, 97, 109, 101], [91]], [nTYPE0, nBANG])], false) := by kernel_rfl
theorem in_TYPE {toks : List TokD} {n k : Nat} {rest : List Txt} {op : Int} (h : Runs toks n (nTYPE :: rest) k op) : ∃ m t, n = m + 1 ∧ toks[k]? = some t ∧ ((fits [[46, 110, 97, 109, 101], [91]] t = true ∧ Runs toks m (nTYPE0 :: nBANG :: rest) k op) ∨ (fits [[46, 110, 97, 109, 101], [91]] t = false ∧ (False))) := h.rule tab_TYPE (by decide +kernel)
theorem tab_TYPE0 : tabG nTYPE0 = some ([([[46, 110, 97, 109, 101]], [[46, 110, 97, 109, 101]]), ([[91]], [[91], nTYPE, [93]])], false) := by kernel_rfl
theorem in_TYPE0 {toks : List TokD} {n k : Nat} {rest : List Txt} {op : Int} (h : Runs toks n (nTYPE0 :: rest) k op) : ∃ m t, n = m + 1 ∧ toks[k]? = some t ∧ ((fits [[46, 110, 97, 109, 101]] t = true ∧ Runs toks m ([46, 110, 97, 109, 101] :: rest) k op) ∨ (fits [[46, 110, 97, 109, 101]] t = false ∧ ((fits [[91]] t = true ∧ Runs toks m ([91] :: nTYPE :: [93] :: rest) k op) ∨ (fits [[91]] t = false ∧ (False))))) := h.rule tab_TYPE0 (by decide +kernel)
theorem tab_BANG : tabG nBANG = some ([([[33]], [[33]]), ([], [])], true) := by kernel_rfl
theorem in_BANG {toks : List TokD} {n k : Nat} {rest : List Txt} {op : Int} (h : Runs toks n (nBANG :: rest) k op) : ∃ m t, n = m + 1 ∧ toks[k]? = some t ∧ ((fits [[33]] t = true ∧ Runs toks m ([33] :: rest) k op) ∨ (fits [[33]] t = false ∧ ((fits [] t = true ∧ Runs toks m (rest) k op) ∨ (fits [] t = false ∧ (Runs toks m rest k op))))) := h.rule tab_BANG (by decide +kernel)
end Go.Proofs.YtbpgkkoeehopjaaGreat.gram
namespace Go.Proofs.YtbpgkkoeehopjaaGreat.acr
open Go.Proofs.YtbpgkkoeehopjaaGreat.tree Go.Proofs.YtbpgkkoeehopjaaGreat.gram Go.Proofs.YtbpgkkoeehopjaaGreat.rd Go.Proofs.YtbpgkkoeehopjaaGreat.dat Go.Proofs.YtbpgkkoeehopjaaGreat.lex
set_option maxRecDepth 100000
structure TokW (t : TokD) : Prop where
 mark : ∀ p, p ∈ ([33, 38, 40, 41, 58, 61, 64, 91, 93, 123, 124, 125] : Txt) → t.text = [p] → t.kind = 2 ∨ t.kind = 6 ∨ t.kind = 7
 word : ∀ w, w ∈ ([[101, 120, 116, 101, 110, 100], [105, 109, 112, 108, 101, 109, 101, 110, 116, 115], [114, 101, 112, 101, 97, 116, 97, 98, 108, 101], [111, 110]] : List Txt) → t.text = w → t.kind = 3 ∨ t.kind = 6 ∨ t.kind = 7
structure TokA (toks : List TokD) : Prop extends TokE toks where
 wf : ∀ (k : Nat) t, toks[k]? = some t → TokW t
theorem mark_ne {p : UInt8} (hp : p ∈ ([33, 38, 40, 41, 58, 61, 64, 91, 93, 123, 124, 125] : Txt)) (t : TokD) : fitsF [p] t = ((t.kind == 2) && decide (t.text = [p])) := by
 simp only [List.mem_cons, List.mem_nil_iff, or_false] at hp
 rcases hp with rfl | rfl | rfl | rfl | rfl | rfl | rfl | rfl | rfl | rfl | rfl | rfl <;> rfl
theorem is_mark {t : TokD} (hW : TokW t) {p : UInt8} (hp : p ∈ ([33, 38, 40, 41, 58, 61, 64, 91, 93, 123, 124, 125] : Txt)) : isF t [p] = fitsF [p] t := by
 rw [mark_ne hp]
 unfold isF
 by_cases h : t.text = [p]
 · have hk := hW.mark p hp h
   rw [decide_eq_true h]
   rcases hk with hk | hk | hk <;> rw [hk] <;> rfl
 · rw [decide_eq_false h]; simp
theorem word_ne {w : Txt} (hw : w ∈ ([[101, 120, 116, 101, 110, 100], [105, 109, 112, 108, 101, 109, 101, 110, 116, 115], [114, 101, 112, 101, 97, 116, 97, 98, 108, 101], [111, 110]] : List Txt)) (t : TokD) : fitsF (39 :: w) t = ((t.kind == 3) && decide (t.text = w)) := by
 simp only [List.mem_cons, List.mem_nil_iff, or_false] at hw
 rcases hw with rfl | rfl | rfl | rfl <;> rfl
theorem is_word {t : TokD} (hW : TokW t) {w : Txt} (hw : w ∈ ([[101, 120, 116, 101, 110, 100], [105, 109, 112, 108, 101, 109, 101, 110, 116, 115], [114, 101, 112, 101, 97, 116, 97, 98, 108, 101], [111, 110]] : List Txt)) : isF t w = fitsF (39 :: w) t := by
 rw [word_ne hw]
 unfold isF
 by_cases h : t.text = w
 · have hk := hW.word w hw h
   rw [decide_eq_true h]
   rcases hk with hk | hk | hk <;> rw [hk] <;> rfl
 · rw [decide_eq_false h]; simp
theorem fits_two {t : TokD} {s : Txt} {p : UInt8} (hp : p ∈ ([33, 38, 40, 41, 58, 61, 64, 91, 93, 123, 124, 125] : Txt)) (h : fitsF [p] t = true) (hs : fitsF s t = true) : s = [p] := by
 rw [mark_ne hp] at h
 simp only [Bool.and_eq_true, beq_iff_eq, decide_eq_true_eq] at h
 obtain ⟨hk, ht⟩ := h
 unfold fitsF at hs
 rw [hk] at hs
 split at hs
 · cases hs
 split at hs
 · cases hs
 split at hs
 · cases hs
 split at hs
 · cases hs
 split at hs
 · cases hs
 split at hs
 · cases hs
 split at hs
 · cases hs
 cases s with
 | nil => cases hs
 | cons c r =>
  simp only at hs
  split at hs
  · cases hs
  · simp only [Bool.and_eq_true, decide_eq_true_eq] at hs
    rw [← hs.2, ht]
theorem no_mark {t : TokD} (hW : TokW t) {p : UInt8} (hp : p ∈ ([33, 38, 40, 41, 58, 61, 64, 91, 93, 123, 124, 125] : Txt)) {F : List Txt} (hF : fits F t = true) (hn : F.contains [p] = false) : isF t [p] = false := by
 rw [is_mark hW hp]
 cases h : fitsF [p] t with
 | false => rfl
 | true =>
  obtain ⟨s, hs, hf⟩ := List.any_eq_true.1 hF
  rw [fits_two hp h hf] at hs
  rw [List.contains_iff_mem.2 hs] at hn
  cases hn
theorem not_in {t : TokD} {F : List Txt} {s : Txt} (h : fits F t = false) (hs : F.contains s = true) : fitsF s t = false := by
 cases hf : fitsF s t with
 | false => rfl
 | true =>
  have : fits F t = true := List.any_eq_true.2 ⟨s, List.contains_iff_mem.1 hs, hf⟩
  rw [h] at this; cases this
section
variable {toks : List TokD}
theorem _root_.Go.Proofs.YtbpgkkoeehopjaaGreat.gram.Runs.tok {n : Nat} {s : Txt} {st : List Txt} {k : Nat} {op : Int} (h : Runs toks n (s :: st) k op) : ∃ t, toks[k]? = some t := by
 unfold Runs at h
 cases n with
 | zero => cases h
 | succ m =>
  rw [runF] at h
  cases ht : toks[k]? with
  | none => rw [ht] at h; cases h
  | some t => exact ⟨t, rfl⟩
theorem _root_.Go.Proofs.YtbpgkkoeehopjaaGreat.gram.Runs.term (hE : TokA toks) {n : Nat} {s : Txt} {rest : List Txt} {k : Nat} {op : Int} (h : Runs toks n (s :: rest) k op) (hs : (decide (s ≠ []) && decide (s.length ≤ 1000) && !ruleF s && decide (s ≠ endT)) = true) {t : TokD} (ht : toks[k]? = some t) :
  ∃ m, n = m + 1 ∧ fitsF s t = true ∧ (bracketF s = 1 → op < 200) ∧ nextK toks.length k = k + 1 ∧ k + 1 < toks.length ∧ Runs toks m rest (k + 1) (op + bracketF s) := by
 simp only [Bool.and_eq_true, decide_eq_true_eq, Bool.not_eq_true'] at hs
 unfold Runs at h
 cases n with
 | zero => cases h
 | succ m =>
  rw [runF, ht] at h
  simp only at h
  rw [if_neg (by rintro (h0 | h0); exact hs.1.1.1 h0; have := hs.1.1.2; omega), hs.1.2, if_neg (by decide)] at h
  cases hf : fitsF s t with
  | false => rw [hf, if_pos rfl] at h; simp at h
  | true =>
   rw [hf, if_neg (by decide)] at h
   have hk := fits_kind hf
   have hlt : k < toks.length := (List.getElem?_eq_some_iff.1 ht).1
   have hl : k + 1 < toks.length := by
    have h1 := hE.ends k t ht
    have h2 := hk.2 hs.2
    have h3 : ¬ k + 1 = toks.length := fun e => by have := h1.2 e; rcases this with h | h; exact h2 h; exact hk.1 h
    omega
   split at h
   · simp at h
   · rename_i hb
     try rw [if_pos hl] at h
     exact ⟨m, rfl, rfl, fun e => by by_cases h2 : op < 200; exact h2; exact absurd ⟨e, by omega⟩ hb, by unfold nextK; rw [if_pos hl], hl, h⟩
theorem _root_.Go.Proofs.YtbpgkkoeehopjaaGreat.gram.Runs.t0 (hE : TokA toks) {n : Nat} {s : Txt} {rest : List Txt} {k : Nat} {op : Int} (h : Runs toks n (s :: rest) k op) {t : TokD} (ht : toks[k]? = some t) (hs : (decide (s ≠ []) && decide (s.length ≤ 1000) && !ruleF s && decide (s ≠ endT)) = true := by decide +kernel) (hb : bracketF s = 0 := by decide +kernel) :
  ∃ m, n = m + 1 ∧ fitsF s t = true ∧ nextK toks.length k = k + 1 ∧ k + 1 < toks.length ∧ Runs toks m rest (k + 1) op := by
 obtain ⟨m, h1, h2, _, h4, h5, h6⟩ := h.term hE hs ht
 rw [hb, Int.add_zero] at h6
 exact ⟨m, h1, h2, h4, h5, h6⟩
theorem _root_.Go.Proofs.YtbpgkkoeehopjaaGreat.gram.Runs.topen (hE : TokA toks) {n : Nat} {s : Txt} {rest : List Txt} {k : Nat} {op : Int} (h : Runs toks n (s :: rest) k op) {t : TokD} (ht : toks[k]? = some t) (hs : (decide (s ≠ []) && decide (s.length ≤ 1000) && !ruleF s && decide (s ≠ endT)) = true := by decide +kernel) (hb : bracketF s = 1 := by decide +kernel) :
  ∃ m, n = m + 1 ∧ fitsF s t = true ∧ nextK toks.length k = k + 1 ∧ k + 1 < toks.length ∧ op < 200 ∧ Runs toks m rest (k + 1) (op + 1) := by
 obtain ⟨m, h1, h2, h3, h4, h5, h6⟩ := h.term hE hs ht
 rw [hb] at h6
 exact ⟨m, h1, h2, h4, h5, h3 hb, h6⟩
theorem _root_.Go.Proofs.YtbpgkkoeehopjaaGreat.gram.Runs.tclose (hE : TokA toks) {n : Nat} {s : Txt} {rest : List Txt} {k : Nat} {op : Int} (h : Runs toks n (s :: rest) k op) {t : TokD} (ht : toks[k]? = some t) (hs : (decide (s ≠ []) && decide (s.length ≤ 1000) && !ruleF s && decide (s ≠ endT)) = true := by decide +kernel) (hb : bracketF s = -1 := by decide +kernel) :
  ∃ m, n = m + 1 ∧ fitsF s t = true ∧ nextK toks.length k = k + 1 ∧ k + 1 < toks.length ∧ Runs toks m rest (k + 1) (op - 1) := by
 obtain ⟨m, h1, h2, h3, h4, h5, h6⟩ := h.term hE hs ht
 rw [hb, ← Int.sub_eq_add_neg] at h6
 exact ⟨m, h1, h2, h4, h5, h6⟩
def Got {α : Type} (toks : List TokD) (n : Nat) (rest : List Txt) (op : Int) (k : Nat) (N : α → Nat) (x : Option (α × Nat)) : Prop := ∃ a k' m, x = some (a, k') ∧ Runs toks m rest k' op ∧ m < n ∧ N a + k ≤ k'
abbrev tNAME : Txt := [46, 110, 97, 109, 101]
abbrev tSTR : Txt := [46, 115, 116, 114]
abbrev tNUM : Txt := [46, 110, 117, 109]
theorem kind_name {t : TokD} (h : fitsF tNAME t = true) : t.kind = 3 := by have : (t.kind == 3) = true := h; simpa using this
theorem kind_str {t : TokD} (h : fitsF tSTR t = true) : t.kind = 6 ∨ t.kind = 7 := by have : ((t.kind == 6) || (t.kind == 7)) = true := h; simpa using this
theorem kind_num {t : TokD} (h : fitsF tNUM t = true) : t.kind = 4 ∨ t.kind = 5 := by have : ((t.kind == 4) || (t.kind == 5)) = true := h; simpa using this
theorem kind_mark {t : TokD} {p : UInt8} (hp : p ∈ ([33, 38, 40, 41, 58, 61, 64, 91, 93, 123, 124, 125] : Txt)) (h : fitsF [p] t = true) : t.kind = 2 ∧ t.text = [p] := by
 rw [mark_ne hp] at h
 simpa using h
theorem lit_all (hE : TokA toks) (L : Nat) (hL : toks.length ≤ L) : ∀ n,
  (∀ (rest : List Txt) (k : Nat) (op : Int) (f : Nat), Runs toks n (nLIT :: rest) k op → op ≤ 200 → 200 < op + f → Got toks n rest op k litN (litF toks L f k)) ∧
  (∀ (rest : List Txt) (k : Nat) (op : Int) (f fu : Nat), Runs toks n (nLITL :: [93] :: rest) k op → op ≤ 200 → 200 < op + f → toks.length < fu + k → Got toks n rest (op - 1) k (fun l => litsN l + 1) (litsGo toks (litF toks L f) fu k)) ∧
  (∀ (rest : List Txt) (k : Nat) (op : Int) (f fu : Nat), Runs toks n (nOBJL :: [125] :: rest) k op → op ≤ 200 → 200 < op + f → toks.length < fu + k → Got toks n rest (op - 1) k (fun l => pairsN l + 1) (pairsGo toks [125] (litF toks L f) fu k)) := by
 intro n
 induction n using Nat.strongRecOn with
 | _ n ih =>
  refine ⟨fun rest k op f h h1 h2 => ?_, fun rest k op f fu h h1 h2 h3 => ?_, fun rest k op f fu h h1 h2 h3 => ?_⟩
  · obtain ⟨m, t, rfl, ht, hA⟩ := in_LIT h
    obtain ⟨f, rfl⟩ : ∃ g, f = g + 1 := ⟨f - 1, by omega⟩
    rw [litF, ht, Option.bind_some]
    rcases hA with ⟨_, h⟩ | ⟨_, ⟨_, h⟩ | ⟨_, ⟨_, h⟩ | ⟨_, ⟨_, h⟩ | ⟨_, ⟨_, h⟩ | ⟨_, h⟩⟩⟩⟩⟩
    · obtain ⟨m', rfl, hf, hn, hl, h⟩ := h.t0 hE ht
      rw [if_pos (kind_name hf), hn]
      exact ⟨_, _, m', rfl, h, by omega, by simp [litN, litsN, pairsN]; omega⟩
    · obtain ⟨m', rfl, hf, hn, hl, h⟩ := h.t0 hE ht
      have hk := kind_str hf
      rw [if_neg (by omega), if_neg (by omega), if_neg (by omega), if_pos hk, hn]
      exact ⟨_, _, m', rfl, h, by omega, by simp [litN, litsN, pairsN]; omega⟩
    · obtain ⟨m', rfl, hf, hn, hl, h⟩ := h.t0 hE ht
      have hk := kind_num hf
      rw [if_neg (by omega), hn]
      by_cases h4 : t.kind = 4
      · rw [if_pos h4]
        exact ⟨_, _, m', rfl, h, by omega, by simp [litN, litsN, pairsN]; omega⟩
      · rw [if_neg h4, if_pos (by omega)]
        exact ⟨_, _, m', rfl, h, by omega, by simp [litN, litsN, pairsN]; omega⟩
    · obtain ⟨m', rfl, hf, hn, hl, hop, h⟩ := h.topen hE ht
      have hk := kind_mark (by decide) hf
      rw [if_neg (by omega), if_neg (by omega), if_neg (by omega), if_neg (by omega), if_pos hk.2, hn]
      obtain ⟨a, k', m2, e, hr, hm, hN⟩ := (ih m' (by omega)).2.1 rest (k + 1) (op + 1) f L h (by omega) (by omega) (by omega)
      rw [e]
      refine ⟨_, _, m2, rfl, ?_, by omega, by simp only [litN, pairsN] at hN ⊢; omega⟩
      rw [Int.add_sub_cancel] at hr
      exact hr
    · obtain ⟨m', rfl, hf, hn, hl, hop, h⟩ := h.topen hE ht
      have hk := kind_mark (by decide) hf
      rw [if_neg (by omega), if_neg (by omega), if_neg (by omega), if_neg (by omega), if_neg (by rw [hk.2]; decide), hn]
      obtain ⟨a, k', m2, e, hr, hm, hN⟩ := (ih m' (by omega)).2.2 rest (k + 1) (op + 1) f L h (by omega) (by omega) (by omega)
      rw [e]
      refine ⟨_, _, m2, rfl, ?_, by omega, by simp only [litN, litsN] at hN ⊢; omega⟩
      rw [Int.add_sub_cancel] at hr
      exact hr
    · exact h.elim
  · obtain ⟨m, t, rfl, ht, hA⟩ := in_LITL h
    have hlt : k < toks.length := (List.getElem?_eq_some_iff.1 ht).1
    obtain ⟨fu, rfl⟩ : ∃ g, fu = g + 1 := ⟨fu - 1, by omega⟩
    have hW := hE.wf k t ht
    rw [litsGo, ht, Option.bind_some]
    have hend : Runs toks m ([93] :: rest) k op → Got toks (m + 1) rest (op - 1) k (fun l => litsN l + 1) (if isF t [93] = true then some ([], k + 1) else (litF toks L f k).bind fun q => (litsGo toks (litF toks L f) fu q.2).bind fun r => some (q.1 :: r.1, r.2)) := fun h => by
     obtain ⟨m', rfl, hf, hn, hl, h⟩ := h.tclose hE ht
     rw [if_pos (by rw [is_mark hW (by decide)]; exact hf)]
     exact ⟨_, _, m', rfl, h, by omega, by simp [litsN]; omega⟩
    rcases hA with ⟨hF, h⟩ | ⟨_, ⟨_, h⟩ | ⟨_, h⟩⟩
    · rw [if_neg (by rw [no_mark hW (by decide) hF (by decide +kernel)]; decide)]
      obtain ⟨a, k', m2, e, hr, hm, hN⟩ := (ih m (by omega)).1 _ k op f h h1 h2
      rw [e, Option.bind_some]
      have hp := litN_pos a
      obtain ⟨b, k2, m3, e2, hr2, hm2, hN2⟩ := (ih m2 (by omega)).2.1 rest k' op f fu hr h1 h2 (by omega)
      rw [e2, Option.bind_some]
      exact ⟨_, _, m3, rfl, hr2, by omega, by simp only [litsN] at hN2 ⊢; omega⟩
    · exact hend h
    · exact hend h
  · obtain ⟨m, t, rfl, ht, hA⟩ := in_OBJL h
    have hlt : k < toks.length := (List.getElem?_eq_some_iff.1 ht).1
    obtain ⟨fu, rfl⟩ : ∃ g, fu = g + 1 := ⟨fu - 1, by omega⟩
    have hW := hE.wf k t ht
    rw [pairsGo, ht, Option.bind_some]
    rcases hA with ⟨hF, h⟩ | ⟨_, h⟩
    · rw [if_neg (by rw [no_mark hW (by decide) hF (by decide +kernel)]; decide)]
      obtain ⟨m1, rfl, hf, hn, hl, h⟩ := h.t0 hE ht
      obtain ⟨t1, ht1⟩ := h.tok
      have hW1 := hE.wf _ t1 ht1
      obtain ⟨m2, rfl, hf1, hn1, hl1, h⟩ := h.t0 hE ht1
      rw [hn, ht1, Option.bind_some, if_pos (by rw [is_mark hW1 (by decide)]; exact hf1)]
      obtain ⟨a, k', m3, e, hr, hm, hN⟩ := (ih m2 (by omega)).1 _ (k + 1 + 1) op f h h1 h2
      rw [e, Option.bind_some]
      have hp := litN_pos a
      obtain ⟨b, k2, m4, e2, hr2, hm2, hN2⟩ := (ih m3 (by omega)).2.2 rest k' op f fu hr h1 h2 (by omega)
      rw [e2, Option.bind_some]
      exact ⟨_, _, m4, rfl, hr2, by omega, by simp only [pairsN, pairN] at hN2 ⊢; omega⟩
    · have h : Runs toks m ([125] :: rest) k op := by rcases h with ⟨_, h⟩ | ⟨_, h⟩ <;> exact h
      obtain ⟨m', rfl, hf, hn, hl, h⟩ := h.tclose hE ht
      rw [if_pos (by rw [is_mark hW (by decide)]; exact hf)]
      exact ⟨_, _, m', rfl, h, by omega, by simp [pairsN]; omega⟩
end
section
variable {toks : List TokD}
theorem bang_all (hE : TokA toks) {n : Nat} {rest : List Txt} {k : Nat} {op : Int} {r : Txt × Txt} (h : Runs toks n (nBANG :: rest) k op) (hr : r.2.length ≤ 2000) :
  ∃ r' k' m, bangF toks r k = some (r', k') ∧ Runs toks m rest k' op ∧ m < n ∧ k ≤ k' ∧ r'.2.length ≤ r.2.length + 1 := by
 obtain ⟨m, t, rfl, ht, hA⟩ := in_BANG h
 have hW := hE.wf k t ht
 unfold bangF
 rw [if_pos hr, ht]
 simp only
 rcases hA with ⟨hF, h⟩ | ⟨hF, h⟩
 · obtain ⟨m', rfl, hf, hn, hl, h⟩ := h.t0 hE ht
   rw [if_pos (by rw [is_mark hW (by decide)]; exact hf)]
   exact ⟨_, _, m', rfl, h, by omega, by omega, by simp⟩
 · have h : Runs toks m rest k op := by rcases h with ⟨_, h⟩ | ⟨_, h⟩ <;> exact h
   rw [if_neg (by rw [is_mark hW (by decide), not_in hF (by decide +kernel)]; decide)]
   exact ⟨_, _, m, rfl, h, by omega, by omega, by omega⟩
theorem typ_all (hE : TokA toks) : ∀ (n : Nat) (rest : List Txt) (k : Nat) (op : Int) (f : Nat), Runs toks n (nTYPE :: rest) k op → 0 ≤ op → op ≤ 200 → 200 < op + f →
  ∃ r k' m, typF toks f k = some (r, k') ∧ Runs toks m rest k' op ∧ m < n ∧ k + 1 ≤ k' ∧ (r.2.length : Int) ≤ 2 * (200 - op) + 1 := by
 intro n
 induction n using Nat.strongRecOn with
 | _ n ih =>
  intro rest k op f h h0 h1 h2
  obtain ⟨m, t, rfl, ht, hA⟩ := in_TYPE h
  obtain ⟨f, rfl⟩ : ∃ g, f = g + 1 := ⟨f - 1, by omega⟩
  have h : Runs toks m (nTYPE0 :: nBANG :: rest) k op := by rcases hA with ⟨_, h⟩ | ⟨_, h⟩; exact h; exact h.elim
  obtain ⟨m, t', rfl, ht', hA⟩ := in_TYPE0 h
  rw [ht] at ht'
  injection ht' with ht'
  subst ht'
  have hW := hE.wf k t ht
  rw [typF, ht]
  simp only
  rcases hA with ⟨hF, h⟩ | ⟨_, ⟨hF, h⟩ | ⟨_, h⟩⟩
  · obtain ⟨m1, rfl, hf, hn, hl, h⟩ := h.t0 hE ht
    rw [if_neg (by rw [no_mark hW (by decide) hF (by decide +kernel)]; decide), hn]
    obtain ⟨r', k', m2, e, hr, hm, hk, hlen⟩ := bang_all (r := (t.text, [])) hE h (by simp)
    rw [e]
    refine ⟨r', k', m2, rfl, hr, by omega, by omega, ?_⟩
    simp only [List.length_nil] at hlen
    omega
  · obtain ⟨m1, rfl, hf, hn, hl, hop, h⟩ := h.topen hE ht
    rw [if_pos (by rw [is_mark hW (by decide)]; exact hf)]
    obtain ⟨r, k', m2, e, hr, hm, hk, hlen⟩ := ih m1 (by omega) _ (k + 1) (op + 1) f h (by omega) (by omega) (by omega)
    rw [e]
    simp only
    obtain ⟨t1, ht1⟩ := hr.tok
    have hW1 := hE.wf _ t1 ht1
    obtain ⟨m3, rfl, hf1, hn1, hl1, h⟩ := hr.tclose hE ht1
    rw [Int.add_sub_cancel] at h
    rw [ht1]
    simp only
    rw [if_pos (by omega), if_pos (by rw [is_mark hW1 (by decide)]; exact hf1)]
    obtain ⟨r', k2, m4, e2, hr2, hm2, hk2, hlen2⟩ := bang_all (r := (r.1, r.2 ++ [93])) hE h (by simp; omega)
    rw [e2]
    refine ⟨r', k2, m4, rfl, hr2, by omega, by omega, ?_⟩
    simp only [List.length_append, List.length_singleton] at hlen2
    omega
  · exact h.elim
theorem args_all (hE : TokA toks) (L : Nat) (hL : toks.length ≤ L) : ∀ n,
  (∀ (rest : List Txt) (k : Nat) (op : Int) (f fu : Nat), Runs toks n (nARGL :: [41] :: rest) k op → op ≤ 200 → 200 < op + f → toks.length < fu + k → Got toks n rest (op - 1) k (fun l => pairsN l + 1) (pairsGo toks [41] (litF toks L f) fu k)) ∧
  (∀ (rest : List Txt) (k : Nat) (op : Int) (f fu : Nat), Runs toks n (nARG :: nARGL :: [41] :: rest) k op → op ≤ 200 → 200 < op + f → toks.length < fu + k → Got toks n rest (op - 1) k (fun l => pairsN l + 1) (pairsGo toks [41] (litF toks L f) fu k)) := by
 intro n
 induction n using Nat.strongRecOn with
 | _ n ih =>
  refine ⟨fun rest k op f fu h h1 h2 h3 => ?_, fun rest k op f fu h h1 h2 h3 => ?_⟩
  · obtain ⟨m, t, rfl, ht, hA⟩ := in_ARGL h
    have hlt : k < toks.length := (List.getElem?_eq_some_iff.1 ht).1
    have hW := hE.wf k t ht
    rcases hA with ⟨hF, h⟩ | ⟨_, h⟩
    · obtain ⟨a, k', m1, e, hr, hm, hN⟩ := (ih m (by omega)).2 rest k op f fu h h1 h2 h3
      exact ⟨a, k', m1, e, hr, by omega, hN⟩
    · have h : Runs toks m ([41] :: rest) k op := by rcases h with ⟨_, h⟩ | ⟨_, h⟩ <;> exact h
      obtain ⟨fu, rfl⟩ : ∃ g, fu = g + 1 := ⟨fu - 1, by omega⟩
      rw [pairsGo, ht, Option.bind_some]
      obtain ⟨m', rfl, hf, hn, hl, h⟩ := h.tclose hE ht
      rw [if_pos (by rw [is_mark hW (by decide)]; exact hf)]
      exact ⟨_, _, m', rfl, h, by omega, by simp [pairsN]; omega⟩
  · obtain ⟨m, t, rfl, ht, hA⟩ := in_ARG h
    have hlt : k < toks.length := (List.getElem?_eq_some_iff.1 ht).1
    have hW := hE.wf k t ht
    obtain ⟨fu, rfl⟩ : ∃ g, fu = g + 1 := ⟨fu - 1, by omega⟩
    rw [pairsGo, ht, Option.bind_some]
    rcases hA with ⟨hF, h⟩ | ⟨_, h⟩
    · rw [if_neg (by rw [no_mark hW (by decide) hF (by decide +kernel)]; decide)]
      obtain ⟨m1, rfl, hf, hn, hl, h⟩ := h.t0 hE ht
      obtain ⟨t1, ht1⟩ := h.tok
      have hW1 := hE.wf _ t1 ht1
      obtain ⟨m2, rfl, hf1, hn1, hl1, h⟩ := h.t0 hE ht1
      rw [hn, ht1, Option.bind_some, if_pos (by rw [is_mark hW1 (by decide)]; exact hf1)]
      obtain ⟨a, k', m3, e, hr, hm, hN⟩ := (lit_all hE L hL m2).1 _ (k + 1 + 1) op f h h1 h2
      rw [e, Option.bind_some]
      have hp := litN_pos a
      obtain ⟨b, k2, m4, e2, hr2, hm2, hN2⟩ := (ih m3 (by omega)).1 rest k' op f fu hr h1 h2 (by omega)
      rw [e2, Option.bind_some]
      exact ⟨_, _, m4, rfl, hr2, by omega, by simp only [pairsN, pairN] at hN2 ⊢; omega⟩
    · exact h.elim
theorem argsF_all (hE : TokA toks) (L : Nat) (hL : toks.length ≤ L) {n : Nat} {rest : List Txt} {k : Nat} {op : Int} {f : Nat} (h : Runs toks n (nARGS :: rest) k op) (h1 : op ≤ 200) (h2 : 200 < op + f) : Got toks n rest op k pairsN (argsF toks L f k) := by
 obtain ⟨m, t, rfl, ht, hA⟩ := in_ARGS h
 have hlt : k < toks.length := (List.getElem?_eq_some_iff.1 ht).1
 have hW := hE.wf k t ht
 unfold argsF
 rw [ht, Option.bind_some]
 rcases hA with ⟨hF, h⟩ | ⟨hF, h⟩
 · obtain ⟨m1, rfl, hf, hn, hl, hop, h⟩ := h.topen hE ht
   rw [if_pos (by rw [is_mark hW (by decide)]; exact hf)]
   obtain ⟨a, k', m2, e, hr, hm, hN⟩ := (args_all hE L hL m1).2 rest (k + 1) (op + 1) f L h (by omega) (by omega) (by omega)
   rw [Int.add_sub_cancel] at hr
   exact ⟨a, k', m2, e, hr, by omega, by (try simp only at hN ⊢); omega⟩
 · have h : Runs toks m rest k op := by rcases h with ⟨_, h⟩ | ⟨_, h⟩ <;> exact h
   rw [if_neg (by rw [is_mark hW (by decide), not_in hF (by decide +kernel)]; decide)]
   exact ⟨_, _, m, rfl, h, by omega, by simp [pairsN]⟩
theorem dirs_all (hE : TokA toks) (L : Nat) (hL : toks.length ≤ L) : ∀ n,
  (∀ (rest : List Txt) (k : Nat) (op : Int) (f fu : Nat), Runs toks n (nDIRS :: rest) k op → op ≤ 200 → 200 < op + f → toks.length < fu + k → Got toks n rest op k (sumN dirN) (dirsGo toks L f fu k)) ∧
  (∀ (rest : List Txt) (k : Nat) (op : Int) (f fu : Nat), Runs toks n (nDIR :: nDIRS :: rest) k op → op ≤ 200 → 200 < op + f → toks.length < fu + k → Got toks n rest op k (sumN dirN) (dirsGo toks L f fu k)) := by
 intro n
 induction n using Nat.strongRecOn with
 | _ n ih =>
  refine ⟨fun rest k op f fu h h1 h2 h3 => ?_, fun rest k op f fu h h1 h2 h3 => ?_⟩
  · obtain ⟨m, t, rfl, ht, hA⟩ := in_DIRS h
    have hlt : k < toks.length := (List.getElem?_eq_some_iff.1 ht).1
    have hW := hE.wf k t ht
    rcases hA with ⟨hF, h⟩ | ⟨hF, h⟩
    · obtain ⟨a, k', m1, e, hr, hm, hN⟩ := (ih m (by omega)).2 rest k op f fu h h1 h2 h3
      exact ⟨a, k', m1, e, hr, by omega, hN⟩
    · have h : Runs toks m rest k op := by rcases h with ⟨_, h⟩ | ⟨_, h⟩ <;> exact h
      obtain ⟨fu, rfl⟩ : ∃ g, fu = g + 1 := ⟨fu - 1, by omega⟩
      rw [dirsGo, ht, Option.bind_some, if_neg (by rw [is_mark hW (by decide), not_in hF (by decide +kernel)]; decide)]
      exact ⟨_, _, m, rfl, h, by omega, by simp [sumN]⟩
  · obtain ⟨m, t, rfl, ht, hA⟩ := in_DIR h
    have hlt : k < toks.length := (List.getElem?_eq_some_iff.1 ht).1
    have hW := hE.wf k t ht
    obtain ⟨fu, rfl⟩ : ∃ g, fu = g + 1 := ⟨fu - 1, by omega⟩
    rw [dirsGo, ht, Option.bind_some]
    rcases hA with ⟨hF, h⟩ | ⟨_, h⟩
    · obtain ⟨m1, rfl, hf, hn, hl, h⟩ := h.t0 hE ht
      rw [if_pos (by rw [is_mark hW (by decide)]; exact hf), hn]
      obtain ⟨t1, ht1⟩ := h.tok
      obtain ⟨m2, rfl, hf1, hn1, hl1, h⟩ := h.t0 hE ht1
      rw [ht1, Option.bind_some, hn1]
      obtain ⟨a, k', m3, e, hr, hm, hN⟩ := argsF_all hE L hL h h1 h2
      rw [e, Option.bind_some]
      obtain ⟨b, k2, m4, e2, hr2, hm2, hN2⟩ := (ih m3 (by omega)).1 rest k' op f fu hr h1 h2 (by omega)
      rw [e2, Option.bind_some]
      exact ⟨_, _, m4, rfl, hr2, by omega, by simp only [sumN, dirN] at hN2 ⊢; omega⟩
    · exact h.elim
theorem dirsF_all (hE : TokA toks) (L : Nat) (hL : toks.length ≤ L) {n : Nat} {rest : List Txt} {k : Nat} {op : Int} {f : Nat} (h : Runs toks n (nDIRS :: rest) k op) (h1 : op ≤ 200) (h2 : 200 < op + f) (hk : 0 < k) : Got toks n rest op k (sumN dirN) (dirsF toks L f k) :=
 (dirs_all hE L hL n).1 rest k op f L h h1 h2 (by omega)
theorem dirF_all (hE : TokA toks) (L : Nat) (hL : toks.length ≤ L) {n : Nat} {rest : List Txt} {k : Nat} {op : Int} {f : Nat} (h : Runs toks n (nDIR :: nDIRS :: rest) k op) (h1 : op ≤ 200) (h2 : 200 < op + f) (hk : 0 < k) : Got toks n rest op k (sumN dirN) (dirsF toks L f k) :=
 (dirs_all hE L hL n).2 rest k op f L h h1 h2 (by omega)
theorem items_all (hE : TokA toks) (mark : UInt8) (hp : mark ∈ ([33, 38, 40, 41, 58, 61, 64, 91, 93, 123, 124, 125] : Txt)) (hb : bracketF [mark] = 0) (item list : Txt) (hs : (decide (item ≠ []) && decide (item.length ≤ 1000) && !ruleF item && decide (item ≠ endT)) = true) (hbi : bracketF item = 0)
  (hin : ∀ {n k : Nat} {rest : List Txt} {op : Int}, Runs toks n (list :: rest) k op → ∃ m t, n = m + 1 ∧ toks[k]? = some t ∧ ((fits [[mark]] t = true ∧ Runs toks m ([mark] :: item :: list :: rest) k op) ∨ (fits [[mark]] t = false ∧ ((fits [] t = true ∧ Runs toks m rest k op) ∨ (fits [] t = false ∧ (Runs toks m rest k op)))))) :
  ∀ (n : Nat) (rest : List Txt) (k : Nat) (op : Int) (fu : Nat), Runs toks n (item :: list :: rest) k op → toks.length < fu + k → Got toks n rest op k (fun l => l.length) (itemsF toks [mark] fu k) := by
 intro n
 induction n using Nat.strongRecOn with
 | _ n ih =>
  intro rest k op fu h h1
  obtain ⟨t, ht⟩ := h.tok
  have hlt : k < toks.length := (List.getElem?_eq_some_iff.1 ht).1
  obtain ⟨fu, rfl⟩ : ∃ g, fu = g + 1 := ⟨fu - 1, by omega⟩
  obtain ⟨m1, rfl, hf, hn, hl, h⟩ := h.t0 hE ht hs hbi
  obtain ⟨m2, t1, rfl, ht1, hA⟩ := hin h
  have hW1 := hE.wf _ t1 ht1
  rw [itemsF, ht]
  simp only
  rw [hn, ht1]
  simp only
  rcases hA with ⟨hF, h⟩ | ⟨hF, h⟩
  · obtain ⟨m3, rfl, hf1, hn1, hl1, h⟩ := h.t0 hE ht1 (by simp only [List.mem_cons, List.mem_nil_iff, or_false] at hp; rcases hp with rfl | rfl | rfl | rfl | rfl | rfl | rfl | rfl | rfl | rfl | rfl | rfl <;> decide +kernel) hb
    rw [if_pos (by rw [is_mark hW1 hp]; exact hf1)]
    obtain ⟨a, k', m4, e, hr, hm, hN⟩ := ih m3 (by omega) rest (k + 1 + 1) op fu h (by omega)
    rw [e]
    exact ⟨_, _, m4, rfl, hr, by omega, by simp only [List.length_cons] at hN ⊢; omega⟩
  · have h : Runs toks m2 rest (k + 1) op := by rcases h with ⟨_, h⟩ | ⟨_, h⟩ <;> exact h
    rw [if_neg (by rw [is_mark hW1 hp, not_in hF (by simp)]; decide)]
    exact ⟨_, _, m2, rfl, h, by omega, by simp only [List.length_singleton]; omega⟩
theorem listed_all (hE : TokA toks) (mark : UInt8) (hp : mark ∈ ([33, 38, 40, 41, 58, 61, 64, 91, 93, 123, 124, 125] : Txt)) (hb : bracketF [mark] = 0) (item list opt : Txt) (hs : (decide (item ≠ []) && decide (item.length ≤ 1000) && !ruleF item && decide (item ≠ endT)) = true) (hbi : bracketF item = 0)
  (hno : ∀ t, fitsF item t = true → t.kind = 3)
  (hin : ∀ {n k : Nat} {rest : List Txt} {op : Int}, Runs toks n (list :: rest) k op → ∃ m t, n = m + 1 ∧ toks[k]? = some t ∧ ((fits [[mark]] t = true ∧ Runs toks m ([mark] :: item :: list :: rest) k op) ∨ (fits [[mark]] t = false ∧ ((fits [] t = true ∧ Runs toks m rest k op) ∨ (fits [] t = false ∧ (Runs toks m rest k op))))))
  (hopt : ∀ {n k : Nat} {rest : List Txt} {op : Int}, Runs toks n (opt :: rest) k op → ∃ m t, n = m + 1 ∧ toks[k]? = some t ∧ ((fits [[mark]] t = true ∧ Runs toks m ([mark] :: rest) k op) ∨ (fits [[mark]] t = false ∧ ((fits [] t = true ∧ Runs toks m rest k op) ∨ (fits [] t = false ∧ (Runs toks m rest k op))))))
  (L : Nat) (hL : toks.length ≤ L) {n : Nat} {rest : List Txt} {k : Nat} {op : Int} (hk : 0 < k) (h : Runs toks n (opt :: item :: list :: rest) k op) : Got toks n rest op k (fun l => l.length) (listedF toks [mark] L k) := by
 obtain ⟨m, t, rfl, ht, hA⟩ := hopt h
 have hW := hE.wf _ t ht
 unfold listedF
 rw [ht]
 simp only
 rcases hA with ⟨hF, h⟩ | ⟨hF, h⟩
 · obtain ⟨m1, rfl, hf1, hn1, hl1, h⟩ := h.t0 hE ht (by simp only [List.mem_cons, List.mem_nil_iff, or_false] at hp; rcases hp with rfl | rfl | rfl | rfl | rfl | rfl | rfl | rfl | rfl | rfl | rfl | rfl <;> decide +kernel) hb
   rw [if_pos (by rw [is_mark hW hp]; exact hf1)]
   obtain ⟨a, k', m2, e, hr, hm, hN⟩ := items_all hE mark hp hb item list hs hbi hin m1 rest (k + 1) op L h (by omega)
   exact ⟨a, k', m2, e, hr, by omega, by (try simp only at hN ⊢); omega⟩
 · have h : Runs toks m (item :: list :: rest) k op := by rcases h with ⟨_, h⟩ | ⟨_, h⟩ <;> exact h
   rw [if_neg (by rw [is_mark hW hp, not_in hF (by simp)]; decide)]
   obtain ⟨a, k', m2, e, hr, hm, hN⟩ := items_all hE mark hp hb item list hs hbi hin m rest k op L h (by omega)
   exact ⟨a, k', m2, e, hr, by omega, hN⟩
theorem note_all {n : Nat} {st : List Txt} {k : Nat} {op : Int} (hE : TokA toks) {t : TokD} (ht : toks[k]? = some t) (h : Runs toks n (tSTR :: st) k op) : ∃ p m, noteF toks k = some (p, k + 1) ∧ n = m + 1 ∧ Runs toks m st (k + 1) op := by
 obtain ⟨m, rfl, hf, hn, hl, h⟩ := h.t0 hE ht
 unfold noteF
 rw [ht, Option.map_some, if_pos (kind_str hf)]
 exact ⟨_, m, rfl, rfl, h⟩
theorem note_none {k : Nat} {t : TokD} (ht : toks[k]? = some t) (hf : fitsF tSTR t = false) : noteF toks k = some (noteZ, k) := by
 unfold noteF
 have : ((t.kind == 6) || (t.kind == 7)) = false := hf
 simp at this
 rw [ht, Option.map_some, if_neg (by omega)]
theorem input0 (hE : TokA toks) (L : Nat) (hL : toks.length ≤ L) {n : Nat} {rest : List Txt} {k k0 : Nat} {op : Int} {f : Nat} {p : NoteD} (hn0 : noteF toks k0 = some (p, k)) (hk0 : k0 ≤ k) (h : Runs toks n (nVALUE0 :: rest) k op) (h0 : 0 ≤ op) (h1 : op ≤ 200) (h2 : 200 < op + f) :
  Got toks n rest op k0 inputN (inputF toks L f k0) := by
 obtain ⟨m, t, rfl, ht, hA⟩ := in_VALUE0 h
 rcases hA with ⟨hF, h⟩ | ⟨_, h⟩
 · obtain ⟨m1, rfl, hf, hn, hl, h⟩ := h.t0 hE ht
   obtain ⟨t1, ht1⟩ := h.tok
   have hW1 := hE.wf _ t1 ht1
   obtain ⟨m2, rfl, hf1, hn1, hl1, h⟩ := h.t0 hE ht1
   obtain ⟨r, k', m3, e, hr, hm, hN, hlen⟩ := typ_all hE _ _ (k + 1 + 1) op f h h0 h1 h2
   obtain ⟨m4, t3, rfl, ht3, hA⟩ := in_DEFAULT hr
   have hW3 := hE.wf _ t3 ht3
   unfold inputF
   rw [hn0, Option.bind_some, ht, Option.bind_some, hn, ht1, Option.bind_some, if_pos (by rw [is_mark hW1 (by decide)]; exact hf1), e, Option.bind_some, ht3, Option.bind_some]
   rcases hA with ⟨hF, h⟩ | ⟨hF, h⟩
   · obtain ⟨m5, rfl, hf3, hn3, hl3, h⟩ := h.t0 hE ht3
     rw [if_pos (by rw [is_mark hW3 (by decide)]; exact hf3)]
     obtain ⟨a, k2, m6, e2, hr2, hm2, hN2⟩ := (lit_all hE L hL _).1 _ _ op f h h1 h2
     rw [e2, Option.bind_some]
     obtain ⟨b, k3, m7, e3, hr3, hm3, hN3⟩ := dirsF_all hE L hL hr2 h1 h2 (by omega)
     rw [e3, Option.bind_some]
     exact ⟨_, _, m7, rfl, hr3, by omega, by simp only [inputN]; omega⟩
   · have h : Runs toks m4 (nDIRS :: rest) k' op := by rcases h with ⟨_, h⟩ | ⟨_, h⟩ <;> exact h
     rw [if_neg (by rw [is_mark hW3 (by decide), not_in hF (by decide +kernel)]; decide), Option.bind_some]
     obtain ⟨b, k3, m7, e3, hr3, hm3, hN3⟩ := dirsF_all hE L hL h h1 h2 (by omega)
     rw [e3, Option.bind_some]
     have hz : litN litZ = 1 := rfl
     exact ⟨_, _, m7, rfl, hr3, by omega, by simp only [inputN, hz]; omega⟩
 · exact h.elim
theorem input_all (hE : TokA toks) (L : Nat) (hL : toks.length ≤ L) {n : Nat} {rest : List Txt} {k : Nat} {op : Int} {f : Nat} (h : Runs toks n (nVALUE :: rest) k op) (h0 : 0 ≤ op) (h1 : op ≤ 200) (h2 : 200 < op + f) :
  Got toks n rest op k inputN (inputF toks L f k) := by
 obtain ⟨m, t, rfl, ht, hA⟩ := in_VALUE h
 rcases hA with ⟨hF, h⟩ | ⟨hF, ⟨hF2, h⟩ | ⟨_, h⟩⟩
 · obtain ⟨p, m1, e, em, h'⟩ := note_all hE ht h
   subst em
   obtain ⟨a, k2, m6, e2, hr2, hm2, hN2⟩ := input0 hE L hL e (by omega) h' h0 h1 h2
   exact ⟨a, k2, m6, e2, hr2, by omega, hN2⟩
 · obtain ⟨a, k2, m6, e2, hr2, hm2, hN2⟩ := input0 hE L hL (note_none ht (not_in hF (by decide +kernel))) (Nat.le_refl _) h h0 h1 h2
   exact ⟨a, k2, m6, e2, hr2, by omega, hN2⟩
 · exact h.elim
theorem inputs_all (hE : TokA toks) (L : Nat) (hL : toks.length ≤ L) (cl : UInt8) (hc : cl = 41 ∨ cl = 125) : ∀ n,
  (∀ (rest : List Txt) (k : Nat) (op : Int) (f fu : Nat), Runs toks n (nVALUEL :: [cl] :: rest) k op → 0 ≤ op → op ≤ 200 → 200 < op + f → toks.length < fu + k → Got toks n rest (op - 1) k (fun l => sumN inputN l + 1) (inputsGo toks [cl] L f fu k)) ∧
  (∀ (rest : List Txt) (k : Nat) (op : Int) (f fu : Nat), Runs toks n (nVALUE :: nVALUEL :: [cl] :: rest) k op → 0 ≤ op → op ≤ 200 → 200 < op + f → toks.length < fu + k → Got toks n rest (op - 1) k (fun l => sumN inputN l + 1) (inputsGo toks [cl] L f fu k)) := by
 intro n
 induction n using Nat.strongRecOn with
 | _ n ih =>
  refine ⟨fun rest k op f fu h h0 h1 h2 h3 => ?_, fun rest k op f fu h h0 h1 h2 h3 => ?_⟩
  · obtain ⟨m, t, rfl, ht, hA⟩ := in_VALUEL h
    have hlt : k < toks.length := (List.getElem?_eq_some_iff.1 ht).1
    have hW := hE.wf k t ht
    rcases hA with ⟨hF, h⟩ | ⟨hF, h⟩
    · obtain ⟨a, k', m1, e, hr, hm, hN⟩ := (ih m (by omega)).2 rest k op f fu h h0 h1 h2 h3
      exact ⟨a, k', m1, e, hr, by omega, hN⟩
    · have h : Runs toks m ([cl] :: rest) k op := by rcases h with ⟨_, h⟩ | ⟨_, h⟩ <;> exact h
      obtain ⟨fu, rfl⟩ : ∃ g, fu = g + 1 := ⟨fu - 1, by omega⟩
      rw [inputsGo, ht, Option.bind_some]
      obtain ⟨m', rfl, hf, hn, hl, h⟩ := h.tclose hE ht (by rcases hc with rfl | rfl <;> decide +kernel) (by rcases hc with rfl | rfl <;> decide +kernel)
      rw [if_pos (by rw [is_mark hW (by rcases hc with rfl | rfl <;> decide)]; exact hf)]
      exact ⟨_, _, m', rfl, h, by omega, by simp [sumN]; omega⟩
  · obtain ⟨t, ht⟩ := h.tok
    have hlt : k < toks.length := (List.getElem?_eq_some_iff.1 ht).1
    have hW := hE.wf k t ht
    have hno : isF t [cl] = false := by
     obtain ⟨m, t', _, ht', hA⟩ := in_VALUE h
     rw [ht] at ht'
     injection ht' with ht'
     subst ht'
     rcases hA with ⟨hF, _⟩ | ⟨_, ⟨hF, _⟩ | ⟨_, h⟩⟩
     · exact no_mark hW (by rcases hc with rfl | rfl <;> decide) hF (by rcases hc with rfl | rfl <;> decide +kernel)
     · exact no_mark hW (by rcases hc with rfl | rfl <;> decide) hF (by rcases hc with rfl | rfl <;> decide +kernel)
     · exact h.elim
    obtain ⟨fu, rfl⟩ : ∃ g, fu = g + 1 := ⟨fu - 1, by omega⟩
    rw [inputsGo, ht, Option.bind_some, if_neg (by rw [hno]; decide)]
    obtain ⟨a, k', m3, e, hr, hm, hN⟩ := input_all hE L hL h h0 h1 h2
    rw [e, Option.bind_some]
    have hp := inputN_pos a
    obtain ⟨b, k2, m4, e2, hr2, hm2, hN2⟩ := (ih m3 (by omega)).1 rest k' op f fu hr h0 h1 h2 (by omega)
    rw [e2, Option.bind_some]
    exact ⟨_, _, m4, rfl, hr2, by omega, by simp only [sumN] at hN2 ⊢; omega⟩
theorem inputsF_all (hE : TokA toks) (L : Nat) (hL : toks.length ≤ L) {n : Nat} {rest : List Txt} {k : Nat} {op : Int} {f : Nat} (h : Runs toks n (nINPUTS :: rest) k op) (h0 : 0 ≤ op) (h1 : op ≤ 200) (h2 : 200 < op + f) : Got toks n rest op k (sumN inputN) (inputsF toks [40] [41] L f k) := by
 obtain ⟨m, t, rfl, ht, hA⟩ := in_INPUTS h
 have hlt : k < toks.length := (List.getElem?_eq_some_iff.1 ht).1
 have hW := hE.wf k t ht
 unfold inputsF
 rw [ht, Option.bind_some]
 rcases hA with ⟨hF, h⟩ | ⟨hF, h⟩
 · obtain ⟨m1, rfl, hf, hn, hl, hop, h⟩ := h.topen hE ht
   rw [if_pos (by rw [is_mark hW (by decide)]; exact hf)]
   obtain ⟨a, k', m2, e, hr, hm, hN⟩ := (inputs_all hE L hL 41 (.inl rfl) m1).2 rest (k + 1) (op + 1) f L h (by omega) (by omega) (by omega) (by omega)
   rw [Int.add_sub_cancel] at hr
   exact ⟨a, k', m2, e, hr, by omega, by (try simp only at hN ⊢); omega⟩
 · have h : Runs toks m rest k op := by rcases h with ⟨_, h⟩ | ⟨_, h⟩ <;> exact h
   rw [if_neg (by rw [is_mark hW (by decide), not_in hF (by decide +kernel)]; decide)]
   exact ⟨_, _, m, rfl, h, by omega, by simp [sumN]⟩
theorem blanks1_all (hE : TokA toks) (L : Nat) (hL : toks.length ≤ L) {n : Nat} {rest : List Txt} {k : Nat} {op : Int} {f : Nat} (h : Runs toks n (nBLANKS1 :: rest) k op) (h0 : 0 ≤ op) (h1 : op ≤ 200) (h2 : 200 < op + f) : Got toks n rest op k (sumN inputN) (inputsF toks [123] [125] L f k) := by
 obtain ⟨m, t, rfl, ht, hA⟩ := in_BLANKS1 h
 have hlt : k < toks.length := (List.getElem?_eq_some_iff.1 ht).1
 have hW := hE.wf k t ht
 unfold inputsF
 rw [ht, Option.bind_some]
 rcases hA with ⟨hF, h⟩ | ⟨hF, h⟩
 · obtain ⟨m1, rfl, hf, hn, hl, hop, h⟩ := h.topen hE ht
   rw [if_pos (by rw [is_mark hW (by decide)]; exact hf)]
   obtain ⟨a, k', m2, e, hr, hm, hN⟩ := (inputs_all hE L hL 125 (.inr rfl) m1).2 rest (k + 1) (op + 1) f L h (by omega) (by omega) (by omega) (by omega)
   rw [Int.add_sub_cancel] at hr
   exact ⟨a, k', m2, e, hr, by omega, by (try simp only at hN ⊢); omega⟩
 · exact h.elim
theorem blanks_all (hE : TokA toks) (L : Nat) (hL : toks.length ≤ L) {n : Nat} {rest : List Txt} {k : Nat} {op : Int} {f : Nat} (h : Runs toks n (nBLANKS :: rest) k op) (h0 : 0 ≤ op) (h1 : op ≤ 200) (h2 : 200 < op + f) : Got toks n rest op k (sumN inputN) (inputsF toks [123] [125] L f k) := by
 obtain ⟨m, t, rfl, ht, hA⟩ := in_BLANKS h
 have hW := hE.wf k t ht
 rcases hA with ⟨hF, h⟩ | ⟨hF, h⟩
 · obtain ⟨a, k', m2, e, hr, hm, hN⟩ := blanks1_all hE L hL h h0 h1 h2
   exact ⟨a, k', m2, e, hr, by omega, by (try simp only at hN ⊢); omega⟩
 · have h : Runs toks m rest k op := by rcases h with ⟨_, h⟩ | ⟨_, h⟩ <;> exact h
   unfold inputsF
   rw [ht, Option.bind_some, if_neg (by rw [is_mark hW (by decide), not_in hF (by decide +kernel)]; decide)]
   exact ⟨_, _, m, rfl, h, by omega, by simp [sumN]⟩
end
end Go.Proofs.YtbpgkkoeehopjaaGreat.acr
