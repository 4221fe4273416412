/- Part 11 of 17 of a proof: see the last part. -/
import Derived.Test.YtbpgkkoeehopjaaGreatP5
import Derived.Test.YtbpgkkoeehopjaaGreatP6
import Derived.Test.YtbpgkkoeehopjaaGreatP8
import Derived.Test.YtbpgkkoeehopjaaGreatP9
import Derived.Test.YtbpgkkoeehopjaaGreatP10
import Derived.Laws.StructEq
set_option linter.unusedVariables false
set_option linter.unusedSimpArgs false
namespace Go.Proofs.YtbpgkkoeehopjaaGreat.acr
open Go.Proofs.YtbpgkkoeehopjaaGreat.tree Go.Proofs.YtbpgkkoeehopjaaGreat.gram Go.Proofs.YtbpgkkoeehopjaaGreat.rd Go.Proofs.YtbpgkkoeehopjaaGreat.dat Go.Proofs.YtbpgkkoeehopjaaGreat.lex
set_option maxRecDepth 100000
section
variable {toks : List TokD}
theorem field0 (hE : TokA toks) (L : Nat) (hL : toks.length ≤ L) {n : Nat} {rest : List Txt} {k k0 : Nat} {op : Int} {f : Nat} {p : NoteD} (hn0 : noteF toks k0 = some (p, k)) (hk0 : k0 ≤ k) (h : Runs toks n (nFIELD0 :: rest) k op) (h0 : 0 ≤ op) (h1 : op ≤ 200) (h2 : 200 < op + f) :
  Got toks n rest op k0 fieldN (fieldF toks L f k0) := by
 obtain ⟨m, t, rfl, ht, hA⟩ := in_FIELD0 h
 rcases hA with ⟨hF, h⟩ | ⟨_, h⟩
 · obtain ⟨m1, rfl, hf, hn, hl, h⟩ := h.t0 hE ht
   obtain ⟨a, k1, m2, e1, hr, hm1, hN1⟩ := inputsF_all hE L hL h h0 h1 h2
   obtain ⟨t2, ht2⟩ := hr.tok
   have hW2 := hE.wf _ t2 ht2
   obtain ⟨m3, rfl, hf2, hn2, hl2, h⟩ := hr.t0 hE ht2
   obtain ⟨r, k', m4, e, hr, hm, hN, hlen⟩ := typ_all hE _ _ (k1 + 1) op f h h0 h1 h2
   obtain ⟨b, k3, m7, e3, hr3, hm3, hN3⟩ := dirsF_all hE L hL hr h1 h2 (by omega)
   unfold fieldF
   rw [hn0, Option.bind_some, ht, Option.bind_some, hn, e1, Option.bind_some, ht2, Option.bind_some, if_pos (by rw [is_mark hW2 (by decide)]; exact hf2), e, Option.bind_some, e3, Option.bind_some]
   exact ⟨_, _, m7, rfl, hr3, by omega, by simp only [fieldN]; omega⟩
 · exact h.elim
theorem field_all (hE : TokA toks) (L : Nat) (hL : toks.length ≤ L) {n : Nat} {rest : List Txt} {k : Nat} {op : Int} {f : Nat} (h : Runs toks n (nFIELD :: rest) k op) (h0 : 0 ≤ op) (h1 : op ≤ 200) (h2 : 200 < op + f) :
  Got toks n rest op k fieldN (fieldF toks L f k) := by
 obtain ⟨m, t, rfl, ht, hA⟩ := in_FIELD h
 rcases hA with ⟨hF, h⟩ | ⟨hF, ⟨hF2, h⟩ | ⟨_, h⟩⟩
 · obtain ⟨p, m1, e, em, h'⟩ := note_all hE ht h
   subst em
   obtain ⟨a, k2, m6, e2, hr2, hm2, hN2⟩ := field0 hE L hL e (by omega) h' h0 h1 h2
   exact ⟨a, k2, m6, e2, hr2, by omega, hN2⟩
 · obtain ⟨a, k2, m6, e2, hr2, hm2, hN2⟩ := field0 hE L hL (note_none ht (not_in hF (by decide +kernel))) (Nat.le_refl _) h h0 h1 h2
   exact ⟨a, k2, m6, e2, hr2, by omega, hN2⟩
 · exact h.elim
theorem value0 (hE : TokA toks) (L : Nat) (hL : toks.length ≤ L) {n : Nat} {rest : List Txt} {k k0 : Nat} {op : Int} {f : Nat} {p : NoteD} (hn0 : noteF toks k0 = some (p, k)) (hk0 : k0 ≤ k) (h : Runs toks n (nCASE0 :: rest) k op) (h1 : op ≤ 200) (h2 : 200 < op + f) :
  Got toks n rest op k0 valueN (valueF toks L f k0) := by
 obtain ⟨m, t, rfl, ht, hA⟩ := in_CASE0 h
 rcases hA with ⟨hF, h⟩ | ⟨_, h⟩
 · obtain ⟨m1, rfl, hf, hn, hl, h⟩ := h.t0 hE ht
   obtain ⟨b, k3, m7, e3, hr3, hm3, hN3⟩ := dirsF_all hE L hL h h1 h2 (by omega)
   unfold valueF
   rw [hn0, Option.bind_some, ht, Option.bind_some, hn, e3, Option.bind_some]
   exact ⟨_, _, m7, rfl, hr3, by omega, by simp only [valueN]; omega⟩
 · exact h.elim
theorem value_all (hE : TokA toks) (L : Nat) (hL : toks.length ≤ L) {n : Nat} {rest : List Txt} {k : Nat} {op : Int} {f : Nat} (h : Runs toks n (nCASE :: rest) k op) (h1 : op ≤ 200) (h2 : 200 < op + f) :
  Got toks n rest op k valueN (valueF toks L f k) := by
 obtain ⟨m, t, rfl, ht, hA⟩ := in_CASE h
 rcases hA with ⟨hF, h⟩ | ⟨hF, ⟨hF2, h⟩ | ⟨_, h⟩⟩
 · obtain ⟨p, m1, e, em, h'⟩ := note_all hE ht h
   subst em
   obtain ⟨a, k2, m6, e2, hr2, hm2, hN2⟩ := value0 hE L hL e (by omega) h' h1 h2
   exact ⟨a, k2, m6, e2, hr2, by omega, hN2⟩
 · obtain ⟨a, k2, m6, e2, hr2, hm2, hN2⟩ := value0 hE L hL (note_none ht (not_in hF (by decide +kernel))) (Nat.le_refl _) h h1 h2
   exact ⟨a, k2, m6, e2, hr2, by omega, hN2⟩
 · exact h.elim
theorem root_all (hE : TokA toks) {n : Nat} {rest : List Txt} {k : Nat} {op : Int} (h : Runs toks n (nROOT :: rest) k op) : Got toks n rest op k (fun _ => 1) (rootF toks k) := by
 obtain ⟨m, t, rfl, ht, hA⟩ := in_ROOT h
 rcases hA with ⟨hF, h⟩ | ⟨_, h⟩
 · obtain ⟨m1, rfl, hf, hn, hl, h⟩ := h.t0 hE ht
   obtain ⟨t1, ht1⟩ := h.tok
   have hW1 := hE.wf _ t1 ht1
   obtain ⟨m2, rfl, hf1, hn1, hl1, h⟩ := h.t0 hE ht1
   obtain ⟨t2, ht2⟩ := h.tok
   obtain ⟨m3, rfl, hf2, hn2, hl2, h⟩ := h.t0 hE ht2
   have hs : fitsF tSTR t = false := by
    have : ((t.kind == 3) && amongF t.text wordsRoot) = true := hf
    simp only [Bool.and_eq_true, beq_iff_eq] at this
    show ((t.kind == 6) || (t.kind == 7)) = false
    rw [this.1]; rfl
   unfold rootF
   rw [note_none ht hs, Option.bind_some, ht, Option.bind_some]
   simp only
   rw [hn, ht1, Option.bind_some, if_pos (by rw [is_mark hW1 (by decide)]; exact hf1), ht2, Option.bind_some, hn2]
   exact ⟨_, _, m3, rfl, h, by omega, by show 1 + k ≤ _; omega⟩
 · exact h.elim
theorem parts_all {α : Type} (hE : TokA toks) (L : Nat) (hL : toks.length ≤ L) (item list : Txt) (e : Nat → Option (α × Nat)) (N : α → Nat) (hN : ∀ a, 0 < N a) (op : Int) (hop : op ≤ 199)
  (hitem : ∀ (n : Nat) (rest : List Txt) (k : Nat), Runs toks n (item :: rest) k (op + 1) → Got toks n rest (op + 1) k N (e k))
  (hno : ∀ (n : Nat) (rest : List Txt) (k : Nat) (op : Int) (t : TokD), Runs toks n (item :: rest) k op → toks[k]? = some t → isF t [125] = false)
  (hin : ∀ (n : Nat) (rest : List Txt) (k : Nat) (op : Int), Runs toks n (list :: rest) k op → ∃ m t, n = m + 1 ∧ toks[k]? = some t ∧ (Runs toks m (item :: list :: rest) k op ∨ Runs toks m rest k op)) : ∀ n,
  (∀ (rest : List Txt) (k fu : Nat), Runs toks n (list :: [125] :: rest) k (op + 1) → toks.length < fu + k → Got toks n rest op k (fun l => sumN N l + 1) (partsGo toks e fu k)) ∧
  (∀ (rest : List Txt) (k fu : Nat), Runs toks n (item :: list :: [125] :: rest) k (op + 1) → toks.length < fu + k → Got toks n rest op k (fun l => sumN N l + 1) (partsGo toks e fu k)) := by
 intro n
 induction n using Nat.strongRecOn with
 | _ n ih =>
  refine ⟨fun rest k fu h h3 => ?_, fun rest k fu h h3 => ?_⟩
  · obtain ⟨m, t, rfl, ht, hA⟩ := hin _ _ _ _ h
    have hlt : k < toks.length := (List.getElem?_eq_some_iff.1 ht).1
    have hW := hE.wf k t ht
    rcases hA with h | h
    · obtain ⟨a, k', m1, e', hr, hm, hN⟩ := (ih m (by omega)).2 rest k fu h h3
      exact ⟨a, k', m1, e', hr, by omega, hN⟩
    · obtain ⟨fu, rfl⟩ : ∃ g, fu = g + 1 := ⟨fu - 1, by omega⟩
      rw [partsGo, ht, Option.bind_some]
      obtain ⟨m', rfl, hf, hn, hl, h⟩ := h.tclose hE ht
      rw [if_pos (by rw [is_mark hW (by decide)]; exact hf)]
      rw [Int.add_sub_cancel] at h
      exact ⟨_, _, m', rfl, h, by omega, by simp [sumN]; omega⟩
  · obtain ⟨t, ht⟩ := h.tok
    have hlt : k < toks.length := (List.getElem?_eq_some_iff.1 ht).1
    obtain ⟨fu, rfl⟩ : ∃ g, fu = g + 1 := ⟨fu - 1, by omega⟩
    rw [partsGo, ht, Option.bind_some, if_neg (by rw [hno _ _ _ _ _ h ht]; decide)]
    obtain ⟨a, k', m3, e1, hr, hm, hN1⟩ := hitem _ _ _ h
    rw [e1, Option.bind_some]
    have hp := hN a
    obtain ⟨b, k2, m4, e2, hr2, hm2, hN2⟩ := (ih m3 (by omega)).1 rest k' fu hr (by omega)
    rw [e2, Option.bind_some]
    exact ⟨_, _, m4, rfl, hr2, by omega, by simp only [sumN] at hN2 ⊢; omega⟩
theorem partsF_all {α : Type} (hE : TokA toks) (L : Nat) (hL : toks.length ≤ L) (item list : Txt) (e : Nat → Option (α × Nat)) (N : α → Nat) (hN : ∀ a, 0 < N a) (op : Int)
  (hitem : op ≤ 199 → ∀ (n : Nat) (rest : List Txt) (k : Nat), Runs toks n (item :: rest) k (op + 1) → Got toks n rest (op + 1) k N (e k))
  (hno : ∀ (n : Nat) (rest : List Txt) (k : Nat) (op : Int) (t : TokD), Runs toks n (item :: rest) k op → toks[k]? = some t → isF t [125] = false)
  (hin : ∀ (n : Nat) (rest : List Txt) (k : Nat) (op : Int), Runs toks n (list :: rest) k op → ∃ m t, n = m + 1 ∧ toks[k]? = some t ∧ (Runs toks m (item :: list :: rest) k op ∨ Runs toks m rest k op))
  {n : Nat} {rest : List Txt} {k : Nat} (h : Runs toks n ([123] :: item :: list :: [125] :: rest) k op) : Got toks n rest op k (fun l => sumN N l) (partsF toks e L k) := by
 obtain ⟨t, ht⟩ := h.tok
 have hlt : k < toks.length := (List.getElem?_eq_some_iff.1 ht).1
 have hW := hE.wf k t ht
 obtain ⟨m1, rfl, hf, hn, hl, hop, h⟩ := h.topen hE ht
 unfold partsF
 rw [ht, Option.bind_some, if_pos (by rw [is_mark hW (by decide)]; exact hf)]
 obtain ⟨a, k', m2, e1, hr, hm, hN1⟩ := (parts_all hE L hL item list e N hN op (by omega) (hitem (by omega)) hno hin m1).2 rest (k + 1) L h (by omega)
 exact ⟨a, k', m2, e1, hr, by omega, by simp only at hN1 ⊢; omega⟩
theorem parts_no {α : Type} (hE : TokA toks) (e : Nat → Option (α × Nat)) (L : Nat) {k : Nat} {t : TokD} (ht : toks[k]? = some t) (hf : fitsF [123] t = false) : partsF toks e L k = some ([], k) := by
 unfold partsF
 rw [ht, Option.bind_some, if_neg (by rw [is_mark (hE.wf k t ht) (by decide), hf]; decide)]
theorem no_close (hE : TokA toks) {k : Nat} {t : TokD} {F : List Txt} (ht : toks[k]? = some t) (hF : fits F t = true) (hn : F.contains [125] = false) : isF t [125] = false := no_mark (hE.wf k t ht) (by decide) hF hn
theorem fields1_all (hE : TokA toks) (L : Nat) (hL : toks.length ≤ L) {n : Nat} {rest : List Txt} {k : Nat} {op : Int} {f : Nat} (h : Runs toks n (nFIELDS1 :: rest) k op) (h0 : 0 ≤ op) (h2 : 200 < op + f) : Got toks n rest op k (sumN fieldN) (partsF toks (fieldF toks L f) L k) := by
 obtain ⟨m, t, rfl, ht, hA⟩ := in_FIELDS1 h
 rcases hA with ⟨hF, h⟩ | ⟨_, h⟩
 · obtain ⟨a, k', m1, e, hr, hm, hN⟩ := partsF_all hE L hL nFIELD nFIELDL (fieldF toks L f) fieldN fieldN_pos op (fun ho n rest k h => field_all hE L hL h (by omega) (by omega) (by omega))
    (fun n rest k op t h ht => by
      obtain ⟨m, t', _, ht', hA⟩ := in_FIELD h
      rw [ht] at ht'; injection ht' with ht'; subst ht'
      rcases hA with ⟨hF, _⟩ | ⟨_, ⟨hF, _⟩ | ⟨_, h⟩⟩
      · exact no_close hE ht hF (by decide +kernel)
      · exact no_close hE ht hF (by decide +kernel)
      · exact h.elim)
    (fun n rest k op h => by
      obtain ⟨m, t, rfl, ht, hA⟩ := in_FIELDL h
      rcases hA with ⟨_, h⟩ | ⟨_, ⟨_, h⟩ | ⟨_, h⟩⟩
      · exact ⟨m, t, rfl, ht, .inl h⟩
      · exact ⟨m, t, rfl, ht, .inr h⟩
      · exact ⟨m, t, rfl, ht, .inr h⟩) h
   exact ⟨a, k', m1, e, hr, by omega, hN⟩
 · exact h.elim
theorem fields_all (hE : TokA toks) (L : Nat) (hL : toks.length ≤ L) {n : Nat} {rest : List Txt} {k : Nat} {op : Int} {f : Nat} (h : Runs toks n (nFIELDS :: rest) k op) (h0 : 0 ≤ op) (h2 : 200 < op + f) : Got toks n rest op k (sumN fieldN) (partsF toks (fieldF toks L f) L k) := by
 obtain ⟨m, t, rfl, ht, hA⟩ := in_FIELDS h
 rcases hA with ⟨hF, h⟩ | ⟨hF, h⟩
 · obtain ⟨a, k', m1, e, hr, hm, hN⟩ := fields1_all hE L hL h h0 h2
   exact ⟨a, k', m1, e, hr, by omega, hN⟩
 · have h : Runs toks m rest k op := by rcases h with ⟨_, h⟩ | ⟨_, h⟩ <;> exact h
   rw [parts_no hE _ L ht (not_in hF (by decide +kernel))]
   exact ⟨_, _, m, rfl, h, by omega, by simp [sumN]⟩
theorem cases1_all (hE : TokA toks) (L : Nat) (hL : toks.length ≤ L) {n : Nat} {rest : List Txt} {k : Nat} {op : Int} {f : Nat} (h : Runs toks n (nCASES1 :: rest) k op) (h0 : 0 ≤ op) (h2 : 200 < op + f) : Got toks n rest op k (sumN valueN) (partsF toks (valueF toks L f) L k) := by
 obtain ⟨m, t, rfl, ht, hA⟩ := in_CASES1 h
 rcases hA with ⟨hF, h⟩ | ⟨_, h⟩
 · obtain ⟨a, k', m1, e, hr, hm, hN⟩ := partsF_all hE L hL nCASE nCASEL (valueF toks L f) valueN (fun d => Nat.succ_pos _) op (fun ho n rest k h => value_all hE L hL h (by omega) (by omega))
    (fun n rest k op t h ht => by
      obtain ⟨m, t', _, ht', hA⟩ := in_CASE h
      rw [ht] at ht'; injection ht' with ht'; subst ht'
      rcases hA with ⟨hF, _⟩ | ⟨_, ⟨hF, _⟩ | ⟨_, h⟩⟩
      · exact no_close hE ht hF (by decide +kernel)
      · exact no_close hE ht hF (by decide +kernel)
      · exact h.elim)
    (fun n rest k op h => by
      obtain ⟨m, t, rfl, ht, hA⟩ := in_CASEL h
      rcases hA with ⟨_, h⟩ | ⟨_, ⟨_, h⟩ | ⟨_, h⟩⟩
      · exact ⟨m, t, rfl, ht, .inl h⟩
      · exact ⟨m, t, rfl, ht, .inr h⟩
      · exact ⟨m, t, rfl, ht, .inr h⟩) h
   exact ⟨a, k', m1, e, hr, by omega, hN⟩
 · exact h.elim
theorem cases_all (hE : TokA toks) (L : Nat) (hL : toks.length ≤ L) {n : Nat} {rest : List Txt} {k : Nat} {op : Int} {f : Nat} (h : Runs toks n (nCASES :: rest) k op) (h0 : 0 ≤ op) (h2 : 200 < op + f) : Got toks n rest op k (sumN valueN) (partsF toks (valueF toks L f) L k) := by
 obtain ⟨m, t, rfl, ht, hA⟩ := in_CASES h
 rcases hA with ⟨hF, h⟩ | ⟨hF, h⟩
 · obtain ⟨a, k', m1, e, hr, hm, hN⟩ := cases1_all hE L hL h h0 h2
   exact ⟨a, k', m1, e, hr, by omega, hN⟩
 · have h : Runs toks m rest k op := by rcases h with ⟨_, h⟩ | ⟨_, h⟩ <;> exact h
   rw [parts_no hE _ L ht (not_in hF (by decide +kernel))]
   exact ⟨_, _, m, rfl, h, by omega, by simp [sumN]⟩
theorem sum_one {α : Type} : ∀ l : List α, sumN (fun _ => 1) l = l.length
 | [] => rfl
 | _ :: r => by simp only [sumN, sum_one r, List.length_cons]; omega
theorem roots_all (hE : TokA toks) (L : Nat) (hL : toks.length ≤ L) {n : Nat} {rest : List Txt} {k : Nat} {op : Int} (h : Runs toks n (nROOTS :: rest) k op) (h0 : 0 ≤ op) : Got toks n rest op k (fun l => l.length) (partsF toks (rootF toks) L k) := by
 obtain ⟨m, t, rfl, ht, hA⟩ := in_ROOTS h
 rcases hA with ⟨hF, h⟩ | ⟨_, h⟩
 · obtain ⟨a, k', m1, e, hr, hm, hN⟩ := partsF_all hE L hL nROOT nROOTL (rootF toks) (fun _ => 1) (fun _ => Nat.one_pos) op (fun ho n rest k h => root_all hE h)
    (fun n rest k op t h ht => by
      obtain ⟨m, t', _, ht', hA⟩ := in_ROOT h
      rw [ht] at ht'; injection ht' with ht'; subst ht'
      rcases hA with ⟨hF, _⟩ | ⟨_, h⟩
      · exact no_close hE ht hF (by decide +kernel)
      · exact h.elim)
    (fun n rest k op h => by
      obtain ⟨m, t, rfl, ht, hA⟩ := in_ROOTL h
      rcases hA with ⟨_, h⟩ | ⟨_, ⟨_, h⟩ | ⟨_, h⟩⟩
      · exact ⟨m, t, rfl, ht, .inl h⟩
      · exact ⟨m, t, rfl, ht, .inr h⟩
      · exact ⟨m, t, rfl, ht, .inr h⟩) h
   exact ⟨a, k', m1, e, hr, by omega, by simp only at hN; rw [sum_one] at hN; exact hN⟩
 · exact h.elim
theorem roots0_all (hE : TokA toks) (L : Nat) (hL : toks.length ≤ L) {n : Nat} {rest : List Txt} {k : Nat} {op : Int} (h : Runs toks n (nROOTS0 :: rest) k op) (h0 : 0 ≤ op) : Got toks n rest op k (fun l => l.length) (partsF toks (rootF toks) L k) := by
 obtain ⟨m, t, rfl, ht, hA⟩ := in_ROOTS0 h
 rcases hA with ⟨hF, h⟩ | ⟨hF, h⟩
 · obtain ⟨a, k', m1, e, hr, hm, hN⟩ := roots_all hE L hL h h0
   exact ⟨a, k', m1, e, hr, by omega, hN⟩
 · have h : Runs toks m rest k op := by rcases h with ⟨_, h⟩ | ⟨_, h⟩ <;> exact h
   rw [parts_no hE _ L ht (not_in hF (by decide +kernel))]
   exact ⟨_, _, m, rfl, h, by omega, by simp⟩
theorem dirs_no (hE : TokA toks) (L f : Nat) (hL : 0 < L) {k : Nat} {t : TokD} (ht : toks[k]? = some t) {F : List Txt} (hF : fits F t = true) (hn : F.contains [64] = false) : dirsF toks L f k = some ([], k) := by
 obtain ⟨fu, rfl⟩ : ∃ g, L = g + 1 := ⟨L - 1, by omega⟩
 unfold dirsF
 rw [dirsGo, ht, Option.bind_some, if_neg (by rw [no_mark (hE.wf k t ht) (by decide) hF hn]; decide)]
theorem kind_name' {t : TokD} (h : fitsF [46, 112, 108, 97, 99, 101] t = true) : t.kind = 3 := by
 have : ((t.kind == 3) && amongF t.text wordsPlace) = true := h
 simp only [Bool.and_eq_true, beq_iff_eq] at this
 exact this.1
theorem ifaces1_all (hE : TokA toks) (L : Nat) (hL : toks.length ≤ L) {n : Nat} {rest : List Txt} {k : Nat} {op : Int} (h : Runs toks n (nIFACES1 :: rest) k op) : Got toks n rest op k (fun l => l.length) (optF toks [105, 109, 112, 108, 101, 109, 101, 110, 116, 115] [38] L k) := by
 obtain ⟨m, t, rfl, ht, hA⟩ := in_IFACES1 h
 have hW := hE.wf _ t ht
 rcases hA with ⟨hF, h⟩ | ⟨_, h⟩
 · obtain ⟨m1, rfl, hf, hn, hl, h⟩ := h.t0 hE ht
   unfold optF
   rw [ht, Option.bind_some, if_pos (by rw [is_word hW (by decide)]; exact hf)]
   obtain ⟨a, k', m2, e, hr, hm, hN⟩ := listed_all hE 38 (by decide) (by decide +kernel) tNAME nIFACEL nAMP (by decide +kernel) (by decide +kernel) (fun t h => kind_name h) in_IFACEL in_AMP L hL (by omega) h
   exact ⟨a, k', m2, e, hr, by omega, by simp only at hN ⊢; omega⟩
 · exact h.elim
theorem ifaces_no (hE : TokA toks) (L : Nat) {k : Nat} {t : TokD} (ht : toks[k]? = some t) (hf : fitsF [39, 105, 109, 112, 108, 101, 109, 101, 110, 116, 115] t = false) : optF toks [105, 109, 112, 108, 101, 109, 101, 110, 116, 115] [38] L k = some ([], k) := by
 unfold optF
 rw [ht, Option.bind_some, if_neg (by rw [is_word (hE.wf k t ht) (by decide), hf]; decide)]
theorem ifaces_all (hE : TokA toks) (L : Nat) (hL : toks.length ≤ L) {n : Nat} {rest : List Txt} {k : Nat} {op : Int} (h : Runs toks n (nIFACES :: rest) k op) : Got toks n rest op k (fun l => l.length) (optF toks [105, 109, 112, 108, 101, 109, 101, 110, 116, 115] [38] L k) := by
 obtain ⟨m, t, rfl, ht, hA⟩ := in_IFACES h
 rcases hA with ⟨hF, h⟩ | ⟨hF, h⟩
 · obtain ⟨a, k', m2, e, hr, hm, hN⟩ := ifaces1_all hE L hL h
   exact ⟨a, k', m2, e, hr, by omega, hN⟩
 · have h : Runs toks m rest k op := by rcases h with ⟨_, h⟩ | ⟨_, h⟩ <;> exact h
   rw [ifaces_no hE L ht (not_in hF (by decide +kernel))]
   exact ⟨_, _, m, rfl, h, by omega, by simp⟩
theorem members1_all (hE : TokA toks) (L : Nat) (hL : toks.length ≤ L) {n : Nat} {rest : List Txt} {k : Nat} {op : Int} (h : Runs toks n (nMEMBERS1 :: rest) k op) : Got toks n rest op k (fun l => l.length) (optF toks [61] [124] L k) := by
 obtain ⟨m, t, rfl, ht, hA⟩ := in_MEMBERS1 h
 have hW := hE.wf _ t ht
 rcases hA with ⟨hF, h⟩ | ⟨_, h⟩
 · obtain ⟨m1, rfl, hf, hn, hl, h⟩ := h.t0 hE ht
   unfold optF
   rw [ht, Option.bind_some, if_pos (by rw [is_mark hW (by decide)]; exact hf)]
   obtain ⟨a, k', m2, e, hr, hm, hN⟩ := listed_all hE 124 (by decide) (by decide +kernel) tNAME nMEMBERL nBAR (by decide +kernel) (by decide +kernel) (fun t h => kind_name h) in_MEMBERL in_BAR L hL (by omega) h
   exact ⟨a, k', m2, e, hr, by omega, by simp only at hN ⊢; omega⟩
 · exact h.elim
theorem members_all (hE : TokA toks) (L : Nat) (hL : toks.length ≤ L) {n : Nat} {rest : List Txt} {k : Nat} {op : Int} (h : Runs toks n (nMEMBERS :: rest) k op) : Got toks n rest op k (fun l => l.length) (optF toks [61] [124] L k) := by
 obtain ⟨m, t, rfl, ht, hA⟩ := in_MEMBERS h
 rcases hA with ⟨hF, h⟩ | ⟨hF, h⟩
 · obtain ⟨a, k', m2, e, hr, hm, hN⟩ := members1_all hE L hL h
   exact ⟨a, k', m2, e, hr, by omega, hN⟩
 · have h : Runs toks m rest k op := by rcases h with ⟨_, h⟩ | ⟨_, h⟩ <;> exact h
   unfold optF
   rw [ht, Option.bind_some, if_neg (by rw [is_mark (hE.wf k t ht) (by decide), not_in hF (by decide +kernel)]; decide)]
   exact ⟨_, _, m, rfl, h, by omega, by simp⟩
section body
variable (hE : TokA toks) (L : Nat) (hL : toks.length ≤ L) (f : Nat) (h2 : 200 < f) (hd : NoteD × Bool × TokD × Nat) {k0 : Nat} (hk0 : k0 + 1 ≤ hd.2.2.2)
include hE hL h2 hk0
theorem schema_of {n : Nat} {st : List Txt} {rest : List Txt} (h : Runs toks n (st ++ rest) hd.2.2.2 0) (hst : st = [nDIRS, nROOTS] ∨ st = [nDIR, nDIRS, nROOTS0] ∨ st = [nROOTS]) : Got toks n rest 0 k0 defN (schemaF toks L f hd) := by
 unfold schemaF
 have fin : ∀ n k1 ds, Got toks n rest 0 k1 (fun l => l.length) (partsF toks (rootF toks) L k1) → dirsF toks L f hd.2.2.2 = some (ds, k1) → sumN dirN ds + hd.2.2.2 ≤ k1 → Got toks n rest 0 k0 defN ((dirsF toks L f hd.2.2.2).bind fun d => (partsF toks (rootF toks) L d.2).bind fun r => some ((⟨1, hd.2.1, hd.1, [], [], d.1, [], [], [], [], r.1, false, [], hd.2.2.1.line, hd.2.2.1.col⟩ : DefD), r.2)) := by
  rintro n k1 ds ⟨a, k', m1, e, hr, hm, hN⟩ hds hsz
  rw [hds, Option.bind_some, e, Option.bind_some]
  exact ⟨_, _, m1, rfl, hr, hm, by simp only [defN, sumN, List.length_nil] at hN ⊢; omega⟩
 rcases hst with rfl | rfl | rfl
 · obtain ⟨a, k', m1, e, hr, hm, hN⟩ := dirsF_all hE L hL h (by omega) (by omega : 200 < (0 : Int) + (f : Nat)) (by omega : 0 < hd.2.2.2)
   have hg := roots_all hE L hL hr (Int.le_refl _)
   obtain ⟨x, y, z, g1, g2, g3, g4⟩ := fin _ _ _ hg e hN
   exact ⟨x, y, z, g1, g2, by omega, g4⟩
 · obtain ⟨a, k', m1, e, hr, hm, hN⟩ := dirF_all hE L hL h (by omega) (by omega : 200 < (0 : Int) + (f : Nat)) (by omega : 0 < hd.2.2.2)
   have hg := roots0_all hE L hL hr (Int.le_refl _)
   obtain ⟨x, y, z, g1, g2, g3, g4⟩ := fin _ _ _ hg e hN
   exact ⟨x, y, z, g1, g2, by omega, g4⟩
 · have hg := roots_all hE L hL h (Int.le_refl _)
   obtain ⟨m, t, _, ht, hA⟩ := in_ROOTS h
   rcases hA with ⟨hF, _⟩ | ⟨_, hA⟩
   · have hlt := (List.getElem?_eq_some_iff.1 ht).1
     exact fin _ _ _ hg (dirs_no hE L f (by omega) ht hF (by decide +kernel)) (by simp [sumN])
   · exact hA.elim
theorem scalar_of {n : Nat} {st : List Txt} {rest : List Txt} (h : Runs toks n (tNAME :: (st ++ rest)) hd.2.2.2 0) (hst : st = [nDIRS] ∨ st = [nDIR, nDIRS]) : Got toks n rest 0 k0 defN (scalarF toks L f hd) := by
 obtain ⟨t, ht⟩ := h.tok
 obtain ⟨m1, rfl, hf, hn, hl, h⟩ := h.t0 hE ht
 unfold scalarF
 rw [ht, Option.bind_some, hn]
 have hg : Got toks m1 rest 0 (hd.2.2.2 + 1) (sumN dirN) (dirsF toks L f (hd.2.2.2 + 1)) := by
  rcases hst with rfl | rfl
  · exact dirsF_all hE L hL h (by omega) (by omega) (by omega)
  · exact dirF_all hE L hL h (by omega) (by omega) (by omega)
 obtain ⟨a, k', m2, e, hr, hm, hN⟩ := hg
 rw [e, Option.bind_some]
 exact ⟨_, _, m2, rfl, hr, by omega, by simp only [defN, sumN, List.length_nil] at hN ⊢; omega⟩
theorem object_of (kind : Int) {n : Nat} {st : List Txt} {rest : List Txt} (h : Runs toks n (tNAME :: (st ++ rest)) hd.2.2.2 0) (hst : st = [nIFACES, nDIRS, nFIELDS] ∨ st = [nXOBJECT]) : Got toks n rest 0 k0 defN (objectF kind toks L f hd) := by
 obtain ⟨t, ht⟩ := h.tok
 obtain ⟨m1, rfl, hf, hn, hl, h⟩ := h.t0 hE ht
 have hg : ∃ is k1 ds k2, optF toks [105, 109, 112, 108, 101, 109, 101, 110, 116, 115] [38] L (hd.2.2.2 + 1) = some (is, k1) ∧ dirsF toks L f k1 = some (ds, k2) ∧ is.length + (hd.2.2.2 + 1) ≤ k1 ∧ sumN dirN ds + k1 ≤ k2 ∧ Got toks m1 rest 0 k2 (sumN fieldN) (partsF toks (fieldF toks L f) L k2) := by
  rcases hst with rfl | rfl
  · obtain ⟨a, k1, m2, e, hr, hm, hN⟩ := ifaces_all hE L hL h
    obtain ⟨b, k2, m3, e2, hr2, hm2, hN2⟩ := dirsF_all hE L hL hr (by omega) (by omega : 200 < (0 : Int) + (f : Nat)) (by omega)
    obtain ⟨x, y, z, g1, g2, g3, g4⟩ := fields_all hE L hL hr2 (Int.le_refl _) (by omega : 200 < (0 : Int) + (f : Nat))
    exact ⟨a, k1, b, k2, e, e2, hN, hN2, x, y, z, g1, g2, by omega, g4⟩
  · obtain ⟨m2, t2, rfl, ht2, hA⟩ := in_XOBJECT h
    rcases hA with ⟨hF, h⟩ | ⟨hF0, ⟨hF, h⟩ | ⟨_, ⟨hF, h⟩ | ⟨_, hA⟩⟩⟩
    · obtain ⟨a, k1, m2, e, hr, hm, hN⟩ := ifaces1_all hE L hL h
      obtain ⟨b, k2, m3, e2, hr2, hm2, hN2⟩ := dirsF_all hE L hL hr (by omega) (by omega : 200 < (0 : Int) + (f : Nat)) (by omega)
      obtain ⟨x, y, z, g1, g2, g3, g4⟩ := fields_all hE L hL hr2 (Int.le_refl _) (by omega : 200 < (0 : Int) + (f : Nat))
      exact ⟨a, k1, b, k2, e, e2, hN, hN2, x, y, z, g1, g2, by omega, g4⟩
    · obtain ⟨b, k2, m3, e2, hr2, hm2, hN2⟩ := dirF_all hE L hL h (by omega) (by omega : 200 < (0 : Int) + (f : Nat)) (by omega)
      obtain ⟨x, y, z, g1, g2, g3, g4⟩ := fields_all hE L hL hr2 (Int.le_refl _) (by omega : 200 < (0 : Int) + (f : Nat))
      exact ⟨[], _, b, k2, ifaces_no hE L ht2 (not_in hF0 (by decide +kernel)), e2, by simp, hN2, x, y, z, g1, g2, by omega, g4⟩
    · obtain ⟨x, y, z, g1, g2, g3, g4⟩ := fields1_all hE L hL h (Int.le_refl _) (by omega : 200 < (0 : Int) + (f : Nat))
      exact ⟨[], _, [], _, ifaces_no hE L ht2 (not_in hF0 (by decide +kernel)), dirs_no hE L f (by omega) ht2 hF (by decide +kernel), by simp, by simp [sumN], x, y, z, g1, g2, by omega, g4⟩
    · exact hA.elim
 obtain ⟨is, k1, ds, k2, e1, e2, hN1, hN2, a, k', m2, e, hr, hm, hN⟩ := hg
 unfold objectF
 rw [ht, Option.bind_some, hn, e1, Option.bind_some, e2, Option.bind_some, e, Option.bind_some]
 exact ⟨_, _, m2, rfl, hr, by omega, by simp only [defN, sumN, List.length_nil] at hN ⊢; omega⟩
theorem union_of {n : Nat} {st : List Txt} {rest : List Txt} (h : Runs toks n (tNAME :: (st ++ rest)) hd.2.2.2 0) (hst : st = [nDIRS, nMEMBERS] ∨ st = [nXUNION]) : Got toks n rest 0 k0 defN (unionF toks L f hd) := by
 obtain ⟨t, ht⟩ := h.tok
 obtain ⟨m1, rfl, hf, hn, hl, h⟩ := h.t0 hE ht
 have hg : ∃ ds k2, dirsF toks L f (hd.2.2.2 + 1) = some (ds, k2) ∧ sumN dirN ds + (hd.2.2.2 + 1) ≤ k2 ∧ Got toks m1 rest 0 k2 (fun l => l.length) (optF toks [61] [124] L k2) := by
  rcases hst with rfl | rfl
  · obtain ⟨b, k2, m3, e2, hr2, hm2, hN2⟩ := dirsF_all hE L hL h (by omega) (by omega : 200 < (0 : Int) + (f : Nat)) (by omega)
    obtain ⟨x, y, z, g1, g2, g3, g4⟩ := members_all hE L hL hr2
    exact ⟨b, k2, e2, hN2, x, y, z, g1, g2, by omega, g4⟩
  · obtain ⟨m2, t2, rfl, ht2, hA⟩ := in_XUNION h
    rcases hA with ⟨hF, h⟩ | ⟨_, ⟨hF, h⟩ | ⟨_, hA⟩⟩
    · obtain ⟨b, k2, m3, e2, hr2, hm2, hN2⟩ := dirF_all hE L hL h (by omega) (by omega : 200 < (0 : Int) + (f : Nat)) (by omega)
      obtain ⟨x, y, z, g1, g2, g3, g4⟩ := members_all hE L hL hr2
      exact ⟨b, k2, e2, hN2, x, y, z, g1, g2, by omega, g4⟩
    · obtain ⟨x, y, z, g1, g2, g3, g4⟩ := members1_all hE L hL h
      exact ⟨[], _, dirs_no hE L f (by omega) ht2 hF (by decide +kernel), by simp [sumN], x, y, z, g1, g2, by omega, g4⟩
    · exact hA.elim
 obtain ⟨ds, k2, e2, hN2, a, k', m2, e, hr, hm, hN⟩ := hg
 unfold unionF
 rw [ht, Option.bind_some, hn, e2, Option.bind_some, e, Option.bind_some]
 exact ⟨_, _, m2, rfl, hr, by omega, by simp only [defN, sumN, List.length_nil] at hN ⊢; omega⟩
theorem enum_of {n : Nat} {st : List Txt} {rest : List Txt} (h : Runs toks n (tNAME :: (st ++ rest)) hd.2.2.2 0) (hst : st = [nDIRS, nCASES] ∨ st = [nXENUM]) : Got toks n rest 0 k0 defN (enumF toks L f hd) := by
 obtain ⟨t, ht⟩ := h.tok
 obtain ⟨m1, rfl, hf, hn, hl, h⟩ := h.t0 hE ht
 have hg : ∃ ds k2, dirsF toks L f (hd.2.2.2 + 1) = some (ds, k2) ∧ sumN dirN ds + (hd.2.2.2 + 1) ≤ k2 ∧ Got toks m1 rest 0 k2 (sumN valueN) (partsF toks (valueF toks L f) L k2) := by
  rcases hst with rfl | rfl
  · obtain ⟨b, k2, m3, e2, hr2, hm2, hN2⟩ := dirsF_all hE L hL h (by omega) (by omega : 200 < (0 : Int) + (f : Nat)) (by omega)
    obtain ⟨x, y, z, g1, g2, g3, g4⟩ := cases_all hE L hL hr2 (Int.le_refl _) (by omega : 200 < (0 : Int) + (f : Nat))
    exact ⟨b, k2, e2, hN2, x, y, z, g1, g2, by omega, g4⟩
  · obtain ⟨m2, t2, rfl, ht2, hA⟩ := in_XENUM h
    rcases hA with ⟨hF, h⟩ | ⟨_, ⟨hF, h⟩ | ⟨_, hA⟩⟩
    · obtain ⟨b, k2, m3, e2, hr2, hm2, hN2⟩ := dirF_all hE L hL h (by omega) (by omega : 200 < (0 : Int) + (f : Nat)) (by omega)
      obtain ⟨x, y, z, g1, g2, g3, g4⟩ := cases_all hE L hL hr2 (Int.le_refl _) (by omega : 200 < (0 : Int) + (f : Nat))
      exact ⟨b, k2, e2, hN2, x, y, z, g1, g2, by omega, g4⟩
    · obtain ⟨x, y, z, g1, g2, g3, g4⟩ := cases1_all hE L hL h (Int.le_refl _) (by omega : 200 < (0 : Int) + (f : Nat))
      exact ⟨[], _, dirs_no hE L f (by omega) ht2 hF (by decide +kernel), by simp [sumN], x, y, z, g1, g2, by omega, g4⟩
    · exact hA.elim
 obtain ⟨ds, k2, e2, hN2, a, k', m2, e, hr, hm, hN⟩ := hg
 unfold enumF
 rw [ht, Option.bind_some, hn, e2, Option.bind_some, e, Option.bind_some]
 exact ⟨_, _, m2, rfl, hr, by omega, by simp only [defN, sumN, List.length_nil] at hN ⊢; omega⟩
theorem inDef_of {n : Nat} {st : List Txt} {rest : List Txt} (h : Runs toks n (tNAME :: (st ++ rest)) hd.2.2.2 0) (hst : st = [nDIRS, nBLANKS] ∨ st = [nXINPUT]) : Got toks n rest 0 k0 defN (inDefF toks L f hd) := by
 obtain ⟨t, ht⟩ := h.tok
 obtain ⟨m1, rfl, hf, hn, hl, h⟩ := h.t0 hE ht
 have hg : ∃ ds k2, dirsF toks L f (hd.2.2.2 + 1) = some (ds, k2) ∧ sumN dirN ds + (hd.2.2.2 + 1) ≤ k2 ∧ Got toks m1 rest 0 k2 (sumN inputN) (inputsF toks [123] [125] L f k2) := by
  rcases hst with rfl | rfl
  · obtain ⟨b, k2, m3, e2, hr2, hm2, hN2⟩ := dirsF_all hE L hL h (by omega) (by omega : 200 < (0 : Int) + (f : Nat)) (by omega)
    obtain ⟨x, y, z, g1, g2, g3, g4⟩ := blanks_all hE L hL hr2 (Int.le_refl _) (by omega) (by omega : 200 < (0 : Int) + (f : Nat))
    exact ⟨b, k2, e2, hN2, x, y, z, g1, g2, by omega, g4⟩
  · obtain ⟨m2, t2, rfl, ht2, hA⟩ := in_XINPUT h
    rcases hA with ⟨hF, h⟩ | ⟨_, ⟨hF, h⟩ | ⟨_, hA⟩⟩
    · obtain ⟨b, k2, m3, e2, hr2, hm2, hN2⟩ := dirF_all hE L hL h (by omega) (by omega : 200 < (0 : Int) + (f : Nat)) (by omega)
      obtain ⟨x, y, z, g1, g2, g3, g4⟩ := blanks_all hE L hL hr2 (Int.le_refl _) (by omega) (by omega : 200 < (0 : Int) + (f : Nat))
      exact ⟨b, k2, e2, hN2, x, y, z, g1, g2, by omega, g4⟩
    · obtain ⟨x, y, z, g1, g2, g3, g4⟩ := blanks1_all hE L hL h (Int.le_refl _) (by omega) (by omega : 200 < (0 : Int) + (f : Nat))
      exact ⟨[], _, dirs_no hE L f (by omega) ht2 hF (by decide +kernel), by simp [sumN], x, y, z, g1, g2, by omega, g4⟩
    · exact hA.elim
 obtain ⟨ds, k2, e2, hN2, a, k', m2, e, hr, hm, hN⟩ := hg
 unfold inDefF
 rw [ht, Option.bind_some, hn, e2, Option.bind_some, e, Option.bind_some]
 exact ⟨_, _, m2, rfl, hr, by omega, by simp only [defN, sumN, List.length_nil] at hN ⊢; omega⟩
theorem dir_of {n : Nat} {rest : List Txt} (h : Runs toks n ([64] :: tNAME :: nINPUTS :: nREPEAT :: [39, 111, 110] :: nBAR :: [46, 112, 108, 97, 99, 101] :: nPLACES :: rest) hd.2.2.2 0) : Got toks n rest 0 k0 defN (dirF toks L f hd) := by
 obtain ⟨t, ht⟩ := h.tok
 have hW := hE.wf _ t ht
 obtain ⟨m1, rfl, hf, hn, hl, h⟩ := h.t0 hE ht
 obtain ⟨t3, ht3⟩ := h.tok
 obtain ⟨m2, rfl, hf3, hn3, hl3, h⟩ := h.t0 hE ht3
 obtain ⟨a, k1, m3, e1, hr, hm1, hN1⟩ := inputsF_all hE L hL h (Int.le_refl _) (by omega) (by omega : 200 < (0 : Int) + (f : Nat))
 have hrep : ∃ k2 m4 t5, toks[k1]? = some t5 ∧ (if isF t5 [114, 101, 112, 101, 97, 116, 97, 98, 108, 101] = true then k1 + 1 else k1) = k2 ∧ k1 ≤ k2 ∧ m4 < m3 ∧ Runs toks m4 ([39, 111, 110] :: nBAR :: [46, 112, 108, 97, 99, 101] :: nPLACES :: rest) k2 0 := by
  obtain ⟨m4, t5, rfl, ht5, hA⟩ := in_REPEAT hr
  have hW5 := hE.wf _ t5 ht5
  rcases hA with ⟨hF, h⟩ | ⟨hF, h⟩
  · obtain ⟨m5, rfl, hf5, hn5, hl5, h⟩ := h.t0 hE ht5
    exact ⟨k1 + 1, m5, t5, ht5, if_pos (by rw [is_word hW5 (by decide)]; exact hf5), by omega, by omega, h⟩
  · have h : Runs toks m4 ([39, 111, 110] :: nBAR :: [46, 112, 108, 97, 99, 101] :: nPLACES :: rest) k1 0 := by rcases h with ⟨_, h⟩ | ⟨_, h⟩ <;> exact h
    exact ⟨k1, m4, t5, ht5, if_neg (by rw [is_word hW5 (by decide), not_in hF (by decide +kernel)]; decide), by omega, by omega, h⟩
 obtain ⟨k2, m4, t5, ht5, hk2, hle, hm4, h⟩ := hrep
 obtain ⟨t6, ht6⟩ := h.tok
 have hW6 := hE.wf _ t6 ht6
 obtain ⟨m5, rfl, hf6, hn6, hl6, h⟩ := h.t0 hE ht6
 obtain ⟨b, k3, m6, e2, hr2, hm2, hN2⟩ := listed_all hE 124 (by decide) (by decide +kernel) [46, 112, 108, 97, 99, 101] nPLACES nBAR (by decide +kernel) (by decide +kernel) (fun t h => kind_name' h) in_PLACES in_BAR L hL (by omega) h
 unfold dirF
 rw [ht, Option.bind_some, if_pos (by rw [is_mark hW (by decide)]; exact hf), ht3, Option.bind_some, hn3, e1, Option.bind_some, ht5, Option.bind_some, hk2, ht6, Option.bind_some, if_pos (by rw [is_word hW6 (by decide)]; exact hf6), e2, Option.bind_some]
 exact ⟨_, _, m6, rfl, hr2, by omega, by simp only [defN, sumN, List.length_nil] at hN1 hN2 ⊢; omega⟩
end body
end
section
variable {toks : List TokD} (hE : TokA toks) (L : Nat) (hL : toks.length ≤ L) (f : Nat) (h2 : 200 < f)
theorem kw {t : TokD} {w : Txt} (hw : ∀ t, fitsF (39 :: w) t = ((t.kind == 3) && decide (t.text = w))) (h : fitsF (39 :: w) t = true) : t.text = w := by
 rw [hw] at h
 simp only [Bool.and_eq_true, decide_eq_true_eq] at h
 exact h.2
theorem not_ext {t : TokD} {w : Txt} (h : t.text = w) (hw : w ≠ [101, 120, 116, 101, 110, 100]) : isF t [101, 120, 116, 101, 110, 100] = false := by
 unfold isF
 rw [h, decide_eq_false hw]
 rfl
theorem body_1 {h : NoteD × Bool × TokD × Nat} (hk : h.2.2.1.text = [115, 99, 104, 101, 109, 97]) : bodyF toks L f h = schemaF toks L f h := by
 have e : kindF [115, 99, 104, 101, 109, 97] = 1 := by decide +kernel
 unfold bodyF; rw [hk, e]; rfl
theorem body_2 {h : NoteD × Bool × TokD × Nat} (hk : h.2.2.1.text = [115, 99, 97, 108, 97, 114]) : bodyF toks L f h = scalarF toks L f h := by
 have e : kindF [115, 99, 97, 108, 97, 114] = 2 := by decide +kernel
 unfold bodyF; rw [hk, e]; rfl
theorem body_3 {h : NoteD × Bool × TokD × Nat} (hk : h.2.2.1.text = [116, 121, 112, 101]) : bodyF toks L f h = objectF 3 toks L f h := by
 have e : kindF [116, 121, 112, 101] = 3 := by decide +kernel
 unfold bodyF; rw [hk, e]; rfl
theorem body_4 {h : NoteD × Bool × TokD × Nat} (hk : h.2.2.1.text = [105, 110, 116, 101, 114, 102, 97, 99, 101]) : bodyF toks L f h = objectF 4 toks L f h := by
 have e : kindF [105, 110, 116, 101, 114, 102, 97, 99, 101] = 4 := by decide +kernel
 unfold bodyF; rw [hk, e]; rfl
theorem body_5 {h : NoteD × Bool × TokD × Nat} (hk : h.2.2.1.text = [117, 110, 105, 111, 110]) : bodyF toks L f h = unionF toks L f h := by
 have e : kindF [117, 110, 105, 111, 110] = 5 := by decide +kernel
 unfold bodyF; rw [hk, e]; rfl
theorem body_6 {h : NoteD × Bool × TokD × Nat} (hk : h.2.2.1.text = [101, 110, 117, 109]) : bodyF toks L f h = enumF toks L f h := by
 have e : kindF [101, 110, 117, 109] = 6 := by decide +kernel
 unfold bodyF; rw [hk, e]; rfl
theorem body_7 {h : NoteD × Bool × TokD × Nat} (hk : h.2.2.1.text = [105, 110, 112, 117, 116]) : bodyF toks L f h = inDefF toks L f h := by
 have e : kindF [105, 110, 112, 117, 116] = 7 := by decide +kernel
 unfold bodyF; rw [hk, e]; rfl
theorem body_8 {h : NoteD × Bool × TokD × Nat} (hk : h.2.2.1.text = [100, 105, 114, 101, 99, 116, 105, 118, 101]) : bodyF toks L f h = dirF toks L f h := by
 have e : kindF [100, 105, 114, 101, 99, 116, 105, 118, 101] = 8 := by decide +kernel
 unfold bodyF; rw [hk, e]; rfl
theorem Got.weak {α : Type} {n n' : Nat} {rest : List Txt} {op : Int} {k : Nat} {N : α → Nat} {x : Option (α × Nat)} (h : Got toks n rest op k N x) (hn : n ≤ n') : Got toks n' rest op k N x := by
 obtain ⟨a, b, c, h1, h2, h3, h4⟩ := h
 exact ⟨a, b, c, h1, h2, by omega, h4⟩
include hE hL h2
theorem body_all {n : Nat} {rest : List Txt} {k k0 : Nat} {t : TokD} (ht : toks[k]? = some t) (hk0 : k0 ≤ k) (note : NoteD) (ext : Bool) (h : Runs toks n (nBODY :: rest) k 0) :
  Got toks n rest 0 k0 defN (bodyF toks L f (note, ext, t, k + 1)) ∧ isF t [101, 120, 116, 101, 110, 100] = false ∧ nextK toks.length k = k + 1 ∧ t.kind = 3 := by
 obtain ⟨m, t', rfl, ht', hA⟩ := in_BODY h
 rw [ht] at ht'; injection ht' with ht'; subst ht'
 have hk3 : ∀ w, (∀ t, fitsF (39 :: w) t = ((t.kind == 3) && decide (t.text = w))) → fitsF (39 :: w) t = true → t.kind = 3 := fun w hw h => by
  rw [hw] at h
  simp only [Bool.and_eq_true, beq_iff_eq] at h
  exact h.1
 rcases hA with ⟨_, h⟩ | ⟨_, ⟨_, h⟩ | ⟨_, ⟨_, h⟩ | ⟨_, ⟨_, h⟩ | ⟨_, ⟨_, h⟩ | ⟨_, ⟨_, h⟩ | ⟨_, ⟨_, h⟩ | ⟨_, ⟨_, h⟩ | ⟨_, h⟩⟩⟩⟩⟩⟩⟩⟩
 · obtain ⟨m1, rfl, hf, hn, hl, h⟩ := h.t0 hE ht
   have hx := kw (fun t => rfl) hf
   rw [body_1 L f hx]
   exact ⟨(schema_of hE L hL f h2 (note, ext, t, k + 1) (by simp only; omega) (st := [nDIRS, nROOTS]) h (.inl rfl)).weak (by omega), not_ext hx (by decide), hn, hk3 _ (fun t => rfl) hf⟩
 · obtain ⟨m1, rfl, hf, hn, hl, h⟩ := h.t0 hE ht
   have hx := kw (fun t => rfl) hf
   rw [body_2 L f hx]
   exact ⟨(scalar_of hE L hL f h2 (note, ext, t, k + 1) (by simp only; omega) (st := [nDIRS]) h (.inl rfl)).weak (by omega), not_ext hx (by decide), hn, hk3 _ (fun t => rfl) hf⟩
 · obtain ⟨m1, rfl, hf, hn, hl, h⟩ := h.t0 hE ht
   have hx := kw (fun t => rfl) hf
   rw [body_3 L f hx]
   exact ⟨(object_of hE L hL f h2 (note, ext, t, k + 1) (by simp only; omega) 3 (st := [nIFACES, nDIRS, nFIELDS]) h (.inl rfl)).weak (by omega), not_ext hx (by decide), hn, hk3 _ (fun t => rfl) hf⟩
 · obtain ⟨m1, rfl, hf, hn, hl, h⟩ := h.t0 hE ht
   have hx := kw (fun t => rfl) hf
   rw [body_4 L f hx]
   exact ⟨(object_of hE L hL f h2 (note, ext, t, k + 1) (by simp only; omega) 4 (st := [nIFACES, nDIRS, nFIELDS]) h (.inl rfl)).weak (by omega), not_ext hx (by decide), hn, hk3 _ (fun t => rfl) hf⟩
 · obtain ⟨m1, rfl, hf, hn, hl, h⟩ := h.t0 hE ht
   have hx := kw (fun t => rfl) hf
   rw [body_5 L f hx]
   exact ⟨(union_of hE L hL f h2 (note, ext, t, k + 1) (by simp only; omega) (st := [nDIRS, nMEMBERS]) h (.inl rfl)).weak (by omega), not_ext hx (by decide), hn, hk3 _ (fun t => rfl) hf⟩
 · obtain ⟨m1, rfl, hf, hn, hl, h⟩ := h.t0 hE ht
   have hx := kw (fun t => rfl) hf
   rw [body_6 L f hx]
   exact ⟨(enum_of hE L hL f h2 (note, ext, t, k + 1) (by simp only; omega) (st := [nDIRS, nCASES]) h (.inl rfl)).weak (by omega), not_ext hx (by decide), hn, hk3 _ (fun t => rfl) hf⟩
 · obtain ⟨m1, rfl, hf, hn, hl, h⟩ := h.t0 hE ht
   have hx := kw (fun t => rfl) hf
   rw [body_7 L f hx]
   exact ⟨(inDef_of hE L hL f h2 (note, ext, t, k + 1) (by simp only; omega) (st := [nDIRS, nBLANKS]) h (.inl rfl)).weak (by omega), not_ext hx (by decide), hn, hk3 _ (fun t => rfl) hf⟩
 · obtain ⟨m1, rfl, hf, hn, hl, h⟩ := h.t0 hE ht
   have hx := kw (fun t => rfl) hf
   rw [body_8 L f hx]
   exact ⟨(dir_of hE L hL f h2 (note, ext, t, k + 1) (by simp only; omega) h).weak (by omega), not_ext hx (by decide), hn, hk3 _ (fun t => rfl) hf⟩
 · exact h.elim
theorem xbody_all {n : Nat} {rest : List Txt} {k k0 : Nat} {t : TokD} (ht : toks[k]? = some t) (hk0 : k0 ≤ k) (note : NoteD) (ext : Bool) (h : Runs toks n (nXBODY :: rest) k 0) :
  Got toks n rest 0 k0 defN (bodyF toks L f (note, ext, t, k + 1)) ∧ nextK toks.length k = k + 1 := by
 obtain ⟨m, t', rfl, ht', hA⟩ := in_XBODY h
 rw [ht] at ht'; injection ht' with ht'; subst ht'
 rcases hA with ⟨_, h⟩ | ⟨_, ⟨_, h⟩ | ⟨_, ⟨_, h⟩ | ⟨_, ⟨_, h⟩ | ⟨_, ⟨_, h⟩ | ⟨_, ⟨_, h⟩ | ⟨_, ⟨_, h⟩ | ⟨_, h⟩⟩⟩⟩⟩⟩⟩
 · obtain ⟨m1, rfl, hf, hn, hl, h⟩ := h.t0 hE ht
   have hx := kw (fun t => rfl) hf
   rw [body_1 L f hx]
   obtain ⟨m2, t2, rfl, ht2, hA⟩ := in_XSCHEMA h
   rcases hA with ⟨_, h⟩ | ⟨_, ⟨_, h⟩ | ⟨_, h⟩⟩
   · exact ⟨(schema_of hE L hL f h2 (note, ext, t, k + 1) (by simp only; omega) (st := [nDIR, nDIRS, nROOTS0]) h (.inr (.inl rfl))).weak (by omega), hn⟩
   · exact ⟨(schema_of hE L hL f h2 (note, ext, t, k + 1) (by simp only; omega) (st := [nROOTS]) h (.inr (.inr rfl))).weak (by omega), hn⟩
   · exact h.elim
 · obtain ⟨m1, rfl, hf, hn, hl, h⟩ := h.t0 hE ht
   have hx := kw (fun t => rfl) hf
   rw [body_2 L f hx]
   exact ⟨(scalar_of hE L hL f h2 (note, ext, t, k + 1) (by simp only; omega) (st := [nDIR, nDIRS]) h (.inr rfl)).weak (by omega), hn⟩
 · obtain ⟨m1, rfl, hf, hn, hl, h⟩ := h.t0 hE ht
   have hx := kw (fun t => rfl) hf
   rw [body_3 L f hx]
   exact ⟨(object_of hE L hL f h2 (note, ext, t, k + 1) (by simp only; omega) 3 (st := [nXOBJECT]) h (.inr rfl)).weak (by omega), hn⟩
 · obtain ⟨m1, rfl, hf, hn, hl, h⟩ := h.t0 hE ht
   have hx := kw (fun t => rfl) hf
   rw [body_4 L f hx]
   exact ⟨(object_of hE L hL f h2 (note, ext, t, k + 1) (by simp only; omega) 4 (st := [nXOBJECT]) h (.inr rfl)).weak (by omega), hn⟩
 · obtain ⟨m1, rfl, hf, hn, hl, h⟩ := h.t0 hE ht
   have hx := kw (fun t => rfl) hf
   rw [body_5 L f hx]
   exact ⟨(union_of hE L hL f h2 (note, ext, t, k + 1) (by simp only; omega) (st := [nXUNION]) h (.inr rfl)).weak (by omega), hn⟩
 · obtain ⟨m1, rfl, hf, hn, hl, h⟩ := h.t0 hE ht
   have hx := kw (fun t => rfl) hf
   rw [body_6 L f hx]
   exact ⟨(enum_of hE L hL f h2 (note, ext, t, k + 1) (by simp only; omega) (st := [nXENUM]) h (.inr rfl)).weak (by omega), hn⟩
 · obtain ⟨m1, rfl, hf, hn, hl, h⟩ := h.t0 hE ht
   have hx := kw (fun t => rfl) hf
   rw [body_7 L f hx]
   exact ⟨(inDef_of hE L hL f h2 (note, ext, t, k + 1) (by simp only; omega) (st := [nXINPUT]) h (.inr rfl)).weak (by omega), hn⟩
 · exact h.elim
theorem def_all {n : Nat} {rest : List Txt} {k : Nat} (h : Runs toks n (nDEF :: rest) k 0) : Got toks n rest 0 k defN (defF toks L f k) ∧ ∃ t, toks[k]? = some t ∧ t.kind ≠ 0 := by
 obtain ⟨m, t, rfl, ht, hA⟩ := in_DEF h
 have hW := hE.wf _ t ht
 unfold defF headF
 rcases hA with ⟨hF, h⟩ | ⟨hF0, ⟨hF, h⟩ | ⟨_, ⟨hF, h⟩ | ⟨_, h⟩⟩⟩
 · have hk := fits_not_end hF (by decide)
   obtain ⟨p, m1, e, em, h'⟩ := note_all hE ht h
   subst em
   replace h := h'
   obtain ⟨t0, ht0⟩ := h.tok
   obtain ⟨hg, hx, hn, _⟩ := body_all hE L hL f h2 ht0 (by omega : k ≤ k + 1) p false h
   rw [e, Option.bind_some, ht0, Option.bind_some, hx]
   simp only [Bool.false_eq_true, if_false]
   rw [ht0, Option.bind_some, hn, Option.bind_some]
   first | exact ⟨hg.weak (by omega), t, ht, hk⟩ | exact ⟨hg.weak (by omega), t, rfl, hk⟩
 · have hk := fits_not_end hF (by decide)
   obtain ⟨hg, hx, hn, _⟩ := body_all hE L hL f h2 ht (Nat.le_refl k) noteZ false h
   rw [note_none ht (not_in hF0 (by decide +kernel)), Option.bind_some, ht, Option.bind_some, hx]
   simp only [Bool.false_eq_true, if_false]
   rw [ht, Option.bind_some, hn, Option.bind_some]
   first | exact ⟨hg.weak (by omega), t, ht, hk⟩ | exact ⟨hg.weak (by omega), t, rfl, hk⟩
 · have hk := fits_not_end hF (by decide)
   obtain ⟨m1, rfl, hf, hn, hl, h⟩ := h.t0 hE ht
   obtain ⟨t1, ht1⟩ := h.tok
   obtain ⟨hg, hn1⟩ := xbody_all hE L hL f h2 ht1 (by omega : k ≤ k + 1) noteZ true h
   have hx : isF t [101, 120, 116, 101, 110, 100] = true := by rw [is_word hW (by decide)]; exact hf
   rw [note_none ht (not_in hF0 (by decide +kernel)), Option.bind_some, ht, Option.bind_some, hx]
   simp only [if_true]
   rw [ht1, Option.bind_some, hn1, Option.bind_some]
   first | exact ⟨hg.weak (by omega), t, ht, hk⟩ | exact ⟨hg.weak (by omega), t, rfl, hk⟩
 · exact h.elim
theorem defs_all : ∀ n,
  (∀ (k fu : Nat), Runs toks n [nDEFS, endT] k 0 → toks.length < fu + k → ∃ defs, defsGo toks L f fu k = some defs ∧ defsN defs + k ≤ toks.length) ∧
  (∀ (k fu : Nat), Runs toks n [nDEF, nDEFS, endT] k 0 → toks.length < fu + k → ∃ defs, defsGo toks L f fu k = some defs ∧ defsN defs + k ≤ toks.length) := by
 intro n
 induction n using Nat.strongRecOn with
 | _ n ih =>
  refine ⟨fun k fu h h3 => ?_, fun k fu h h3 => ?_⟩
  · obtain ⟨m, t, rfl, ht, hA⟩ := in_DEFS h
    have hlt : k < toks.length := (List.getElem?_eq_some_iff.1 ht).1
    rcases hA with ⟨hF, h⟩ | ⟨hF, h⟩
    · exact (ih m (by omega)).2 k fu h h3
    · have h : Runs toks m [endT] k 0 := by rcases h with ⟨_, h⟩ | ⟨_, h⟩ <;> exact h
      obtain ⟨fu, rfl⟩ : ∃ g, fu = g + 1 := ⟨fu - 1, by omega⟩
      have h0 : t.kind = 0 := by
       unfold Runs at h
       cases m with
       | zero => cases h
       | succ m =>
        rw [runF, ht] at h
        simp only at h
        rw [if_neg (by decide), if_neg (by decide)] at h
        cases hf : fitsF endT t with
        | false => rw [hf, if_pos rfl] at h; simp at h
        | true => have : (t.kind == 0) = true := hf; simpa using this
      rw [defsGo, ht, Option.bind_some, if_pos h0]
      exact ⟨[], rfl, by simp only [defsN, sumN]; omega⟩
  · obtain ⟨⟨a, k', m, e, hr, hm, hN⟩, t, ht, hk⟩ := def_all hE L hL f h2 h
    have hlt : k < toks.length := (List.getElem?_eq_some_iff.1 ht).1
    obtain ⟨fu, rfl⟩ : ∃ g, fu = g + 1 := ⟨fu - 1, by omega⟩
    have hp : 0 < defN a := Nat.succ_pos _
    rw [defsGo, ht, Option.bind_some, if_neg hk, e, Option.bind_some]
    obtain ⟨b, e2, hN2⟩ := (ih m hm).1 k' fu hr (by omega)
    rw [e2, Option.bind_some]
    exact ⟨_, rfl, by simp only [defsN, sumN] at hN2 ⊢; omega⟩
theorem doc_all {n : Nat} (h : Runs toks n [nDOC] 0 0) (hL1 : toks.length < L) : ∃ defs, defsGo toks L f L 0 = some defs ∧ defsN defs ≤ toks.length := by
 obtain ⟨m, t, rfl, ht, hA⟩ := in_DOC h
 rcases hA with ⟨hF, h⟩ | ⟨_, h⟩
 · obtain ⟨d, e, hN⟩ := (defs_all hE L hL f h2 m).2 0 L h (by omega)
   exact ⟨d, e, by omega⟩
 · exact h.elim
end
end Go.Proofs.YtbpgkkoeehopjaaGreat.acr
namespace Go.Proofs.YtbpgkkoeehopjaaGreat.tot
open Go.RowKit Go.Proofs.YtbpgkkoeehopjaaGreat.words Go.Proofs.YtbpgkkoeehopjaaGreat.enc Go.Proofs.YtbpgkkoeehopjaaGreat.utf Go.Proofs.YtbpgkkoeehopjaaGreat.ln Go.Proofs.YtbpgkkoeehopjaaGreat.tree Go.Proofs.YtbpgkkoeehopjaaGreat.gram Go.Proofs.YtbpgkkoeehopjaaGreat.rd Go.Proofs.YtbpgkkoeehopjaaGreat.dat Go.Proofs.YtbpgkkoeehopjaaGreat.lex Go.Proofs.YtbpgkkoeehopjaaGreat.acr
set_option maxRecDepth 100000
structure Src (s : List Int) (N : Nat) : Prop where
 at_ : ∀ i, i ≤ N → ∃ z, s[i]? = some z
 pos : ∀ i z, s[i]? = some z → 0 ≤ z → i < N
theorem look_src (zs : List Int) (b : Bool) : Src (lookF zs b) zs.length := by
 have hl : zs.length + 1 ≤ (lookF zs b).length := by unfold lookF; cases b <;> simp
 refine ⟨fun i hi => ⟨_, List.getElem?_eq_getElem (by omega)⟩, fun i z hz h0 => Nat.lt_of_not_le fun hi => ?_⟩
 unfold lookF at hz
 rw [List.append_assoc, List.getElem?_append_right (by simpa using hi)] at hz
 have hm := List.mem_of_getElem? hz
 cases b <;> simp at hm <;> omega
theorem in_pos {c : Int} {t : Txt} (h : inF c t = true) : 0 ≤ c := by
 unfold inF at h
 obtain ⟨b, _, hb⟩ := List.any_eq_true.1 h
 have := of_decide_eq_true hb
 omega
theorem in_lt {c : Int} {t : Txt} (h : inF c t = true) (ht : (t.all fun b => decide (b.toNat < 128)) = true) : c < 128 := by
 unfold inF at h
 obtain ⟨b, hm, hb⟩ := List.any_eq_true.1 h
 have h1 := of_decide_eq_true hb
 have h2 := of_decide_eq_true (List.all_eq_true.1 ht b hm)
 omega
theorem rest_pos {c : Int} (h : restF c = true) : 0 ≤ c := by
 unfold restF at h
 rcases Bool.or_eq_true_iff.1 h with h | h
 · exact in_pos h
 · exact in_pos h
theorem blank_pos {c : Int} (h : blankF c = true) : 0 ≤ c := by
 unfold blankF at h
 rcases Bool.or_eq_true_iff.1 h with h | h
 · have : c = 65279 := by simpa using h
   omega
 · exact in_pos h
theorem three_at {s : List Int} {i : Nat} {c : Int} (h : threeF s i c = true) : s[i]? = some c ∧ s[i + 1]? = some c ∧ s[i + 2]? = some c := of_decide_eq_true h
section
variable {s : List Int} {N : Nat} (hS : Src s N)
include hS
theorem name_tot : ∀ (f i : Nat), i ≤ N → N < i + f → ∃ j, nameF s f i = some j ∧ i ≤ j ∧ j ≤ N
 | 0, i, h1, h2 => by omega
 | f + 1, i, h1, h2 => by
  obtain ⟨z, hz⟩ := hS.at_ i h1
  rw [nameF, hz]
  dsimp only
  split
  · rename_i hr
    have hi := hS.pos i z hz (rest_pos hr)
    obtain ⟨j, e, h3, h4⟩ := name_tot f (i + 1) (by omega) (by omega)
    exact ⟨j, e, by omega, h4⟩
  · exact ⟨i, rfl, Nat.le_refl _, h1⟩
theorem com_tot : ∀ (f i : Nat), i ≤ N → N < i + f → ∃ j, comF s f i = some j ∧ i ≤ j ∧ j ≤ N
 | 0, i, h1, h2 => by omega
 | f + 1, i, h1, h2 => by
  obtain ⟨z, hz⟩ := hS.at_ i h1
  rw [comF, hz]
  dsimp only
  split
  · rename_i hr
    have hi := hS.pos i z hz hr.1
    obtain ⟨j, e, h3, h4⟩ := com_tot f (i + 1) (by omega) (by omega)
    exact ⟨j, e, by omega, h4⟩
  · exact ⟨i, rfl, Nat.le_refl _, h1⟩
theorem beh_tot : ∀ (f i : Nat), i ≤ N → N + 1 < i + f → ∃ j, behF s f i = some j ∧ i ≤ j ∧ j ≤ N
 | 0, i, h1, h2 => by omega
 | f + 1, i, h1, h2 => by
  obtain ⟨z, hz⟩ := hS.at_ i h1
  rw [behF, hz]
  dsimp only
  split
  · rename_i hr
    have hi := hS.pos i z hz (blank_pos hr)
    obtain ⟨j, e, h3, h4⟩ := beh_tot f (i + 1) (by omega) (by omega)
    exact ⟨j, e, by omega, h4⟩
  · split
    · rename_i h35
      have hi := hS.pos i z hz (by omega)
      obtain ⟨f, rfl⟩ : ∃ g, f = g + 1 := ⟨f - 1, by omega⟩
      have e1 : comF s (f + 1) i = comF s f (i + 1) := by rw [comF, hz]; dsimp only; rw [if_pos (by omega)]
      obtain ⟨j, e, h3, h4⟩ := com_tot hS f (i + 1) (by omega) (by omega)
      rw [e1, e]
      dsimp only
      obtain ⟨q, e2, h5, h6⟩ := beh_tot (f + 1) j (by omega) (by omega)
      exact ⟨q, e2, by omega, h6⟩
    · exact ⟨i, rfl, Nat.le_refl _, h1⟩
theorem blk_tot (i : Nat) : ∀ (f j : Nat), j ≤ N → N < j + f → ∃ r, blkF s i f j = some r ∧ (r = i ∨ (j + 3 ≤ r ∧ r ≤ N))
 | 0, j, h1, h2 => by omega
 | f + 1, j, h1, h2 => by
  obtain ⟨z, hz⟩ := hS.at_ j h1
  rw [blkF, hz]
  dsimp only
  split
  · exact ⟨i, rfl, .inl rfl⟩
  · rename_i h0
    have hj := hS.pos j z hz (by omega)
    split
    · rename_i h3
      have h4 := hS.pos _ _ (three_at h3.2).2.2 (by omega)
      obtain ⟨r, e, h5⟩ := blk_tot i f (j + 4) (by omega) (by omega)
      exact ⟨r, e, by omega⟩
    · split
      · rename_i h3
        have h4 := hS.pos _ _ (three_at h3).2.2 (by omega)
        exact ⟨j + 3, rfl, .inr ⟨Nat.le_refl _, by omega⟩⟩
      · obtain ⟨r, e, h5⟩ := blk_tot i f (j + 1) (by omega) (by omega)
        exact ⟨r, e, by omega⟩
theorem quo_tot (i : Nat) : ∀ (f j : Nat), j ≤ N → N < j + f → ∃ r, quoF s i f j = some r ∧ (r = i ∨ (j + 1 ≤ r ∧ r ≤ N))
 | 0, j, h1, h2 => by omega
 | f + 1, j, h1, h2 => by
  obtain ⟨z, hz⟩ := hS.at_ j h1
  rw [quoF, hz]
  dsimp only
  split
  · rename_i h0
    have hj := hS.pos j z hz h0.1
    split
    · exact ⟨j + 1, rfl, .inr ⟨Nat.le_refl _, by omega⟩⟩
    · split
      · obtain ⟨y, hy⟩ := hS.at_ (j + 1) (by omega)
        rw [hy]
        dsimp only
        split
        · exact ⟨i, rfl, .inl rfl⟩
        · rename_i h3
          have h4 := hS.pos _ _ hy (by omega)
          obtain ⟨r, e, h5⟩ := quo_tot i f (j + 2) (by omega) (by omega)
          exact ⟨r, e, by omega⟩
      · obtain ⟨r, e, h5⟩ := quo_tot i f (j + 1) (by omega) (by omega)
        exact ⟨r, e, by omega⟩
  · exact ⟨i, rfl, .inl rfl⟩
def Good (N i : Nat) (r : Nat × Int × Txt) (P : Int → Prop) : Prop := (r.1 = i ∧ (r.2.1 = 0 ∨ r.2.1 = 1)) ∨ (i < r.1 ∧ r.1 ≤ N ∧ P r.2.1)
theorem text_tot (hN : s.length ≤ N + 2) (f i : Nat) (hi : i < N) (hf : N < i + f) : ∃ r, textF s f i = some r ∧ Good N i r fun k => k = 6 ∨ k = 7 := by
 have hlen : N < s.length := by obtain ⟨z, hz⟩ := hS.at_ N (Nat.le_refl _); exact (List.getElem?_eq_some_iff.1 hz).1
 unfold textF
 split
 · rename_i h3
   have h4 := hS.pos _ _ (three_at h3).2.2 (by omega)
   obtain ⟨j, e, hj⟩ := blk_tot hS i f (i + 3) (by omega) (by omega)
   rw [e]
   dsimp only
   split
   · exact ⟨_, rfl, .inl ⟨rfl, .inr rfl⟩⟩
   · rw [if_pos (by omega)]
     split
     · exact ⟨_, rfl, .inr ⟨by dsimp only; omega, by dsimp only; omega, .inr rfl⟩⟩
     · exact ⟨_, rfl, .inl ⟨rfl, .inr rfl⟩⟩
 · obtain ⟨j, e, hj⟩ := quo_tot hS i f (i + 1) (by omega) (by omega)
   rw [e]
   dsimp only
   split
   · exact ⟨_, rfl, .inl ⟨rfl, .inr rfl⟩⟩
   · rw [if_pos (by omega)]
     split
     · exact ⟨_, rfl, .inr ⟨by dsimp only; omega, by dsimp only; omega, .inl rfl⟩⟩
     · exact ⟨_, rfl, .inl ⟨rfl, .inr rfl⟩⟩
omit hS in
theorem pref_bound : ∀ (l : List Int) (m k : Nat) (st : Int) (e : Nat) (f : Int) (z : Int), e ≤ k → l[m]? = some z → z < 43 → (prefGo l k st e f).1 ≤ k + m
 | [], m, k, st, e, f, z, h, hz, h2 => by simp at hz
 | c :: r, 0, k, st, e, f, z, h, hz, h2 => by
  simp only [List.getElem?_cons_zero, Option.some.injEq] at hz
  subst hz
  rw [prefGo, if_pos (Int.lt_of_not_ge fun h0 => by have := lex.step_end h0; omega)]
  exact h
 | c :: r, m + 1, k, st, e, f, z, h, hz, h2 => by
  rw [prefGo]
  split
  · dsimp only; omega
  · split
    · have := pref_bound r m (k + 1) (stepF st c) (k + 1) (formF (stepF st c)) z (Nat.le_refl _) (by simpa using hz) h2; omega
    · have := pref_bound r m (k + 1) (stepF st c) e f z (by omega) (by simpa using hz) h2; omega
theorem num_tot (i : Nat) (hi : i ≤ N) : Good N i ((numF s i).1, (numF s i).2, []) fun k => k = 4 ∨ k = 5 := by
 obtain ⟨zN, hzN⟩ := hS.at_ N (Nat.le_refl _)
 have hneg : zN < 0 := Int.lt_of_not_ge fun h => by have := hS.pos N zN hzN h; omega
 have hb := pref_bound (s.drop i) (N - i) i 0 i 0 zN (Nat.le_refl _) (by rw [List.getElem?_drop, show i + (N - i) = N by omega]; exact hzN) (by omega)
 have hg := prefGo_ge (s.drop i) i 0 i 0 (Nat.le_refl _)
 obtain ⟨p, hp⟩ : ∃ p, prefF s i = p := ⟨_, rfl⟩
 have hp2 : prefGo (s.drop i) i 0 i 0 = p := hp
 rw [hp2] at hb hg
 unfold numF
 rw [hp]
 split
 · exact .inl ⟨rfl, .inr rfl⟩
 · split
   · exact .inl ⟨rfl, .inr rfl⟩
   · rename_i h
     refine .inr ⟨by dsimp only; omega, by dsimp only; omega, ?_⟩
     dsimp only
     split
     · exact .inl rfl
     · exact .inr rfl
def KindOk (z : Int) (k : Int) : Prop := (startF z = true ∧ k = 3) ∨ ((digitF z = true ∨ z = 45) ∧ (k = 4 ∨ k = 5)) ∨ (z = 34 ∧ (k = 6 ∨ k = 7)) ∨ (startF z = false ∧ 0 ≤ z ∧ z < 128 ∧ k = 2)
theorem one_tot (hN : s.length ≤ N + 2) (f i : Nat) (hi : i ≤ N) (hf : N < i + f) : ∃ r z, oneF s f i = some r ∧ s[i]? = some z ∧ Good N i r (KindOk z) := by
 obtain ⟨z, hz⟩ := hS.at_ i hi
 unfold oneF
 rw [hz]
 dsimp only
 split
 · exact ⟨_, z, rfl, rfl, .inl ⟨rfl, .inl rfl⟩⟩
 · split
   · rename_i hst
     have hlt := hS.pos i z hz (in_pos hst)
     obtain ⟨j, e, h1, h2⟩ := name_tot hS f i hi hf
     have hj : i < j := by
      obtain ⟨g, rfl⟩ : ∃ g, f = g + 1 := ⟨f - 1, by omega⟩
      rw [nameF, hz] at e
      dsimp only at e
      rw [if_pos (by unfold restF; unfold startF at hst; rw [hst]; rfl)] at e
      obtain ⟨j', e', h3, h4⟩ := name_tot hS g (i + 1) (by omega) (by omega)
      rw [e'] at e
      injection e with e
      omega
     rw [e]
     exact ⟨_, z, rfl, rfl, .inr ⟨hj, h2, .inl ⟨hst, rfl⟩⟩⟩
   · rename_i hst
     have hst : startF z = false := by cases h : startF z with | true => exact absurd h hst | false => rfl
     split
     · rename_i hd
       refine ⟨_, z, rfl, rfl, ?_⟩
       rcases num_tot hS i hi with h | ⟨h1, h2, h3⟩
       · exact .inl h
       · exact .inr ⟨h1, h2, .inr (.inl ⟨hd, h3⟩)⟩
     · split
       · rename_i h34
         have hlt := hS.pos i z hz (by omega)
         obtain ⟨r, e, h⟩ := text_tot hS hN f i hlt hf
         refine ⟨r, z, e, rfl, ?_⟩
         rcases h with h | ⟨h1, h2, h3⟩
         · exact .inl h
         · exact .inr ⟨h1, h2, .inr (.inr (.inl ⟨h34, h3⟩))⟩
       · have hp : ∃ j, punctF s i = some j ∧ i ≤ j ∧ (i < j → j ≤ N ∧ 0 ≤ z ∧ z < 128) := by
          unfold punctF
          rw [hz]
          dsimp only
          split
          · rename_i hm
            have := hS.pos i z hz (in_pos hm)
            exact ⟨_, rfl, by omega, fun _ => ⟨by omega, in_pos hm, in_lt hm (by decide)⟩⟩
          · split
            · rename_i h3
              have := hS.pos _ _ (three_at h3).2.2 (by omega)
              have h46 := (three_at h3).1
              rw [hz] at h46
              injection h46 with h46
              exact ⟨_, rfl, by omega, fun _ => ⟨by omega, by omega, by omega⟩⟩
            · exact ⟨_, rfl, by omega, fun h => by omega⟩
         obtain ⟨j, e, h1, h2⟩ := hp
         rw [e]
         dsimp only
         split
         · rename_i hj
           exact ⟨_, z, rfl, rfl, .inr ⟨hj, (h2 hj).1, .inr (.inr (.inr ⟨hst, (h2 hj).2.1, (h2 hj).2.2, rfl⟩))⟩⟩
         · exact ⟨_, z, rfl, rfl, .inl ⟨rfl, .inr rfl⟩⟩
end
theorem first_byte {z : Int} (h0 : 0 ≤ z) (h1 : z < 128) (r : List Int) : (encS (z :: r)).data.toList = [] ∨ ∃ t, (encS (z :: r)).data.toList = UInt8.ofNat z.toNat :: t := by
 unfold encS
 split
 · right
   have he : Lib.encodeRuneZ z = [z] := by unfold Lib.encodeRuneZ; rw [if_pos (by omega)]
   unfold encL
   rw [List.flatMap_cons, he]
   exact ⟨_, rfl⟩
 · exact .inl rfl
theorem tok_w {z : Int} {r : List Int} {t : TokD} (ht : t.text = (encS (z :: r)).data.toList) (hk : KindOk z t.kind) : TokW t := by
 have key : ∀ (b : UInt8) (x : Txt), 0 ≤ z → z < 128 → t.text = b :: x → z = (b.toNat : Int) := fun b x h0 h1 h => by
  rcases first_byte h0 h1 r with e | ⟨y, e⟩
  · rw [ht, e] at h; cases h
  · rw [ht, e] at h
    injection h with h _
    rw [← h, UInt8.toNat_ofNat']
    have : z.toNat % 2 ^ 8 = z.toNat := Nat.mod_eq_of_lt (by omega)
    omega
 rcases hk with ⟨hs, h3⟩ | ⟨hd, h4⟩ | ⟨_, h6⟩ | ⟨hs, hz0, hz1, h2⟩
 · refine ⟨fun p hp he => ?_, fun w hw he => .inl h3⟩
   have hz := key p [] (in_pos hs) (in_lt hs (by decide)) he
   have : ∀ p ∈ ([33, 38, 40, 41, 58, 61, 64, 91, 93, 123, 124, 125] : Txt), startF (p.toNat : Int) = false := by decide +kernel
   rw [hz, this p hp] at hs; cases hs
 · have hb : 0 ≤ z ∧ z < 128 := by
    rcases hd with hd | hd
    · exact ⟨in_pos hd, in_lt hd (by decide)⟩
    · omega
   refine ⟨fun p hp he => ?_, fun w hw he => ?_⟩
   · have hz := key p [] hb.1 hb.2 he
     have : ∀ p ∈ ([33, 38, 40, 41, 58, 61, 64, 91, 93, 123, 124, 125] : Txt), digitF (p.toNat : Int) = false ∧ p ≠ 45 := by decide +kernel
     obtain ⟨q1, q2⟩ := this p hp
     rcases hd with hd | hd
     · rw [hz, q1] at hd; cases hd
     · exact absurd (UInt8.toNat_inj.1 (show p.toNat = (45 : UInt8).toNat by have : (45 : UInt8).toNat = 45 := rfl; omega)) q2
   · have : ∀ w ∈ ([[101, 120, 116, 101, 110, 100], [105, 109, 112, 108, 101, 109, 101, 110, 116, 115], [114, 101, 112, 101, 97, 116, 97, 98, 108, 101], [111, 110]] : List Txt), ∃ b x, w = b :: x ∧ digitF (b.toNat : Int) = false ∧ b.toNat ≠ 45 := by
      intro w hw
      simp only [List.mem_cons, List.mem_nil_iff, or_false] at hw
      rcases hw with rfl | rfl | rfl | rfl
      all_goals exact ⟨_, _, rfl, by decide +kernel, by decide⟩
     obtain ⟨b, x, e, q1, q2⟩ := this w hw
     have hz := key b x hb.1 hb.2 (he.trans e)
     rcases hd with hd | hd
     · rw [hz, q1] at hd; cases hd
     · omega
 · exact ⟨fun p hp he => .inr h6, fun w hw he => .inr h6⟩
 · refine ⟨fun p hp he => .inl h2, fun w hw he => ?_⟩
   have : ∀ w ∈ ([[101, 120, 116, 101, 110, 100], [105, 109, 112, 108, 101, 109, 101, 110, 116, 115], [114, 101, 112, 101, 97, 116, 97, 98, 108, 101], [111, 110]] : List Txt), ∃ b x, w = b :: x ∧ startF (b.toNat : Int) = true := by
    intro w hw
    simp only [List.mem_cons, List.mem_nil_iff, or_false] at hw
    rcases hw with rfl | rfl | rfl | rfl
    all_goals exact ⟨_, _, rfl, by decide +kernel⟩
   obtain ⟨b, x, e, q1⟩ := this w hw
   have hz := key b x hz0 hz1 (he.trans e)
   rw [hz, q1] at hs; cases hs
theorem token_tot {zs s : List Int} (hS : Src s zs.length) (hN : s.length ≤ zs.length + 2) (f i : Nat) (hi : i ≤ zs.length) (hf : zs.length + 1 < i + f) :
  ∃ t too, tokenF zs s f i = some t ∧ t.stop = ((too : Nat) : Int) ∧ TokW t ∧ (((t.kind = 0 ∨ t.kind = 1)) ∨ (i < too ∧ too ≤ zs.length ∧ ¬ (t.kind = 0 ∨ t.kind = 1))) := by
 obtain ⟨a, e, h1, h2⟩ := beh_tot hS f i hi hf
 obtain ⟨r, z, e2, hz, h3⟩ := one_tot hS hN f a h2 (by omega)
 have hlen : zs.length < s.length := by obtain ⟨z, hz⟩ := hS.at_ zs.length (Nat.le_refl _); exact (List.getElem?_eq_some_iff.1 hz).1
 have hr1 : a ≤ r.1 ∧ r.1 ≤ s.length ∧ a ≤ zs.length := by rcases h3 with h | h <;> omega
 unfold tokenF
 rw [e]
 dsimp only
 rw [e2]
 dsimp only
 rw [if_pos hr1]
 refine ⟨_, r.1, rfl, rfl, ?_, ?_⟩
 · rcases h3 with ⟨q1, q2⟩ | ⟨q1, q2, q3⟩
   · have hsub : (s.drop a).take (r.1 - a) = [] := by rw [q1, Nat.sub_self]; rfl
     rw [hsub]
     have hE : (encS []).data.toList = [] := rfl
     refine ⟨fun p hp he => ?_, fun w hw he => ?_⟩
     · exact absurd (hE.symm.trans he) (by simp)
     · have e0 := hE.symm.trans he
       subst e0
       exact absurd hw (by decide)
   · have hsub : ∃ rr, (s.drop a).take (r.1 - a) = z :: rr := by
      obtain ⟨ha, hza⟩ := List.getElem?_eq_some_iff.1 hz
      rw [List.drop_eq_getElem_cons ha, hza, show r.1 - a = (r.1 - a - 1) + 1 by omega, List.take_succ_cons]
      exact ⟨_, rfl⟩
     obtain ⟨rr, hrr⟩ := hsub
     rw [hrr]
     exact tok_w (r := rr) rfl q3
 · rcases h3 with ⟨q1, q2⟩ | ⟨q1, q2, q3⟩
   · exact .inl q2
   · refine .inr ⟨by omega, q2, ?_⟩
     dsimp only
     rcases q3 with ⟨_, h⟩ | ⟨_, h⟩ | ⟨_, h⟩ | ⟨_, _, _, h⟩ <;> omega
theorem toks_tot {zs s : List Int} (hS : Src s zs.length) (hN : s.length ≤ zs.length + 2) (hz : zs.length ≤ 3000000) (fB : Nat) (hf : zs.length + 1 < fB) : ∀ (fu i : Nat), i ≤ zs.length → zs.length < i + fu →
  ∃ l : List TokD, toksF zs s fB fu i = some l ∧ l ≠ [] ∧ l.length + i ≤ zs.length + 1 ∧ (∀ (k : Nat) (t : TokD), l[k]? = some t → ((t.kind = 0 ∨ t.kind = 1) ↔ k + 1 = l.length)) ∧ ∀ (k : Nat) (t : TokD), l[k]? = some t → TokW t
 | 0, i, h1, h2 => by omega
 | fu + 1, i, h1, h2 => by
  obtain ⟨t, too, e, e2, hW, h3⟩ := token_tot hS hN fB i h1 (by omega)
  rw [toksF, e]
  dsimp only
  by_cases hk : t.kind = 0 ∨ t.kind = 1
  · rw [if_pos hk]
    refine ⟨[t], rfl, by simp, by simp; omega, fun k t' ht => ?_, fun k t' ht => ?_⟩
    · cases k with
      | zero => simp only [List.getElem?_cons_zero, Option.some.injEq] at ht; subst ht; simp [hk]
      | succ k => simp at ht
    · cases k with
      | zero => simp only [List.getElem?_cons_zero, Option.some.injEq] at ht; subst ht; exact hW
      | succ k => simp at ht
  · obtain ⟨q1, q2, q3⟩ : i < too ∧ too ≤ zs.length ∧ ¬ (t.kind = 0 ∨ t.kind = 1) := by rcases h3 with h | h; exact absurd h hk; exact h
    rw [if_neg hk, if_neg (by omega), e2, Int.toNat_natCast]
    obtain ⟨l, e3, g1, g2, g3, g4⟩ := toks_tot hS hN hz fB hf fu too q2 (by omega)
    rw [e3]
    dsimp only
    have hl : 0 < l.length := List.length_pos_iff.2 g1
    refine ⟨t :: l, rfl, by simp, by simp; omega, fun k t' ht => ?_, fun k t' ht => ?_⟩
    · cases k with
      | zero =>
       simp only [List.getElem?_cons_zero, Option.some.injEq] at ht; subst ht
       simp only [List.length_cons]
       exact ⟨fun h => absurd h hk, fun h => by omega⟩
      | succ k =>
       have := g3 k t' (by simpa using ht)
       simp only [List.length_cons]
       rw [this]; omega
    · cases k with
      | zero => simp only [List.getElem?_cons_zero, Option.some.injEq] at ht; subst ht; exact hW
      | succ k => exact g4 k t' (by simpa using ht)
theorem tokens_tot (src : Txt) (h : src.length ≤ 2200000) : ∃ toks, tokensF src = some toks ∧ TokA toks ∧ 1 ≤ toks.length ∧ toks.length ≤ src.length + 1 := by
 have h1 := decF_len src
 have h2 := decF_le src
 unfold tokensF
 obtain ⟨l, e, g1, g2, g3, g4⟩ := toks_tot (look_src (decF src).1 (decide ((decF src).2 = src.length))) (by unfold lookF; split <;> simp) (by omega) (src.length + 3) (by omega) (src.length + 3) 0 (by omega) (by omega)
 exact ⟨l, e, ⟨⟨g3⟩, g4⟩, List.length_pos_iff.2 g1, by omega⟩
end Go.Proofs.YtbpgkkoeehopjaaGreat.tot
namespace Go.Proofs.YtbpgkkoeehopjaaGreat.hp
open Go.RowKit Go.Proofs.YtbpgkkoeehopjaaGreat.words Go.Proofs.YtbpgkkoeehopjaaGreat.enc Go.Proofs.YtbpgkkoeehopjaaGreat.tree Go.Proofs.YtbpgkkoeehopjaaGreat.gram Go.Proofs.YtbpgkkoeehopjaaGreat.lex Go.Proofs.YtbpgkkoeehopjaaGreat.rd Go.Proofs.YtbpgkkoeehopjaaGreat.dec Go.Proofs.YtbpgkkoeehopjaaGreat.dat Go.Proofs.YtbpgkkoeehopjaaGreat.held Go.Proofs.YtbpgkkoeehopjaaGreat.acr Go.Proofs.YtbpgkkoeehopjaaGreat.tot
set_option maxRecDepth 100000
set_option maxHeartbeats 40000000
attribute [local go_sem ↓] Go.wp_at_zero Go.wp_at_succ
section
variable {w0 w K : World} {M : List Ent}
theorem Parse_no {A : Option Addr} {n c : Nat} {src : List UInt8} (H : Hp w0 w K M) (hr : Rd K K.heap.size A (Lib.byteCells src)) (hn : src.length = n) (hnc : n ≤ c) (hcm : c ≤ maxLen) (h63 : n ≤ 2200000)
  {toks : List TokD} (ht : tokensF src = some toks) (hnl : toks.length ≤ 3000000) {nf bf fr : Nat} (hfr : fr ≤ 1000000000) {e p1 p2 : Int} (hrun : runF rulesG nf bf toks 200 fr [[68, 79, 67]] 0 0 = some (e, p1, p2)) (he : e ≠ 0) :
  Calls Tryz.prog 55 #[.slice A n c, .int .i64 200] w fun en w' => ∃ K' g, en = .returned (.tuple #[.slice none 0 0, .agg #[.int .i64 e, .slice (some ⟨g, 0, none⟩) 1 1, .slice none 0 0]]) ∧ Sat K' K ∧ Hp w0 w' K' M := by
 have HRUN := hide hrun
 have HT := hide ht
 have hgram := fun w => grammar_any w
 rw [lines_eq] at hgram
 have hb0 : ((e : Int) != 0) = true := by rw [bne_iff_ne]; exact he
 clear hrun ht he
 go_enter Tryz.func55, Tryz.ntmps55
 go_upto_region 5 with (first | (refine oA 5 H ?_; clear H; intro w gz H) | (refine oL H ?_) | (refine oP H ?_; clear H; intro w _ H))
 go_wp2_with fail
 refine (Tokens_any block_ok A n c w.heap.size src w (Rd.sat hr (Nat.le_refl _) H.sat) (Nat.le_refl _) hn hnc hcm h63 toks HT.out).mono ?_
 rintro en w1 ⟨vt, rfl, hrt, hb1⟩
 obtain ⟨At, ct, ust, rfl, hnt, hct, _, _⟩ := reads_list hrt
 obtain ⟨K1, hle1, H1, hdt⟩ := H.fresh1 hb1 hrt
 clear H hrt hb1
 go_wp2_with fail
 refine (hgram w1).mono ?_
 rintro en w2 ⟨vg, rfl, hrg, hb2⟩
 obtain ⟨Ag, cg, usg, rfl, _, _, _, _⟩ := reads_list hrg
 have H2 := H1.below hb2
 clear H1 hb2
 go_wp2_with fail
 refine (Rules_any w2.heap.size linesG Ag 52 cg w2 hrg (Nat.le_refl _) lines_ok (by decide)).mono ?_
 rintro en w3 ⟨vr, rfl, hrr, hb3⟩
 rw [rules_eq, show linesG.length = rulesG.length from rfl] at hrr
 obtain ⟨Ar, cr, usr, rfl, _, _, _, _⟩ := reads_list hrr
 have H3 := H2.below hb3
 clear H2 hb3 hrg
 have hcall := Run_any w3.heap.size rulesG Ar At rulesG.length cr toks.length ct [68, 79, 67] toks 200 nf bf fr (e, p1, p2) w3 hrr (RD.lo hdt H3) (Nat.le_refl _) (by omega) (by omega) hfr HRUN.out
 clear hrr
 go_wp2_with fail
 refine hcall.mono ?_
 rintro en w4 ⟨rfl, hb4⟩
 have H := H3.below hb4
 clear hcall H3 hb4 hgram HRUN HT
 obtain ⟨nt, hnt2⟩ : ∃ x, toks.length = x := ⟨_, rfl⟩
 rw [hnt2] at hnl ⊢
 clear hdt hnt2 hnt hct
 go_upto_region 8 with (first | (refine oL H ?_) | (refine oP H ?_; clear H; intro w _ H))
 refine rB [5] H ?_; clear H; intro w H
 refine rT 0 H ?_; refine rT 1 H ?_; refine rT 4 H ?_
 refine rW 2 H ?_; clear H; intro w g2 H
 refine rT 3 H ?_
 refine rL 5 H ?_; clear H; intro w _ H
 refine rE ?_
 go_wp2_with (first | (refine oL H ?_) | (refine oP H ?_; clear H; intro w _ H))
 refine oB3 H ?_
 exact ⟨K1, _, rfl, hle1, H.fin⟩
theorem read_no (H : Hp w0 w K M) {src : Txt} (hlen : src.length ≤ 2200000) {toks : List TokD} (ht : tokensF src = some toks) (hnl : toks.length ≤ 3000000) {nf bf fr : Nat} (hfr : fr ≤ 1000000000) {e p1 p2 : Int} (hrun : runF rulesG nf bf toks 200 fr [[68, 79, 67]] 0 0 = some (e, p1, p2)) (he : e ≠ 0) :
  Calls Tryz.prog 13 #[.string (str src)] w fun en w' => ∃ K', en = .returned (.slice none 0 0) ∧ Sat K' K ∧ Hp w0 w' K' M := by
 obtain ⟨cb, w1, hrunc, hb1, hc1, hc2, hrd, hs1⟩ := conv_bytes (P := Tryz.prog) w 9 86 5 src Tryz.underlying9 Tryz.underlying86 Tryz.underlying5 (by simp only [maxLen]; omega)
 obtain ⟨K1, hle1, H1, hk, -⟩ := H.fresh hb1
 have hr1 : Rd K1 K1.heap.size (some ⟨w.heap.size, 0, none⟩) (Lib.byteCells src) := fun hn => by
  obtain ⟨ad, e, hb, hc⟩ := hrd hn
  injection e with e
  subst e
  have h0 := hk w.heap.size (Nat.le_refl _)
  have hlt : w.heap.size < w1.heap.size := by omega
  refine ⟨_, rfl, ?_, fun j u hu => ?_⟩
  · rw [Array.getElem?_eq_getElem hlt] at h0
    exact (Array.getElem?_eq_some_iff.1 h0).1
  · have := hc j u hu
    have e1 : (⟨w.heap.size, 0, none⟩ : Addr).add j = ⟨w.heap.size, j, none⟩ := by unfold Addr.add; by_cases h : j = 0 <;> simp [h]
    rw [e1] at this ⊢
    exact (World.cell?_of_block h0).trans this
 have hcall := Parse_no H1 hr1 rfl hc1 hc2 hlen ht hnl hfr hrun he
 have hb0 : ((e : Int) != 0) = true := by rw [bne_iff_ne]; exact he
 clear ht hrun hk hr1 hrd H H1 he
 go_enter Tryz.func13, Tryz.ntmps13
 go_wp2_with (first | (refine hcall.mono ?_; rintro en w ⟨K2, g, rfl, hle2, H⟩) | (refine oL H ?_) | (refine oP H ?_; clear H; intro w _ H))
 go_ret
 exact ⟨K2, rfl, hle2.trans hle1, H.fin⟩
end
def readD (src : Txt) : List DefD := match tokensF src with
 | none => []
 | some toks => if runF rulesG nfG bfG toks 200 800000000 [nDOC] 0 0 = some (0, 0, 0) then (defsGo toks 3000000 300 3000000 0).getD [] else []
theorem run_kinds (R : List RuleD) (nf bf : Nat) (toks : List TokD) (depth : Int) : ∀ (f : Nat) (st : List Txt) (k : Nat) (op : Int) (r : Int × Int × Int), runF R nf bf toks depth f st k op = some r → r = (0, 0, 0) ∨ r.1 ≠ 0
 | 0, _, _, _, r, h => by cases h
 | f + 1, [], k, op, r, h => by injection h with h; exact .inl h.symm
 | f + 1, s :: st, k, op, r, h => by
  rw [runF] at h
  split at h
  · cases h
  · split at h
    · cases h
    · split at h
      · split at h
        · cases h
        · split at h
          · cases h
          · exact run_kinds R nf bf toks depth f _ _ _ r h
        · injection h with h; subst h; exact .inr (by simp)
      · split at h
        · injection h with h; subst h; exact .inr (by simp)
        · split at h
          · injection h with h; subst h; exact .inr (by simp)
          · exact run_kinds R nf bf toks depth f _ _ _ r h
theorem read_cases (src : Txt) (hlen : src.length ≤ 2200000) : ∃ toks, tokensF src = some toks ∧ TokA toks ∧ toks.length ≤ src.length + 1 ∧
  ((runF rulesG nfG bfG toks 200 800000000 [nDOC] 0 0 = some (0, 0, 0) ∧ defsGo toks 3000000 300 3000000 0 = some (readD src) ∧ defsN (readD src) ≤ toks.length) ∨
   (∃ e p1 p2, e ≠ 0 ∧ runF rulesG nfG bfG toks 200 800000000 [nDOC] 0 0 = some (e, p1, p2) ∧ readD src = [])) := by
 obtain ⟨toks, e, hA, h1, h2⟩ := tokens_tot src hlen
 have hphi : phi toks [nDOC] 0 ≤ [nDOC].length + 200 * (toks.length - 0) := phi_le (by intro s hs; obtain rfl := List.mem_singleton.1 hs; decide +kernel) (by omega)
 have hl1 : [nDOC].length = 1 := rfl
 rw [hl1] at hphi
 obtain ⟨r, hr⟩ := run_ends toks 200 hA.toTokE 800000000 [nDOC] 0 0 (by omega) (by intro s hs; obtain rfl := List.mem_singleton.1 hs; decide +kernel) (by omega) (by omega)
 refine ⟨toks, e, hA, h2, ?_⟩
 have hdef : readD src = if runF rulesG nfG bfG toks 200 800000000 [nDOC] 0 0 = some (0, 0, 0) then (defsGo toks 3000000 300 3000000 0).getD [] else [] := by unfold readD; rw [e]
 rcases run_kinds _ _ _ _ _ _ _ _ _ r hr with rfl | h0
 · left
   obtain ⟨defs, hd, hN⟩ := doc_all hA 3000000 (by omega) 300 (by omega) hr (by omega)
   rw [if_pos hr, hd, Option.getD_some] at hdef
   rw [hdef]
   exact ⟨hr, hd, hN⟩
 · right
   obtain ⟨e0, p1, p2⟩ := r
   refine ⟨e0, p1, p2, h0, hr, ?_⟩
   rw [hdef, if_neg (fun h => by rw [hr] at h; injection h with h; injection h with h _; exact h0 h)]
section
variable {w0 w K : World} {M : List Ent}
theorem read_any (H : Hp w0 w K M) (src : Txt) (hlen : src.length ≤ 2200000) :
  Calls Tryz.prog 13 #[.string (str src)] w fun e w' => ∃ K' A' c', e = .returned (.slice A' (readD src).length c') ∧ Sat K' K ∧ Hp w0 w' K' M ∧ RD K' (.list (readD src).length (defsL (readD src))) (.slice A' (readD src).length c') := by
 obtain ⟨toks, e, hA, h2, ⟨hr, hd, hN⟩ | ⟨e0, p1, p2, h0, hr, hd⟩⟩ := read_cases src hlen
 · exact read_hp H ⟨hlen, toks, nfG, bfG, 800000000, 3000000, 300, e, by omega, by omega, hr, by omega, hd⟩ rfl
 · refine (read_no H hlen e (by omega) (by omega) hr h0).mono ?_
   rintro en w' ⟨K', rfl, hs, H⟩
   rw [hd]
   exact ⟨K', none, 0, rfl, hs, H, .nil (Nat.le_refl _)⟩
theorem read_N (src : Txt) (hlen : src.length ≤ 2200000) : defsN (readD src) ≤ src.length + 1 := by
 obtain ⟨toks, e, hA, h2, ⟨hr, hd, hN⟩ | ⟨e0, p1, p2, h0, hr, hd⟩⟩ := read_cases src hlen
 · omega
 · rw [hd]; exact Nat.zero_le _
end
end Go.Proofs.YtbpgkkoeehopjaaGreat.hp
namespace Go.Proofs.YtbpgkkoeehopjaaGreat.hp
open Go.RowKit Go.Proofs.YtbpgkkoeehopjaaGreat.words Go.Proofs.YtbpgkkoeehopjaaGreat.enc Go.Proofs.YtbpgkkoeehopjaaGreat.tree Go.Proofs.YtbpgkkoeehopjaaGreat.gram Go.Proofs.YtbpgkkoeehopjaaGreat.lex Go.Proofs.YtbpgkkoeehopjaaGreat.rd Go.Proofs.YtbpgkkoeehopjaaGreat.dec Go.Proofs.YtbpgkkoeehopjaaGreat.dat Go.Proofs.YtbpgkkoeehopjaaGreat.held
set_option maxRecDepth 100000
set_option maxHeartbeats 40000000
attribute [local go_sem ↓] Go.wp_at_zero Go.wp_at_succ
instance : Sc Tryz.prog 117 := ⟨⟨_, Tryz.underlying117, rfl⟩⟩
instance : Sc Tryz.prog 30 := ⟨⟨_, Tryz.underlying30, rfl⟩⟩
end Go.Proofs.YtbpgkkoeehopjaaGreat.hp
namespace Go.Proofs.YtbpgkkoeehopjaaGreat.hp
open Go.RowKit Go.Proofs.YtbpgkkoeehopjaaGreat.words Go.Proofs.YtbpgkkoeehopjaaGreat.enc Go.Proofs.YtbpgkkoeehopjaaGreat.tree Go.Proofs.YtbpgkkoeehopjaaGreat.gram Go.Proofs.YtbpgkkoeehopjaaGreat.lex Go.Proofs.YtbpgkkoeehopjaaGreat.rd Go.Proofs.YtbpgkkoeehopjaaGreat.dec Go.Proofs.YtbpgkkoeehopjaaGreat.dat Go.Proofs.YtbpgkkoeehopjaaGreat.held
def sents (l : List (Txt × Value)) : List (Value × Value) := l.map fun p => (.string (str p.1), p.2)
def sfind (l : List (Txt × Value)) (x : Txt) : Option Value := (l.find? (·.1 == x)).map (·.2)
def sput : List (Txt × Value) → Txt → Value → List (Txt × Value)
 | [], x, v => [(x, v)]
 | p :: r, x, v => if p.1 = x then (x, v) :: r else p :: sput r x v
theorem sput_new {l : List (Txt × Value)} {x : Txt} {v : Value} (h : sfind l x = none) : sput l x v = l ++ [(x, v)] := by
 induction l with
 | nil => rfl
 | cons p r ih =>
  by_cases hp : p.1 = x
  · simp [sfind, hp] at h
  · have : sfind r x = none := by simpa [sfind, hp] using h
    rw [sput, if_neg hp, ih this]; rfl
theorem str_eq (a b : Txt) : (str a == str b) = decide (a = b) := by
 show ((str a).data == (str b).data) = _
 rw [Bool.eq_iff_iff]
 simp [str]
theorem mobj_get {w : World} {b : Nat} {l : List (Value × Value)} {P : Program} (h : w.heap[b]? = some (mobj l)) : (getObj b).run P w = .ok (.map (ments l).toArray l.length) w := by
 unfold getObj
 simp only [Sem.run, h, mobj]
theorem findNow_s (x : Txt) : ∀ (l : List (Txt × Value)) (j i : Nat), Instr.findNow .string (.string (str x)) (((sents l).zipIdx j).map fun p => ({ key := p.1.1, val := p.1.2, born := p.2 } : MapEntry)) i = some ((l.findIdx? (·.1 == x)).bind fun k => (l[k]?).map fun p => (i + k, p.2))
 | [], j, i => rfl
 | p :: r, j, i => by
  simp only [sents, List.map_cons, List.zipIdx_cons, Instr.findNow, Instr.sameNow, str_eq]
  by_cases h : p.1 = x
  · have h' : x = p.1 := h.symm
    simp [h', List.findIdx?_cons]
  · have h' : ¬ x = p.1 := fun e => h e.symm
    have := findNow_s x r (j + 1) (i + 1)
    simp only [sents] at this
    simp only [h', decide_false, this, List.findIdx?_cons, h, beq_iff_eq, if_false, Bool.false_eq_true]
    cases hq : r.findIdx? (·.1 == x) with
    | none => simp
    | some k => simp [Nat.add_comm, Nat.add_left_comm, Nat.add_assoc]
section
variable {P : Program} {w : World} {b t kt et : Nat} {l : List (Txt × Value)}
theorem findKey_s (hk : P.underlying kt = some .string) (x : Txt) : (Instr.findKey kt (.string (str x)) (ments (sents l))).run P w = .ok ((l.findIdx? (·.1 == x)).bind fun k => (l[k]?).map fun p => (k, p.2)) w := by
 have := findNow_s x l 0 0
 simp only [Nat.zero_add] at this
 unfold Instr.findKey ments
 rw [Sem.run_bind, run_underlying hk w]
 simp only [Result.andThen_ok, this, Sem.run_pure]
theorem checkKey_s (hk : P.underlying kt = some .string) (e : Bool) (x : Txt) : (Instr.checkKey e 10000 kt (.string (str x))).run P w = .ok () w := by
 unfold Instr.checkKey
 rw [Sem.run_bind, run_underlying hk w]
 rfl
theorem sfind_idx (x : Txt) : ∀ l : List (Txt × Value), ((l.findIdx? (·.1 == x)).bind fun k => (l[k]?).map fun p => (k, p.2)).map (·.2) = sfind l x
 | [] => rfl
 | p :: r => by
  by_cases h : p.1 = x
  · simp [List.findIdx?_cons, h, sfind]
  · have := sfind_idx x r
    simp only [sfind, List.find?_cons, List.findIdx?_cons, h, beq_iff_eq, if_false, Bool.false_eq_true] at this ⊢
    have hb : (p.1 == x) = false := beq_eq_false_iff_ne.2 h
    simp only [hb]
    rw [← this]
    cases hq : r.findIdx? (·.1 == x) with
    | none => simp
    | some k => simp [Function.comp_def]
theorem run_lookup_s (ht : P.underlying t = some (.map kt et)) (hk : P.underlying kt = some .string) (z : Value) (hz : (zeroValue et).run P w = .ok z w) (hb : w.heap[b]? = some (mobj (sents l))) (x : Txt) (ok : Bool) :
  (Instr.lookup t (.map (some b)) (.string (str x)) ok).run P w = .ok (if ok then .tuple #[(sfind l x).getD z, .bool (sfind l x).isSome] else (sfind l x).getD z) w := by
 have hf := findKey_s (P := P) (w := w) (l := l) hk x
 have hi := sfind_idx x l
 unfold Instr.lookup
 simp only [Sem.run_bind, run_underlying ht w, Result.andThen_ok, mobj_get hb, Sem.run_pure, checkKey_s hk, hf]
 cases hq : ((l.findIdx? (·.1 == x)).bind fun k => (l[k]?).map fun p => (k, p.2)) with
 | none =>
  rw [hq] at hi
  have hi : sfind l x = none := hi.symm
  simp [hi, hz, Sem.run_bind]
 | some p =>
  rw [hq] at hi
  have hi : sfind l x = some p.2 := hi.symm
  simp [hi, Sem.run_bind]
theorem sput_idx (x : Txt) (v : Value) : ∀ (l : List (Txt × Value)), match l.findIdx? (·.1 == x) with
  | none => sput l x v = l ++ [(x, v)]
  | some k => k < l.length ∧ sput l x v = l.set k (x, v) ∧ (l[k]?).map (·.1) = some x
 | [] => rfl
 | p :: r => by
  by_cases h : p.1 = x
  · simp [List.findIdx?_cons, h, sput]
  · have ih := sput_idx x v r
    have hb : (p.1 == x) = false := beq_eq_false_iff_ne.2 h
    simp only [List.findIdx?_cons, hb, Bool.false_eq_true, if_false, sput, h]
    cases hq : r.findIdx? (·.1 == x) with
    | none => rw [hq] at ih; simp only [Option.map_none] at ih ⊢; simp [ih]
    | some k => rw [hq] at ih; simp only [Option.map_some] at ih ⊢; exact ⟨by simpa using ih.1, by rw [ih.2.1]; rfl, by simpa using ih.2.2⟩
theorem ments_set (l : List (Txt × Value)) (k : Nat) (hk : k < l.length) (p : Txt × Value) : ments (sents (l.set k p)) = (ments (sents l)).modify k fun e => { e with key := .string (str p.1), val := p.2 } := by
 apply List.ext_getElem?
 intro j
 simp only [ments, sents, List.getElem?_map, List.getElem?_zipIdx, List.getElem?_modify, List.getElem?_set, List.map_set]
 by_cases hj : k = j
 · subst hj
   simp [hk]
 · simp [hj]
theorem run_setObj {o o' : Obj} (hb : w.heap[b]? = some o) (hn : ∀ c e f, o ≠ .cells c e f) : (setObj b o').run P w = .ok () { w with heap := w.heap.setIfInBounds b o' } := by
 unfold setObj
 cases o with
 | cells c e f => exact absurd rfl (hn c e f)
 | _ => simp [Sem.run, hb]
theorem run_update_s (ht : P.underlying t = some (.map kt et)) (hk : P.underlying kt = some .string) (hb : w.heap[b]? = some (mobj (sents l))) (x : Txt) (v : Value) :
  (Instr.mapUpdate t (.map (some b)) (.string (str x)) v).run P w = .ok () { w with heap := w.heap.setIfInBounds b (mobj (sents (sput l x v))) } := by
 have hf := findKey_s (P := P) (w := w) (l := l) hk x
 have hi := sput_idx x v l
 have hs : ∀ o', (setObj b o').run P w = .ok () { w with heap := w.heap.setIfInBounds b o' } := fun o' => run_setObj hb (fun c e f h => by cases h)
 unfold Instr.mapUpdate
 simp only [Sem.run_bind, run_underlying ht w, Result.andThen_ok, mobj_get hb, checkKey_s hk, hf]
 cases hq : l.findIdx? (·.1 == x) with
 | none =>
  rw [hq] at hi
  simp only [Option.bind_none]
  rw [hs, hi]
  simp [mobj, sents, ments, List.zipIdx_append]
 | some k =>
  rw [hq] at hi
  obtain ⟨hkl, hsp, hkx⟩ := hi
  obtain ⟨p, hp⟩ : ∃ p, l[k]? = some p := ⟨_, List.getElem?_eq_getElem hkl⟩
  have hpx : p.1 = x := by simpa [hp] using hkx
  have hes : ((ments (sents l)).toArray[k]?).map (·.key) = some (.string (str x)) := by simp [ments, sents, hp, hpx]
  have hst : (Instr.keyThatStays (.string (str x)) (.string (str x))).run P w = .ok (.string (str x)) w := by
   unfold Instr.keyThatStays
   rw [if_pos (by simp [Instr.sameBits, str_eq])]
   rfl
  simp only [Option.bind_some, hp, Option.map_some, Sem.run_bind, hes, Option.getD_some, hst, Result.andThen_ok, hs]
  rw [hsp]
  have := ments_set l k hkl (x, v)
  have hob : Obj.map ((ments (sents l)).toArray.modify k fun e => { e with key := .string (str x), val := v }) l.length = mobj (sents (l.set k (x, v))) := by
   unfold mobj
   rw [this]
   simp [sents]
  rw [← hob]
  simp [sents]
end
section
variable {P : Program} {w0 w K : World} {M : List Ent} {ops : Array Oper} {rest : List Oper} {o : Oper} {a : Act} {Q : Exit → Act → World → Prop} {i b t kt et : Nat}
theorem Hp.mapAt (H : Hp w0 w K M) {l : List (Value × Value)} (hi : M[i]? = some (.map b l)) : w.heap[b]? = some (mobj l) := H.ok _ (List.mem_of_getElem? hi)
theorem Hp.mapSet (H : Hp w0 w K M) {l : List (Value × Value)} (hi : M[i]? = some (.map b l)) (l' : List (Value × Value)) : Hp w0 { w with heap := w.heap.setIfInBounds b (mobj l') } K (M.set i (.map b l')) := by
 have hb := H.mapAt hi
 have hlt := (Array.getElem?_eq_some_iff.1 hb).1
 refine H.setAt hi ⟨rfl, rfl, rfl, by simp, fun k hk hne => ?_⟩ ?_ (.inl rfl)
 · have hkb : b ≠ k := fun e => hne (by subst e; rfl)
   simp [hkb]
 · simp [Ent.ok, hlt]
end
def nmap (ks : List Txt) : List (Txt × Value) := ks.zipIdx.map fun p => (p.1, .int .i64 p.2)
theorem nmap_find_from (x : Txt) : ∀ (ks : List Txt) (j : Nat), sfind (ks.zipIdx j |>.map fun p => (p.1, (Value.int .i64 p.2 : Value))) x = (ks.findIdx? (· == x)).map fun i => .int .i64 ((j + i : Nat) : Int)
 | [], j => rfl
 | k :: r, j => by
  by_cases h : k = x
  · simp [sfind, h, List.findIdx?_cons]
  · have ih := nmap_find_from x r (j + 1)
    simp only [sfind] at ih
    have hb : (k == x) = false := beq_eq_false_iff_ne.2 h
    simp only [sfind, List.zipIdx_cons, List.map_cons, List.find?_cons, hb, List.findIdx?_cons, Bool.false_eq_true, if_false, ih]
    cases r.findIdx? (· == x) with
    | none => rfl
    | some i => simp; omega
theorem nmap_find (ks : List Txt) (x : Txt) : sfind (nmap ks) x = (ks.findIdx? (· == x)).map fun i => .int .i64 ((i : Nat) : Int) := by
 have := nmap_find_from x ks 0
 simpa [nmap] using this
theorem nmap_put (ks : List Txt) (x : Txt) (h : x ∉ ks) : sput (nmap ks) x (.int .i64 (ks.length : Int)) = nmap (ks ++ [x]) := by
 rw [sput_new]
 · simp [nmap, List.zipIdx_append]
 · rw [nmap_find]
   have : ks.findIdx? (· == x) = none := by
    rw [List.findIdx?_eq_none_iff]
    intro y hy
    exact beq_eq_false_iff_ne.2 (fun e => h (e ▸ hy))
   rw [this]; rfl
section
variable {P : Program} {w0 w K K' : World} {M N : List Ent} {ops : Array Oper} {Q : Exit → Act → World → Prop} {F : List Nat} {fuel : Nat} {listed : Array Bool} {a a' : Act} {oi : Oper} {v : Value} {S : World → Prop}
def AtL (P : Program) (ops : Array Oper) (Q : Exit → Act → World → Prop) (S : World → Prop) (F : List Nat) (fuel : Nat) (listed : Array Bool) (i : Nat) (a : Act) (w : World) : Prop :=
 wpOp P ops Q i (fun a' w' => (i ∉ F → S w') ∧ AnyL P .any ops Q S F fuel (listed.setIfInBounds i true) a' w') a w
theorem r2 (i j : Nat) (h1 : AtL P ops Q S F fuel listed i a w) (h2 : AtL P ops Q S F fuel listed j a w) (hr : Region.ready .any ops listed = [i, j] := by kernel_rfl) : AnyL P .any ops Q S F (fuel + 1) listed a w :=
 ⟨fun h0 => (by rw [hr] at h0; cases h0), fun k hk => by
   rw [hr] at hk
   simp only [List.mem_cons, List.mem_nil_iff, or_false] at hk
   rcases hk with rfl | rfl
   · exact h1
   · exact h2⟩
theorem at_step {i : Nat} (ho : ops[i]? = some oi)
  (h : ∀ K' : Act → World → Prop, Shut (∀ a w, (i ∉ F → S w) → ((i ∉ F → S w) → AnyL P .any ops Q S F fuel (listed.setIfInBounds i true) a w) → K' a w) → if Region.wanted oi (yielded ops a.tmps) = true then Oper.wp P oi a w K' Q else K' (a.put oi.dst undef) w) : AtL P ops Q S F fuel listed i a w :=
 wpOp_step ho (fun K' hK => h K' (fun a w hS hW => hK a w ⟨hS, hW hS⟩))
theorem aW {i : Nat} (H : Hp w0 w K' N) {v : Nat → Value} {N' : Nat → List Ent} {a' : Nat → Act} (h : ∀ w' g, Hp w0 w' K' (N' g) → AnyL P .any ops Q (Ov w0 K M) F fuel (listed.setIfInBounds i true) (a' g) w') (hi : ops[i]? = some oi := by (simp only [List.getElem?_toArray, List.getElem?_cons_zero, List.getElem?_cons_succ]; try rfl))
  (hd : Does P oi a w0 w K' N v N' := by first | exact ds1 | exact dsA | exact da | exact dbA | exact db1 | exact dbA1 | exact db11 | exact dbS | fail)
  (ha : ∀ g, a.put oi.dst (v g) = a' g := by (intro g; simp only [Act.put, List.getElem_toArray, List.getElem_cons_zero, List.getElem_cons_succ, List.setIfInBounds_toArray, List.set_cons_zero, List.set_cons_succ]; try rfl))
  (hgd : oi.guard = none := by rfl) (hle : Sat K' K := by first | exact Sat.refl _ | assumption | fail) (hsf : ∀ g, Inc M (N' g) := by (intro g; first | ((repeat (first | exact n0 | exact nN | apply nD)) <;> fail) | ((repeat (first | exact n0 | exact nN | refine nS (by ((repeat (first | exact u0 | apply uS)) <;> fail)) ?_ | apply nD)) <;> fail) | fail)) : AtL P ops Q (Ov w0 K M) F fuel listed i a w :=
 at_step hi fun Kq hKq => by
  rw [if_pos (wantedN hgd)]
  exact hd _ _ H fun w' g H' => hKq.out _ _ (fun _ => ⟨K', _, hle, H', hsf g⟩) (fun _ => by rw [ha g]; exact h w' g H')
theorem aC {i : Nat} {f : FuncId} {xs : Array Value} {R : Ending → World → Prop} (hC : Calls P f xs w R) (h : ∀ e w', R e w' → ∃ v a', e = .returned v ∧ a.put oi.dst v = a' ∧ Ov w0 K M w' ∧ AnyL P .any ops Q (Ov w0 K M) F fuel (listed.setIfInBounds i true) a' w')
  (hi : ops[i]? = some oi := by (simp only [List.getElem?_toArray, List.getElem?_cons_zero, List.getElem?_cons_succ]; try rfl)) (hrun : (execOp a.eval oi).run P w = .ok (.enter f xs) w := by (go_simp; try with_reducible rfl)) (hw : Region.wanted oi (yielded ops a.tmps) = true := by rfl) : AtL P ops Q (Ov w0 K M) F fuel listed i a w :=
 at_step hi fun Kq hKq => by
  rw [if_pos hw]
  unfold Oper.wp
  rw [hrun, Oper.upon_enter]
  refine hC.mono fun e w' hR => ?_
  obtain ⟨v, a', rfl, ha, hS, hW⟩ := h e w' hR
  exact hKq.out _ _ (fun _ => hS) (fun _ => by rw [ha]; exact hW)
end
set_option maxRecDepth 100000
set_option maxHeartbeats 40000000
attribute [local go_sem ↓] Go.wp_at_zero Go.wp_at_succ
instance scM87 : Sc Tryz.prog 87 := ⟨⟨_, Tryz.underlying87, rfl⟩⟩
instance scD22 : Sc Tryz.prog 22 := ⟨⟨_, Tryz.underlying22, rfl⟩⟩
abbrev tbox (g ga gd gf go : Nat) (VT VD : Value) : Ent := .box g [.int .i64 0, .bool false, .bool false, .bool false, .string ⟨#[]⟩, .string ⟨#[]⟩, .slice none 0 0, .slice none 0 0, .slice none 0 0, .slice none 0 0, .slice none 0 0, .slice none 0 0, .slice none 0 0, .bool false, .slice none 0 0, .int .i64 0, .int .i64 0, VT, .map (some ga), VD, .map (some gd), .map (some gf), .map (some go)] 91
theorem zero_int (w : World) : (zeroValue 3).run Tryz.prog w = .ok (.int .i64 0) w := by kernel_rfl
theorem find_none {ks : List Txt} {x : Txt} (h : x ∉ ks) : sfind (nmap ks) x = none := by
 rw [nmap_find]
 have : ks.findIdx? (· == x) = none := by
  rw [List.findIdx?_eq_none_iff]
  intro y hy
  exact beq_eq_false_iff_ne.2 (fun e => h (e ▸ hy))
 rw [this]; rfl
theorem find_some {ks : List Txt} {x : Txt} (h : x ∈ ks) : ∃ i, ks[i]? = some x ∧ (∀ j, j < i → ks[j]? ≠ some x) ∧ sfind (nmap ks) x = some (.int .i64 (i : Nat)) := by
 rw [nmap_find]
 cases hq : ks.findIdx? (· == x) with
 | none =>
  rw [List.findIdx?_eq_none_iff] at hq
  have := hq x h
  simp at this
 | some i =>
  rw [List.findIdx?_eq_some_iff_getElem] at hq
  obtain ⟨hi, h1, h2⟩ := hq
  refine ⟨i, ?_, ?_, rfl⟩
  · rw [List.getElem?_eq_getElem hi]; exact congrArg some (eq_of_beq h1)
  · intro j hj he
    have := h2 j hj
    rw [List.getElem?_eq_getElem (by omega)] at he
    injection he with he
    simp [he] at this
section
variable {P : Program} {w0 w K : World} {M M' : List Ent} {a : Act} {o : Oper}
theorem dlM {t kt et : TypeId} {m x : Operand} {b i : Nat} {l : List (Txt × Value)} {k : Txt} {z r : Value} (ht : P.underlying t = some (.map kt et)) (hk : P.underlying kt = some .string) (hz : ∀ w, (zeroValue et).run P w = .ok z w) (hr : Value.tuple #[(sfind l k).getD z, .bool (sfind l k).isSome] = r)
  (ho : o.op = .lookup t m x true := by rfl) (hm : a.eval m = .map (some b) := by rfl) (hx : a.eval x = .string (str k) := by rfl) (hi : M[i]? = some (.map b (sents l)) := by ((repeat (first | exact i0 | apply iS)) <;> fail)) : DoesL P o a K M r := fun w0 w H => by
 have hrun := run_lookup_s (w := w) ht hk z (hz w) (H.mapAt hi) k true
 rw [if_pos rfl, hr] at hrun
 unfold execOp
 simp only [ho, hm, hx, Sem.run_bind, hrun, Result.andThen_ok, Sem.run_pure]
theorem dsM {t kt et : TypeId} {m x y : Operand} {b i : Nat} {l l' : List (Txt × Value)} {k : Txt} {v : Value} (ht : P.underlying t = some (.map kt et)) (hk : P.underlying kt = some .string) (hl : sput l k v = l')
  (ho : o.op = .mapUpdate t m x y := by rfl) (hm : a.eval m = .map (some b) := by rfl) (hx : a.eval x = .string (str k) := by rfl) (hy : a.eval y = v := by rfl) (hi : M[i]? = some (.map b (sents l)) := by ((repeat (first | exact i0 | apply iS)) <;> fail)) (hM : M.set i (.map b (sents l')) = M' := by (dsimp only [List.set]; try rfl)) : Does P o a w0 w K M (fun _ => undef) (fun _ => M') := fun C Q H h => by
 have hrun := run_update_s (w := w) ht hk (H.mapAt hi) k v
 rw [hl] at hrun
 unfold Oper.wp execOp
 simp only [ho, hm, hx, hy, Sem.run_bind, hrun, Result.andThen_ok, Sem.run_pure]
 exact h _ 0 (hM ▸ H.mapSet hi _)
end
theorem addType_old (d : DefD) (cs : Array Value) (ks : List Txt) (g ga gd gf go : Nat) (VT VD : Value) (w0 w K : World) (M : List Ent) (H : Hp w0 w K (tbox g ga gd gf go VT VD :: .map ga (sents (nmap ks)) :: M)) (hd : RL K (defL d) cs.toList) (hin : d.name ∈ ks) :
  Calls Tryz.prog 59 #[.pointer (some ⟨g, 0, none⟩), .agg cs] w fun e w' => e = .returned (.tuple #[]) ∧ Hp w0 w' K (tbox g ga gd gf go VT VD :: .map ga (sents (nmap ks)) :: M) := by
 obtain ⟨A6, c6, A7, c7, A8, c8, A9, c9, A10, c10, A11, c11, A12, c12, A14, c14, hcs, -⟩ := def_cells hd
 obtain rfl : cs = #[_, _, _, _, _, _, _, _, _, _, _, _, _, _, _, _, _] := Array.toList_inj.1 hcs
 obtain ⟨i, -, -, hf⟩ := find_some hin
 clear hcs hd
 go_enter Tryz.func59, Tryz.ntmps59
 go_upto_region 1 with (first | (refine oL H ?_) | (refine oA 3 H ?_; clear H; intro w g3 H) | (refine oP H ?_; clear H; intro w _ H))
 refine rB [] H ?_; clear H; intro w H
 refine rT 0 H ?_; refine rT 1 H ?_; refine rT 2 H ?_; refine rT 3 H ?_; refine rT 4 H ?_; refine rT 5 H ?_
 refine rT 6 H ?_ (hd := dlM Tryz.underlying87 Tryz.underlying9 zero_int (by rw [hf]))
 refine rT 7 H ?_; refine rT 8 H ?_; refine rT 9 H ?_; refine rT 10 H ?_; refine rT 11 H ?_
 refine rE ?_
 go_wp2_with fail
 refine o0 ?_
 exact ⟨rfl, H.fin⟩
def AddT (d : DefD) (ks : List Txt) (g ga gd gf go : Nat) (VD : Value) (xT : List Value) (w0 K : World) (M : List Ent) (e : Ending) (w' : World) : Prop :=
 ∃ K' V VT', e = .returned (.tuple #[]) ∧ Sat K' K ∧ Hp w0 w' K' (tbox g ga gd gf go VT' VD :: .map ga (sents (nmap (ks ++ [d.name]))) :: .row 43 17 VT' (ks.length + 1) (xT ++ DV.cells d V) :: DV.rows d V ++ M) ∧ V.ok K' d
theorem addType_new (d : DefD) (cs : Array Value) (ks : List Txt) (g ga gd gf go : Nat) (VT VD : Value) (xT : List Value) (w0 w K : World) (M : List Ent) (H : Hp w0 w K (tbox g ga gd gf go VT VD :: .map ga (sents (nmap ks)) :: .row 43 17 VT ks.length xT :: M)) (hd : RL K (defL d) cs.toList) (hin : d.name ∉ ks) (hm : defN d ≤ 9000000) (hk : ks.length ≤ 9000000) :
  Calls Tryz.prog 59 #[.pointer (some ⟨g, 0, none⟩), .agg cs] w (AddT d ks g ga gd gf go VD xT w0 K M) := by
 obtain ⟨A6, c6, A7, c7, A8, c8, A9, c9, A10, c10, A11, c11, A12, c12, A14, c14, hcs, -⟩ := def_cells hd
 obtain rfl : cs = #[_, _, _, _, _, _, _, _, _, _, _, _, _, _, _, _, _] := Array.toList_inj.1 hcs
 have hf := find_none hin
 have hput := nmap_put ks d.name hin
 obtain ⟨VA, Vc, rfl, -, -⟩ := H.slice (i := 2) rfl
 clear hcs
 go_enter Tryz.func59, Tryz.ntmps59
 go_upto_region 1 with (first | (refine oL H ?_) | (refine oA 3 H ?_; clear H; intro w g3 H) | (refine oP H ?_; clear H; intro w _ H))
 refine rB [] H ?_; clear H; intro w H
 refine rT 0 H ?_; refine rT 1 H ?_; refine rT 2 H ?_; refine rT 3 H ?_; refine rT 4 H ?_; refine rT 5 H ?_
 refine rT 6 H ?_ (hd := dlM Tryz.underlying87 Tryz.underlying9 zero_int (by rw [hf]))
 refine rT 7 H ?_; refine rT 8 H ?_; refine rT 9 H ?_; refine rT 10 H ?_; refine rT 11 H ?_
 refine rE ?_
 go_wp2_with fail
 refine rB [11] H ?_; clear H; intro w H
 refine rT 0 H ?_; refine rT 1 H ?_; refine rT 2 H ?_; refine rT 3 H ?_; refine rT 4 H ?_; refine rT 5 H ?_; refine rT 6 H ?_; refine rT 7 H ?_; refine rT 8 H ?_; refine rT 9 H ?_; refine rT 10 H ?_
 refine rL 11 H ?_ (hd := dsM Tryz.underlying87 Tryz.underlying9 hput); clear H; intro w _ H
 refine rE ?_
 go_wp2_with fail
 refine rN [.box g3 _ _, .box g _ _] [11] H ?_; clear H; intro w H
 refine rT 0 H ?_; refine rT 1 H ?_; refine rT 2 H ?_; refine rT 3 H ?_; refine rT 4 H ?_; refine rT 5 H ?_
 refine rC 6 (copyDef_rows d _ H hm hd) ?_; clear H; rintro e w ⟨K5, V, rfl, hle, H, hV⟩; have ho := dv_one H; replace H : Hp _ _ _ (.row 52 10 V.v8 d.fields.length V.x8 :: .row 133 7 V.v11 d.values.length V.x11 :: .row 113 3 V.v6 d.ifaces.length V.x6 :: .row 113 3 V.v10 d.members.length V.x10 :: .row 113 3 V.v14 d.places.length V.x14 :: .row 100 4 V.v12 d.roots.length V.x12 :: .row 123 17 V.v9 d.inputs.length V.x9 :: .row 181 4 V.v7 d.dirs.length V.x7 :: _) := H; refine rX H ?_ (v := .agg #[.int .i64 d.kind, .bool d.ext, .bool d.note.has, .bool d.note.block, .string (str d.note.text), .string (str d.name), V.v6, V.v7, V.v8, V.v9, V.v10, V.v11, V.v12, .bool d.rep, V.v14, .int .i64 d.line, .int .i64 d.col])
 refine rW 7 H ?_; clear H; intro w g7 H
 refine rA 8 H ?_ (h1 := ho); clear H; intro A8 c8 w _ _ H; dsimp only [List.set] at H
 refine rT 9 H ?_; refine rT 10 H ?_
 refine rL 11 H ?_; clear H; intro w _ H
 refine rE ?_
 go_wp2_with fail
 refine o0 ?_
 exact ⟨K5, V, _, rfl, hle, (show Hp _ _ _ (tbox _ _ _ _ _ _ _ :: _ :: _ :: .row 52 10 V.v8 d.fields.length V.x8 :: .row 133 7 V.v11 d.values.length V.x11 :: .row 113 3 V.v6 d.ifaces.length V.x6 :: .row 113 3 V.v10 d.members.length V.x10 :: .row 113 3 V.v14 d.places.length V.x14 :: .row 100 4 V.v12 d.roots.length V.x12 :: .row 123 17 V.v9 d.inputs.length V.x9 :: .row 181 4 V.v7 d.dirs.length V.x7 :: M) from H.fin), hV⟩
theorem addDir_old (d : DefD) (cs : Array Value) (ks : List Txt) (g ga gd gf go : Nat) (VT VD : Value) (w0 w K : World) (M : List Ent) (H : Hp w0 w K (tbox g ga gd gf go VT VD :: .map gd (sents (nmap ks)) :: M)) (hd : RL K (defL d) cs.toList) (hin : d.name ∈ ks) :
  Calls Tryz.prog 58 #[.pointer (some ⟨g, 0, none⟩), .agg cs] w fun e w' => e = .returned (.tuple #[]) ∧ Hp w0 w' K (tbox g ga gd gf go VT VD :: .map gd (sents (nmap ks)) :: M) := by
 obtain ⟨A6, c6, A7, c7, A8, c8, A9, c9, A10, c10, A11, c11, A12, c12, A14, c14, hcs, -⟩ := def_cells hd
 obtain rfl : cs = #[_, _, _, _, _, _, _, _, _, _, _, _, _, _, _, _, _] := Array.toList_inj.1 hcs
 obtain ⟨i, -, -, hf⟩ := find_some hin
 clear hcs hd
 go_enter Tryz.func58, Tryz.ntmps58
 go_upto_region 1 with (first | (refine oL H ?_) | (refine oA 3 H ?_; clear H; intro w g3 H) | (refine oP H ?_; clear H; intro w _ H))
 refine rB [] H ?_; clear H; intro w H
 refine rT 0 H ?_; refine rT 1 H ?_; refine rT 2 H ?_; refine rT 3 H ?_; refine rT 4 H ?_; refine rT 5 H ?_
 refine rT 6 H ?_ (hd := dlM Tryz.underlying87 Tryz.underlying9 zero_int (by rw [hf]))
 refine rT 7 H ?_; refine rT 8 H ?_; refine rT 9 H ?_; refine rT 10 H ?_; refine rT 11 H ?_
 refine rE ?_
 go_wp2_with fail
 refine o0 ?_
 exact ⟨rfl, H.fin⟩
def AddD (d : DefD) (ks : List Txt) (g ga gd gf go : Nat) (VT : Value) (xD : List Value) (w0 K : World) (M : List Ent) (e : Ending) (w' : World) : Prop :=
 ∃ K' xs VD', e = .returned (.tuple #[]) ∧ Sat K' K ∧ Hp w0 w' K' (tbox g ga gd gf go VT VD' :: .map gd (sents (nmap (ks ++ [d.name]))) :: .row 43 17 VD' (ks.length + 1) (xD ++ xs) :: M) ∧ RL K' (defL d) xs
theorem addDir_new (d : DefD) (cs : Array Value) (ks : List Txt) (g ga gd gf go : Nat) (VT VD : Value) (xD : List Value) (w0 w K : World) (M : List Ent) (H : Hp w0 w K (tbox g ga gd gf go VT VD :: .map gd (sents (nmap ks)) :: .row 43 17 VD ks.length xD :: M)) (hd : RL K (defL d) cs.toList) (hin : d.name ∉ ks) (hm : defN d ≤ 9000000) (hk : ks.length ≤ 9000000) :
  Calls Tryz.prog 58 #[.pointer (some ⟨g, 0, none⟩), .agg cs] w (AddD d ks g ga gd gf go VT xD w0 K M) := by
 obtain ⟨A6, c6, A7, c7, A8, c8, A9, c9, A10, c10, A11, c11, A12, c12, A14, c14, hcs, -⟩ := def_cells hd
 obtain rfl : cs = #[_, _, _, _, _, _, _, _, _, _, _, _, _, _, _, _, _] := Array.toList_inj.1 hcs
 have hf := find_none hin
 have hput := nmap_put ks d.name hin
 obtain ⟨VA, Vc, rfl, -, -⟩ := H.slice (i := 2) rfl
 clear hcs
 go_enter Tryz.func58, Tryz.ntmps58
 go_upto_region 1 with (first | (refine oL H ?_) | (refine oA 3 H ?_; clear H; intro w g3 H) | (refine oP H ?_; clear H; intro w _ H))
 refine rB [] H ?_; clear H; intro w H
 refine rT 0 H ?_; refine rT 1 H ?_; refine rT 2 H ?_; refine rT 3 H ?_; refine rT 4 H ?_; refine rT 5 H ?_
 refine rT 6 H ?_ (hd := dlM Tryz.underlying87 Tryz.underlying9 zero_int (by rw [hf]))
 refine rT 7 H ?_; refine rT 8 H ?_; refine rT 9 H ?_; refine rT 10 H ?_; refine rT 11 H ?_
 refine rE ?_
 go_wp2_with fail
 refine rB [11] H ?_; clear H; intro w H
 refine rT 0 H ?_; refine rT 1 H ?_; refine rT 2 H ?_; refine rT 3 H ?_; refine rT 4 H ?_; refine rT 5 H ?_; refine rT 6 H ?_; refine rT 7 H ?_; refine rT 8 H ?_; refine rT 9 H ?_; refine rT 10 H ?_
 refine rL 11 H ?_ (hd := dsM Tryz.underlying87 Tryz.underlying9 hput); clear H; intro w _ H
 refine rE ?_
 go_wp2_with fail
 refine rN [.box g3 _ _, .box g _ _] [11] H ?_; clear H; intro w H
 refine rT 0 H ?_; refine rT 1 H ?_; refine rT 2 H ?_; refine rT 3 H ?_; refine rT 4 H ?_; refine rT 5 H ?_
 refine rC 6 (copyDef_hp d _ H hm hd) ?_; clear H; rintro e w ⟨K5, cs5, rfl, hle, H, he⟩; have ho := he.one; obtain ⟨B6, e6, B7, e7, B8, e8, B9, e9, B10, e10, B11, e11, B12, e12, B14, e14, hcs, -⟩ := def_cells he; obtain rfl : cs5 = #[_, _, _, _, _, _, _, _, _, _, _, _, _, _, _, _, _] := Array.toList_inj.1 hcs; clear hcs; refine rX H ?_
 refine rW 7 H ?_; clear H; intro w g7 H
 refine rA 8 H ?_ (h1 := ho); clear H; intro A8 c8 w _ _ H; dsimp only [List.set] at H
 refine rT 9 H ?_; refine rT 10 H ?_
 refine rL 11 H ?_; clear H; intro w _ H
 refine rE ?_
 go_wp2_with fail
 refine o0 ?_
 exact ⟨K5, _, _, rfl, hle, H.fin, he⟩
end Go.Proofs.YtbpgkkoeehopjaaGreat.hp
