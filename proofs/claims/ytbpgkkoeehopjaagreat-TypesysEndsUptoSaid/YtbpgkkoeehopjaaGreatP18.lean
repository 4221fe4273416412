/- TypesysEndsUpto: over any type-system definitions, made by hand too, and over none, every call of the type system ends and none panics; no condition beyond those of the given statement. -/
import Derived.Test.YtbpgkkoeehopjaaGreatP1
import Derived.Test.YtbpgkkoeehopjaaGreatP4
import Derived.Test.YtbpgkkoeehopjaaGreatP17
import Derived.Test.YtbpgkkoeehopjaaGreatRows
import Derived.ChangeArms
import Derived.ProofKit
import Derived.OpenShut
import Derived.Deep.Matrix
import Derived.SizedLaws
import Derived.WalkKit
import Derived.JoinedCond
set_option linter.unusedVariables false
set_option linter.unusedSimpArgs false
namespace Go.Proofs.YtbpgkkoeehopjaaGreat.opn
open Go.Proofs.YtbpgkkoeehopjaaGreat.words Go.Proofs.YtbpgkkoeehopjaaGreat.tree Go.Proofs.YtbpgkkoeehopjaaGreat.gram Go.Proofs.YtbpgkkoeehopjaaGreat.rd Go.Proofs.YtbpgkkoeehopjaaGreat.dat
set_option maxRecDepth 100000
theorem len_succ {α : Type} {l : List α} {n : Nat} (h : l.length = n + 1) : ∃ a r, l = a :: r ∧ r.length = n := by
 cases l with
 | nil => cases h
 | cons a r => exact ⟨a, r, rfl, by simpa using h⟩
theorem len_zero {α : Type} {l : List α} (h : l.length = 0) : l = [] := List.eq_nil_of_length_eq_zero h
section
variable {H : Type} {enc : TypeId × Value → H} {w : World} {sp : Nat → Bool} {held : Bool}
abbrev bulk (d : DataW H) : Nat := Rows.uptoBulk d
abbrev bulks (l : List (DataW H)) : Nat := Rows.uptoBulkAll l
theorem bulks_nil : bulks ([] : List (DataW H)) = 0 := by simp [bulks, Rows.uptoBulkAll]
theorem bulks_cons (d : DataW H) (l : List (DataW H)) : bulks (d :: l) = bulk d + bulks l := by simp [bulks, bulk, Rows.uptoBulkAll]
theorem bulks_app (a b : List (DataW H)) : bulks (a ++ b) = bulks a + bulks b := by
 induction a with
 | nil => simp [bulks_nil]
 | cons d l ih => rw [List.cons_append, bulks_cons, bulks_cons, ih]; omega
def Op (enc : TypeId × Value → H) (w : World) (sp : Nat → Bool) (held : Bool) (t : TypeId) {α : Type} (f : α → List Leaf) (N : α → Nat) (Q : α → Prop) (m : Nat) : Prop :=
 ∀ cs x, DataW.trod enc Tryz.prog w 0 sp held m t cs = some x → bulk x.1 ≤ 1048576 → ∃ d : α, ReadsL w (Lo w.heap.size) (f d) cs ∧ N d ≤ bulk x.1 ∧ Q d
theorem struct_open {t : TypeId} {fs : Array Field} {m : Nat} {cs : List Value} {x : DataW H × List MemPlace} (ht : Tryz.prog.underlying t = some (.struct fs)) (h : DataW.trod enc Tryz.prog w 0 sp held m t cs = some x) :
  ∃ (xs : List (DataW H × List MemPlace)) (n : Nat), m = n + 1 ∧ bulk x.1 = bulks (xs.map (·.1)) + 1 ∧ cs.length = Tryz.prog.cellsOf t ∧ xs.length = fs.size ∧
   ∀ (i : Nat) (f : Field), fs[i]? = some f → DataW.trod enc Tryz.prog w 0 sp held n f.type ((cs.drop f.offset).take (Tryz.prog.cellsOf f.type)) = xs[i]? := by
 obtain ⟨xs, n, h1, h2, h3, h4, h5⟩ := DataW.trod_struct ht h
 exact ⟨xs, n, h1, by rw [h2]; simp only [bulk, Rows.uptoBulk], h3, h4, h5⟩
theorem o_str {m : Nat} {c : Value} {y : DataW H × List MemPlace} (h : DataW.trod enc Tryz.prog w 0 sp held m 9 [c] = some y) : ∃ s : Txt, c = .string (str s) ∧ s.length + 1 = bulk y.1 := by
 obtain ⟨s, hc, hy, _⟩ := DataW.trod_string Tryz.underlying9 h
 injection hc with hc _
 refine ⟨s.data.toList, by rw [str_of]; exact hc, ?_⟩
 rw [hy]
 simp [bulk, Rows.uptoBulk]
theorem o_int {t : TypeId} {m : Nat} {c : Value} {y : DataW H × List MemPlace} (ht : Tryz.prog.underlying t = some (.int .i64)) (h : DataW.trod enc Tryz.prog w 0 sp held m t [c] = some y) : ∃ i : Int, c = .int .i64 i := by
 obtain ⟨i, hc, _, _⟩ := DataW.trod_int ht h
 injection hc with hc _
 exact ⟨i, hc⟩
theorem o_bool {m : Nat} {c : Value} {y : DataW H × List MemPlace} (h : DataW.trod enc Tryz.prog w 0 sp held m 4 [c] = some y) : ∃ b : Bool, c = .bool b := by
 obtain ⟨i, hc, _⟩ := DataW.trod_bool Tryz.underlying4 h
 injection hc with hc _
 exact ⟨i, hc⟩
theorem c_int : Tryz.prog.cellsOf 3 = 1 := by kernel_rfl
theorem c_str : Tryz.prog.cellsOf 9 = 1 := by kernel_rfl
theorem c_bool : Tryz.prog.cellsOf 4 = 1 := by kernel_rfl
theorem o_pos {m : Nat} {c d : Value} {y : DataW H × List MemPlace} (h : DataW.trod enc Tryz.prog w 0 sp held m 41 [c, d] = some y) : ∃ a b : Int, c = .int .i64 a ∧ d = .int .i64 b := by
 obtain ⟨xs, n, rfl, _, _, hl, hx⟩ := struct_open Tryz.underlying41 h
 obtain ⟨y0, xs1, e0, hl1⟩ := len_succ hl; subst e0
 obtain ⟨y1, xs2, e1, hl2⟩ := len_succ hl1; subst e1
 have h0 := hx 0 _ rfl
 have h1 := hx 1 _ rfl
 simp only [List.getElem_toArray, List.getElem_cons_zero, List.getElem_cons_succ] at h0 h1
 rw [c_int] at h0 h1
 obtain ⟨a, ha⟩ := o_int Tryz.underlying3 (y := y0) h0
 obtain ⟨b, hb⟩ := o_int Tryz.underlying3 (y := y1) h1
 exact ⟨a, b, ha, hb⟩
theorem o_note {m : Nat} {c d e : Value} {y : DataW H × List MemPlace} (h : DataW.trod enc Tryz.prog w 0 sp held m 33 [c, d, e] = some y) : ∃ (a b : Bool) (s : Txt), c = .bool a ∧ d = .bool b ∧ e = .string (str s) := by
 obtain ⟨xs, n, rfl, _, _, hl, hx⟩ := struct_open Tryz.underlying33 h
 obtain ⟨y0, xs1, e0, hl1⟩ := len_succ hl; subst e0
 obtain ⟨y1, xs2, e1, hl2⟩ := len_succ hl1; subst e1
 obtain ⟨y2, xs3, e2, hl3⟩ := len_succ hl2; subst e2
 have h0 := hx 0 _ rfl
 have h1 := hx 1 _ rfl
 have h2 := hx 2 _ rfl
 simp only [List.getElem_toArray, List.getElem_cons_zero, List.getElem_cons_succ] at h0 h1 h2
 rw [c_bool] at h0 h1
 rw [c_str] at h2
 obtain ⟨a, ha⟩ := o_bool (y := y0) h0
 obtain ⟨b, hb⟩ := o_bool (y := y1) h1
 obtain ⟨s, hs, _⟩ := o_str (y := y2) h2
 exact ⟨a, b, s, ha, hb, hs⟩
theorem o_ref {m : Nat} {c d : Value} {y : DataW H × List MemPlace} (h : DataW.trod enc Tryz.prog w 0 sp held m 50 [c, d] = some y) : ∃ a b : Txt, c = .string (str a) ∧ d = .string (str b) ∧ a.length + b.length ≤ bulk y.1 := by
 obtain ⟨xs, n, rfl, hbk, _, hl, hx⟩ := struct_open Tryz.underlying50 h
 obtain ⟨y0, xs1, e0, hl1⟩ := len_succ hl; subst e0
 obtain ⟨y1, xs2, e1, hl2⟩ := len_succ hl1; subst e1
 obtain rfl := len_zero hl2
 have h0 := hx 0 _ rfl
 have h1 := hx 1 _ rfl
 simp only [List.getElem_toArray, List.getElem_cons_zero, List.getElem_cons_succ] at h0 h1
 rw [c_str] at h0 h1
 obtain ⟨a, ha, la⟩ := o_str (y := y0) h0
 obtain ⟨b, hb, lb⟩ := o_str (y := y1) h1
 simp only [List.map_cons, List.map_nil, bulks_cons, bulks_nil] at hbk
 exact ⟨a, b, ha, hb, by omega⟩
theorem cells_get {a : Addr} {n : Nat} {cs : List Value} (h : w.cells? 0 a n = some cs) : cs.length = n ∧ ∀ j u, cs[j]? = some u → w.cell? (a.add j) = some u := by
 unfold World.cells? at h
 rw [if_pos (Nat.zero_le _)] at h
 refine ⟨by simpa using mapM_some_length h, fun j u hj => ?_⟩
 have hlt : j < cs.length := (List.getElem?_eq_some_iff.1 hj).1
 have hl : cs.length = n := by simpa using mapM_some_length h
 have := mapM_some_get h j j (by rw [List.getElem?_range (by omega)])
 rw [this]; exact hj
theorem o_list {t e : TypeId} {α : Type} {f : α → List Leaf} {N : α → Nat} {Q : α → Prop} {k m : Nat} (ht : Tryz.prog.underlying t = some (.slice e)) (hc : Tryz.prog.cellsOf e = k) (hk : 0 < k) (hf : ∀ d, (f d).length = k) (h : ∀ n, n < m → Op enc w sp held e f N Q n)
  {c : Value} {y : DataW H × List MemPlace} (hy : DataW.trod enc Tryz.prog w 0 sp held m t [c] = some y) (hb : bulk y.1 ≤ 1048576) :
  ∃ l : List α, Reads w (Lo w.heap.size) (.list l.length (l.flatMap f)) c ∧ sumN N l + 1 ≤ bulk y.1 ∧ ∀ d ∈ l, Q d := by
 rcases DataW.trod_slice ht hy with ⟨h0, hx⟩ | ⟨a, len, cap, elems, rest, n, rfl, h0, hx, _, hl, hm, hlen, hel, _⟩
 · injection h0 with h0 _
   refine ⟨[], by rw [h0]; exact nil_reads, ?_, fun d hd => by cases hd⟩
   rw [hx]; simp [bulk, Rows.uptoBulk, sumN]
 · injection h0 with h0 _
   have hbk : bulk y.1 = bulks (elems.map (·.1)) + bulks (rest.map (·.1)) + 1 := by rw [hx]; simp only [bulk, bulks, Rows.uptoBulk]
   have main : ∀ i, i ≤ len → ∃ (l : List α) (vs : List Value), l.length = i ∧ vs.length = i * k ∧ ReadsL w (Lo w.heap.size) (l.flatMap f) vs ∧ (∀ j u, vs[j]? = some u → w.cell? (a.add j) = some u) ∧ sumN N l ≤ bulks ((elems.take i).map (·.1)) ∧ ∀ d ∈ l, Q d := by
    intro i
    induction i with
    | zero => intro _; exact ⟨[], [], rfl, by simp, ReadsL.nil, fun j u hu => by simp at hu, by simp [sumN], fun d hd => by cases hd⟩
    | succ i ih =>
     intro hi
     obtain ⟨l, vs, h1, h2, h3, h4, h5, h6⟩ := ih (by omega)
     have hE := hel i (by omega)
     obtain ⟨z, hz⟩ : ∃ z, elems[i]? = some z := ⟨_, List.getElem?_eq_getElem (by omega)⟩
     rw [hz, hc] at hE
     simp only [Option.bind_eq_some_iff] at hE
     obtain ⟨cs, hcs, htr⟩ := hE
     obtain ⟨hcl, hcg⟩ := cells_get hcs
     have hzb : bulk z.1 ≤ bulks (elems.map (·.1)) := by
      have hs : elems = elems.take i ++ z :: elems.drop (i + 1) := by
       obtain ⟨hlt, rfl⟩ := List.getElem?_eq_some_iff.1 hz
       simp
      rw [hs, List.map_append, List.map_cons, bulks_app, bulks_cons]
      omega
     obtain ⟨d, g1, g2, g3⟩ := h n (Nat.lt_succ_self _) cs z htr (by omega)
     have htk : elems.take (i + 1) = elems.take i ++ [z] := by rw [List.take_add_one, hz]; rfl
     refine ⟨l ++ [d], vs ++ cs, by simp [h1], by rw [List.length_append, h2, hcl, Nat.succ_mul], ?_, ?_, ?_, ?_⟩
     · rw [List.flatMap_append]
       have e1 : [d].flatMap f = f d := by simp
       rw [e1]
       exact h3.app g1
     · intro j u hu
       rcases Nat.lt_or_ge j vs.length with hj | hj
       · rw [List.getElem?_append_left hj] at hu; exact h4 j u hu
       · rw [List.getElem?_append_right hj] at hu
         have := hcg _ u hu
         rw [add_add, h2] at this
         have e : i * k + (j - i * k) = j := by omega
         rw [e] at this
         exact this
     · rw [htk, List.map_append, bulks_app, sum_app]
       have e2 : bulks ([z].map (·.1)) = bulk z.1 := by rw [List.map_cons, List.map_nil, bulks_cons, bulks_nil]; omega
       have e3 : sumN N [d] = N d := by simp [sumN]
       rw [e2, e3]; omega
     · intro x hx
       rcases List.mem_append.1 hx with hx | hx
       · exact h6 x hx
       · rw [List.mem_singleton.1 hx]; exact g3
   obtain ⟨l, vs, h1, h2, h3, h4, h5, h6⟩ := main len (Nat.le_refl _)
   refine ⟨l, ?_, ?_, h6⟩
   · rw [h0, h1]
     refine list_reads hl hm h3 (fun hne => ⟨a, rfl, ?_, h4⟩)
     obtain ⟨u, r, hvs⟩ := List.exists_cons_of_ne_nil hne
     have hcell := h4 0 u (by rw [hvs]; rfl)
     have hblk := World.block_lt_of_cell? _ _ hcell
     rw [add_block] at hblk
     exact hblk
   · rw [List.take_of_length_le (by omega)] at h5
     omega
theorem lits_sum : ∀ l, litsN l = sumN litN l
 | [] => rfl
 | d :: r => by rw [litsN, sumN, lits_sum r]
theorem pairs_sum : ∀ l, pairsN l = sumN pairN l
 | [] => rfl
 | d :: r => by rw [pairsN, sumN, pairs_sum r]
theorem capi_Lit : Tryz.prog.cellsOf 121 = 7 := by kernel_rfl
theorem capi_LitField : Tryz.prog.cellsOf 219 = 10 := by kernel_rfl
theorem capi_Pos : Tryz.prog.cellsOf 41 = 2 := by kernel_rfl
theorem o_LitField_at (m : Nat) (ih : ∀ n, n < m → Op enc w sp held 121 litL litN (fun _ => True) n) : Op enc w sp held 219 pairL pairN (fun _ => True) m := by
 intro cs x h hb
 obtain ⟨xs, n, rfl, hbk, hcl, hl, hx⟩ := struct_open Tryz.underlying219 h
 rw [capi_LitField] at hcl
 have hcl0 := hcl
 obtain ⟨c0, cs1, e, hcl1⟩ := len_succ hcl0; subst e
 obtain ⟨c1, cs2, e, hcl2⟩ := len_succ hcl1; subst e
 obtain ⟨c2, cs3, e, hcl3⟩ := len_succ hcl2; subst e
 obtain ⟨c3, cs4, e, hcl4⟩ := len_succ hcl3; subst e
 obtain ⟨c4, cs5, e, hcl5⟩ := len_succ hcl4; subst e
 obtain ⟨c5, cs6, e, hcl6⟩ := len_succ hcl5; subst e
 obtain ⟨c6, cs7, e, hcl7⟩ := len_succ hcl6; subst e
 obtain ⟨c7, cs8, e, hcl8⟩ := len_succ hcl7; subst e
 obtain ⟨c8, cs9, e, hcl9⟩ := len_succ hcl8; subst e
 obtain ⟨c9, cs10, e, hcl10⟩ := len_succ hcl9; subst e
 obtain rfl := len_zero hcl10
 have hl0 := hl
 obtain ⟨y0, xs1, e, hl1⟩ := len_succ hl0; subst e
 obtain ⟨y1, xs2, e, hl2⟩ := len_succ hl1; subst e
 obtain ⟨y2, xs3, e, hl3⟩ := len_succ hl2; subst e
 obtain rfl := len_zero hl3
 have h0 := hx 0 _ rfl
 have h1 := hx 1 _ rfl
 have h2 := hx 2 _ rfl
 clear hx h
 simp only [List.map_cons, List.map_nil, bulks_cons, bulks_nil] at hbk
 simp only [List.getElem_toArray, List.getElem_cons_zero, List.getElem_cons_succ] at h0
 rw [c_str] at h0
 replace h0 : DataW.trod enc Tryz.prog w 0 sp held n 9 [c0] = some y0 := h0
 obtain ⟨a0, e0, b0⟩ := o_str h0
 simp only [List.getElem_toArray, List.getElem_cons_zero, List.getElem_cons_succ] at h1
 rw [capi_Lit] at h1
 replace h1 : DataW.trod enc Tryz.prog w 0 sp held n 121 [c1, c2, c3, c4, c5, c6, c7] = some y1 := h1
 obtain ⟨a1, r1, b1, _⟩ := (ih n (by omega)) _ _ h1 (by omega)
 simp only [List.getElem_toArray, List.getElem_cons_zero, List.getElem_cons_succ] at h2
 rw [capi_Pos] at h2
 replace h2 : DataW.trod enc Tryz.prog w 0 sp held n 41 [c8, c9] = some y2 := h2
 obtain ⟨a2, a2c, e2, e2c⟩ := o_pos h2
 subst e0 e2 e2c
 refine ⟨.mk a0 a1 a2 a2c, ?_, by simp only [pairN]; omega, trivial⟩
 first | exact (ReadsL.cons (lit_reads rfl) (ReadsL.app r1 (ReadsL.cons (lit_reads rfl) (ReadsL.cons (lit_reads rfl) ReadsL.nil)))) | (simp only [pairL]; exact (ReadsL.cons (lit_reads rfl) (ReadsL.app r1 (ReadsL.cons (lit_reads rfl) (ReadsL.cons (lit_reads rfl) ReadsL.nil)))))
theorem capi_LitKind : Tryz.prog.cellsOf 117 = 1 := by kernel_rfl
theorem c__api_Lit : Tryz.prog.cellsOf 118 = 1 := by kernel_rfl
theorem c__api_LitField : Tryz.prog.cellsOf 119 = 1 := by kernel_rfl
theorem o_Lit_at (m : Nat) (ih : ∀ n, n < m → Op enc w sp held 121 litL litN (fun _ => True) n) (ihp : ∀ n, n < m → Op enc w sp held 219 pairL pairN (fun _ => True) n) : Op enc w sp held 121 litL litN (fun _ => True) m := by
 intro cs x h hb
 obtain ⟨xs, n, rfl, hbk, hcl, hl, hx⟩ := struct_open Tryz.underlying121 h
 rw [capi_Lit] at hcl
 have hcl0 := hcl
 obtain ⟨c0, cs1, e, hcl1⟩ := len_succ hcl0; subst e
 obtain ⟨c1, cs2, e, hcl2⟩ := len_succ hcl1; subst e
 obtain ⟨c2, cs3, e, hcl3⟩ := len_succ hcl2; subst e
 obtain ⟨c3, cs4, e, hcl4⟩ := len_succ hcl3; subst e
 obtain ⟨c4, cs5, e, hcl5⟩ := len_succ hcl4; subst e
 obtain ⟨c5, cs6, e, hcl6⟩ := len_succ hcl5; subst e
 obtain ⟨c6, cs7, e, hcl7⟩ := len_succ hcl6; subst e
 obtain rfl := len_zero hcl7
 have hl0 := hl
 obtain ⟨y0, xs1, e, hl1⟩ := len_succ hl0; subst e
 obtain ⟨y1, xs2, e, hl2⟩ := len_succ hl1; subst e
 obtain ⟨y2, xs3, e, hl3⟩ := len_succ hl2; subst e
 obtain ⟨y3, xs4, e, hl4⟩ := len_succ hl3; subst e
 obtain ⟨y4, xs5, e, hl5⟩ := len_succ hl4; subst e
 obtain ⟨y5, xs6, e, hl6⟩ := len_succ hl5; subst e
 obtain rfl := len_zero hl6
 have h0 := hx 0 _ rfl
 have h1 := hx 1 _ rfl
 have h2 := hx 2 _ rfl
 have h3 := hx 3 _ rfl
 have h4 := hx 4 _ rfl
 have h5 := hx 5 _ rfl
 clear hx h
 simp only [List.map_cons, List.map_nil, bulks_cons, bulks_nil] at hbk
 simp only [List.getElem_toArray, List.getElem_cons_zero, List.getElem_cons_succ] at h0
 rw [capi_LitKind] at h0
 replace h0 : DataW.trod enc Tryz.prog w 0 sp held n 117 [c0] = some y0 := h0
 obtain ⟨a0, e0⟩ := o_int Tryz.underlying117 h0
 simp only [List.getElem_toArray, List.getElem_cons_zero, List.getElem_cons_succ] at h1
 rw [c_str] at h1
 replace h1 : DataW.trod enc Tryz.prog w 0 sp held n 9 [c1] = some y1 := h1
 obtain ⟨a1, e1, b1⟩ := o_str h1
 simp only [List.getElem_toArray, List.getElem_cons_zero, List.getElem_cons_succ] at h2
 rw [c_bool] at h2
 replace h2 : DataW.trod enc Tryz.prog w 0 sp held n 4 [c2] = some y2 := h2
 obtain ⟨a2, e2⟩ := o_bool h2
 simp only [List.getElem_toArray, List.getElem_cons_zero, List.getElem_cons_succ] at h3
 rw [c__api_Lit] at h3
 replace h3 : DataW.trod enc Tryz.prog w 0 sp held n 118 [c3] = some y3 := h3
 obtain ⟨a3, r3, b3, q3⟩ := o_list (f := litL) (N := litN) (Q := fun _ => True) Tryz.underlying118 capi_Lit (by omega) litL_len (fun j hj => ih j (by omega)) h3 (by omega)
 rw [← litsL_eq] at r3
 simp only [List.getElem_toArray, List.getElem_cons_zero, List.getElem_cons_succ] at h4
 rw [c__api_LitField] at h4
 replace h4 : DataW.trod enc Tryz.prog w 0 sp held n 119 [c4] = some y4 := h4
 obtain ⟨a4, r4, b4, q4⟩ := o_list (f := pairL) (N := pairN) (Q := fun _ => True) Tryz.underlying119 capi_LitField (by omega) pairL_len (fun j hj => ihp j (by omega)) h4 (by omega)
 rw [← pairsL_eq] at r4
 simp only [List.getElem_toArray, List.getElem_cons_zero, List.getElem_cons_succ] at h5
 rw [capi_Pos] at h5
 replace h5 : DataW.trod enc Tryz.prog w 0 sp held n 41 [c5, c6] = some y5 := h5
 obtain ⟨a5, a5c, e5, e5c⟩ := o_pos h5
 subst e0 e1 e2 e5 e5c
 have z3 : litsN a3 = sumN litN a3 := lits_sum a3
 have z4 : pairsN a4 = sumN pairN a4 := pairs_sum a4
 refine ⟨.mk a0 a1 a2 a3 a4 a5 a5c, ?_, by simp only [litN]; omega, trivial⟩
 first | exact (ReadsL.cons (lit_reads rfl) (ReadsL.cons (lit_reads rfl) (ReadsL.cons (lit_reads rfl) (ReadsL.cons r3 (ReadsL.cons r4 (ReadsL.cons (lit_reads rfl) (ReadsL.cons (lit_reads rfl) ReadsL.nil))))))) | (simp only [litL]; exact (ReadsL.cons (lit_reads rfl) (ReadsL.cons (lit_reads rfl) (ReadsL.cons (lit_reads rfl) (ReadsL.cons r3 (ReadsL.cons r4 (ReadsL.cons (lit_reads rfl) (ReadsL.cons (lit_reads rfl) ReadsL.nil))))))))
theorem o_Lit (m : Nat) : Op enc w sp held 121 litL litN (fun _ => True) m := by
 induction m using Nat.strongRecOn with
 | _ m ih => exact o_Lit_at m ih (fun n hn => o_LitField_at n (fun j hj => ih j (by omega)))
theorem capi_Arg : Tryz.prog.cellsOf 185 = 10 := by kernel_rfl
theorem o_Arg (m : Nat) : Op enc w sp held 185 pairL pairN (fun _ => True) m := by
 intro cs x h hb
 obtain ⟨xs, n, rfl, hbk, hcl, hl, hx⟩ := struct_open Tryz.underlying185 h
 rw [capi_Arg] at hcl
 have hcl0 := hcl
 obtain ⟨c0, cs1, e, hcl1⟩ := len_succ hcl0; subst e
 obtain ⟨c1, cs2, e, hcl2⟩ := len_succ hcl1; subst e
 obtain ⟨c2, cs3, e, hcl3⟩ := len_succ hcl2; subst e
 obtain ⟨c3, cs4, e, hcl4⟩ := len_succ hcl3; subst e
 obtain ⟨c4, cs5, e, hcl5⟩ := len_succ hcl4; subst e
 obtain ⟨c5, cs6, e, hcl6⟩ := len_succ hcl5; subst e
 obtain ⟨c6, cs7, e, hcl7⟩ := len_succ hcl6; subst e
 obtain ⟨c7, cs8, e, hcl8⟩ := len_succ hcl7; subst e
 obtain ⟨c8, cs9, e, hcl9⟩ := len_succ hcl8; subst e
 obtain ⟨c9, cs10, e, hcl10⟩ := len_succ hcl9; subst e
 obtain rfl := len_zero hcl10
 have hl0 := hl
 obtain ⟨y0, xs1, e, hl1⟩ := len_succ hl0; subst e
 obtain ⟨y1, xs2, e, hl2⟩ := len_succ hl1; subst e
 obtain ⟨y2, xs3, e, hl3⟩ := len_succ hl2; subst e
 obtain rfl := len_zero hl3
 have h0 := hx 0 _ rfl
 have h1 := hx 1 _ rfl
 have h2 := hx 2 _ rfl
 clear hx h
 simp only [List.map_cons, List.map_nil, bulks_cons, bulks_nil] at hbk
 simp only [List.getElem_toArray, List.getElem_cons_zero, List.getElem_cons_succ] at h0
 rw [c_str] at h0
 replace h0 : DataW.trod enc Tryz.prog w 0 sp held n 9 [c0] = some y0 := h0
 obtain ⟨a0, e0, b0⟩ := o_str h0
 simp only [List.getElem_toArray, List.getElem_cons_zero, List.getElem_cons_succ] at h1
 rw [capi_Lit] at h1
 replace h1 : DataW.trod enc Tryz.prog w 0 sp held n 121 [c1, c2, c3, c4, c5, c6, c7] = some y1 := h1
 obtain ⟨a1, r1, b1, _⟩ := (o_Lit n) _ _ h1 (by omega)
 simp only [List.getElem_toArray, List.getElem_cons_zero, List.getElem_cons_succ] at h2
 rw [capi_Pos] at h2
 replace h2 : DataW.trod enc Tryz.prog w 0 sp held n 41 [c8, c9] = some y2 := h2
 obtain ⟨a2, a2c, e2, e2c⟩ := o_pos h2
 subst e0 e2 e2c
 refine ⟨.mk a0 a1 a2 a2c, ?_, by simp only [pairN]; omega, trivial⟩
 first | exact (ReadsL.cons (lit_reads rfl) (ReadsL.app r1 (ReadsL.cons (lit_reads rfl) (ReadsL.cons (lit_reads rfl) ReadsL.nil)))) | (simp only [pairL]; exact (ReadsL.cons (lit_reads rfl) (ReadsL.app r1 (ReadsL.cons (lit_reads rfl) (ReadsL.cons (lit_reads rfl) ReadsL.nil)))))
theorem capi_Named : Tryz.prog.cellsOf 113 = 3 := by kernel_rfl
theorem o_Named (m : Nat) : Op enc w sp held 113 namedL (fun _ => 1) (fun _ => True) m := by
 intro cs x h hb
 obtain ⟨xs, n, rfl, hbk, hcl, hl, hx⟩ := struct_open Tryz.underlying113 h
 rw [capi_Named] at hcl
 have hcl0 := hcl
 obtain ⟨c0, cs1, e, hcl1⟩ := len_succ hcl0; subst e
 obtain ⟨c1, cs2, e, hcl2⟩ := len_succ hcl1; subst e
 obtain ⟨c2, cs3, e, hcl3⟩ := len_succ hcl2; subst e
 obtain rfl := len_zero hcl3
 have hl0 := hl
 obtain ⟨y0, xs1, e, hl1⟩ := len_succ hl0; subst e
 obtain ⟨y1, xs2, e, hl2⟩ := len_succ hl1; subst e
 obtain rfl := len_zero hl2
 have h0 := hx 0 _ rfl
 have h1 := hx 1 _ rfl
 clear hx h
 simp only [List.map_cons, List.map_nil, bulks_cons, bulks_nil] at hbk
 simp only [List.getElem_toArray, List.getElem_cons_zero, List.getElem_cons_succ] at h0
 rw [c_str] at h0
 replace h0 : DataW.trod enc Tryz.prog w 0 sp held n 9 [c0] = some y0 := h0
 obtain ⟨a0, e0, b0⟩ := o_str h0
 simp only [List.getElem_toArray, List.getElem_cons_zero, List.getElem_cons_succ] at h1
 rw [capi_Pos] at h1
 replace h1 : DataW.trod enc Tryz.prog w 0 sp held n 41 [c1, c2] = some y1 := h1
 obtain ⟨a1, a1c, e1, e1c⟩ := o_pos h1
 subst e0 e1 e1c
 refine ⟨⟨a0, a1, a1c⟩, ?_, by show 1 ≤ _; omega, trivial⟩
 first | exact (ReadsL.cons (lit_reads rfl) (ReadsL.cons (lit_reads rfl) (ReadsL.cons (lit_reads rfl) ReadsL.nil))) | (simp only [namedL]; exact (ReadsL.cons (lit_reads rfl) (ReadsL.cons (lit_reads rfl) (ReadsL.cons (lit_reads rfl) ReadsL.nil))))
theorem capi_RootDef : Tryz.prog.cellsOf 100 = 4 := by kernel_rfl
theorem capi_DefKind : Tryz.prog.cellsOf 30 = 1 := by kernel_rfl
theorem o_Root (m : Nat) : Op enc w sp held 100 rootL (fun _ => 1) (fun _ => True) m := by
 intro cs x h hb
 obtain ⟨xs, n, rfl, hbk, hcl, hl, hx⟩ := struct_open Tryz.underlying100 h
 rw [capi_RootDef] at hcl
 have hcl0 := hcl
 obtain ⟨c0, cs1, e, hcl1⟩ := len_succ hcl0; subst e
 obtain ⟨c1, cs2, e, hcl2⟩ := len_succ hcl1; subst e
 obtain ⟨c2, cs3, e, hcl3⟩ := len_succ hcl2; subst e
 obtain ⟨c3, cs4, e, hcl4⟩ := len_succ hcl3; subst e
 obtain rfl := len_zero hcl4
 have hl0 := hl
 obtain ⟨y0, xs1, e, hl1⟩ := len_succ hl0; subst e
 obtain ⟨y1, xs2, e, hl2⟩ := len_succ hl1; subst e
 obtain ⟨y2, xs3, e, hl3⟩ := len_succ hl2; subst e
 obtain rfl := len_zero hl3
 have h0 := hx 0 _ rfl
 have h1 := hx 1 _ rfl
 have h2 := hx 2 _ rfl
 clear hx h
 simp only [List.map_cons, List.map_nil, bulks_cons, bulks_nil] at hbk
 simp only [List.getElem_toArray, List.getElem_cons_zero, List.getElem_cons_succ] at h0
 rw [capi_DefKind] at h0
 replace h0 : DataW.trod enc Tryz.prog w 0 sp held n 30 [c0] = some y0 := h0
 obtain ⟨a0, e0⟩ := o_int Tryz.underlying30 h0
 simp only [List.getElem_toArray, List.getElem_cons_zero, List.getElem_cons_succ] at h1
 rw [c_str] at h1
 replace h1 : DataW.trod enc Tryz.prog w 0 sp held n 9 [c1] = some y1 := h1
 obtain ⟨a1, e1, b1⟩ := o_str h1
 simp only [List.getElem_toArray, List.getElem_cons_zero, List.getElem_cons_succ] at h2
 rw [capi_Pos] at h2
 replace h2 : DataW.trod enc Tryz.prog w 0 sp held n 41 [c2, c3] = some y2 := h2
 obtain ⟨a2, a2c, e2, e2c⟩ := o_pos h2
 subst e0 e1 e2 e2c
 refine ⟨⟨a0, a1, a2, a2c⟩, ?_, by show 1 ≤ _; omega, trivial⟩
 first | exact (ReadsL.cons (lit_reads rfl) (ReadsL.cons (lit_reads rfl) (ReadsL.cons (lit_reads rfl) (ReadsL.cons (lit_reads rfl) ReadsL.nil)))) | (simp only [rootL]; exact (ReadsL.cons (lit_reads rfl) (ReadsL.cons (lit_reads rfl) (ReadsL.cons (lit_reads rfl) (ReadsL.cons (lit_reads rfl) ReadsL.nil)))))
theorem capi_Dir : Tryz.prog.cellsOf 181 = 4 := by kernel_rfl
theorem c__api_Arg : Tryz.prog.cellsOf 179 = 1 := by kernel_rfl
theorem o_Dir (m : Nat) : Op enc w sp held 181 dirL dirN (fun _ => True) m := by
 intro cs x h hb
 obtain ⟨xs, n, rfl, hbk, hcl, hl, hx⟩ := struct_open Tryz.underlying181 h
 rw [capi_Dir] at hcl
 have hcl0 := hcl
 obtain ⟨c0, cs1, e, hcl1⟩ := len_succ hcl0; subst e
 obtain ⟨c1, cs2, e, hcl2⟩ := len_succ hcl1; subst e
 obtain ⟨c2, cs3, e, hcl3⟩ := len_succ hcl2; subst e
 obtain ⟨c3, cs4, e, hcl4⟩ := len_succ hcl3; subst e
 obtain rfl := len_zero hcl4
 have hl0 := hl
 obtain ⟨y0, xs1, e, hl1⟩ := len_succ hl0; subst e
 obtain ⟨y1, xs2, e, hl2⟩ := len_succ hl1; subst e
 obtain ⟨y2, xs3, e, hl3⟩ := len_succ hl2; subst e
 obtain rfl := len_zero hl3
 have h0 := hx 0 _ rfl
 have h1 := hx 1 _ rfl
 have h2 := hx 2 _ rfl
 clear hx h
 simp only [List.map_cons, List.map_nil, bulks_cons, bulks_nil] at hbk
 simp only [List.getElem_toArray, List.getElem_cons_zero, List.getElem_cons_succ] at h0
 rw [c_str] at h0
 replace h0 : DataW.trod enc Tryz.prog w 0 sp held n 9 [c0] = some y0 := h0
 obtain ⟨a0, e0, b0⟩ := o_str h0
 simp only [List.getElem_toArray, List.getElem_cons_zero, List.getElem_cons_succ] at h1
 rw [c__api_Arg] at h1
 replace h1 : DataW.trod enc Tryz.prog w 0 sp held n 179 [c1] = some y1 := h1
 obtain ⟨a1, r1, b1, q1⟩ := o_list Tryz.underlying179 capi_Arg (by omega) pairL_len (fun j _ => o_Arg j) h1 (by omega)
 rw [← pairsL_eq] at r1
 simp only [List.getElem_toArray, List.getElem_cons_zero, List.getElem_cons_succ] at h2
 rw [capi_Pos] at h2
 replace h2 : DataW.trod enc Tryz.prog w 0 sp held n 41 [c2, c3] = some y2 := h2
 obtain ⟨a2, a2c, e2, e2c⟩ := o_pos h2
 subst e0 e2 e2c
 have z1 : pairsN a1 = sumN pairN a1 := pairs_sum a1
 refine ⟨⟨a0, a1, a2, a2c⟩, ?_, by simp only [dirN]; omega, trivial⟩
 first | exact (ReadsL.cons (lit_reads rfl) (ReadsL.cons r1 (ReadsL.cons (lit_reads rfl) (ReadsL.cons (lit_reads rfl) ReadsL.nil)))) | (simp only [dirL]; exact (ReadsL.cons (lit_reads rfl) (ReadsL.cons r1 (ReadsL.cons (lit_reads rfl) (ReadsL.cons (lit_reads rfl) ReadsL.nil)))))
theorem capi_InputDef : Tryz.prog.cellsOf 123 = 17 := by kernel_rfl
theorem capi_Note : Tryz.prog.cellsOf 33 = 3 := by kernel_rfl
theorem capi_TypeRef : Tryz.prog.cellsOf 50 = 2 := by kernel_rfl
theorem c__api_Dir : Tryz.prog.cellsOf 35 = 1 := by kernel_rfl
theorem o_Input (m : Nat) : Op enc w sp held 123 inputL inputN (fun d => (str d.ty.2).size ≤ 1048576) m := by
 intro cs x h hb
 obtain ⟨xs, n, rfl, hbk, hcl, hl, hx⟩ := struct_open Tryz.underlying123 h
 rw [capi_InputDef] at hcl
 have hcl0 := hcl
 obtain ⟨c0, cs1, e, hcl1⟩ := len_succ hcl0; subst e
 obtain ⟨c1, cs2, e, hcl2⟩ := len_succ hcl1; subst e
 obtain ⟨c2, cs3, e, hcl3⟩ := len_succ hcl2; subst e
 obtain ⟨c3, cs4, e, hcl4⟩ := len_succ hcl3; subst e
 obtain ⟨c4, cs5, e, hcl5⟩ := len_succ hcl4; subst e
 obtain ⟨c5, cs6, e, hcl6⟩ := len_succ hcl5; subst e
 obtain ⟨c6, cs7, e, hcl7⟩ := len_succ hcl6; subst e
 obtain ⟨c7, cs8, e, hcl8⟩ := len_succ hcl7; subst e
 obtain ⟨c8, cs9, e, hcl9⟩ := len_succ hcl8; subst e
 obtain ⟨c9, cs10, e, hcl10⟩ := len_succ hcl9; subst e
 obtain ⟨c10, cs11, e, hcl11⟩ := len_succ hcl10; subst e
 obtain ⟨c11, cs12, e, hcl12⟩ := len_succ hcl11; subst e
 obtain ⟨c12, cs13, e, hcl13⟩ := len_succ hcl12; subst e
 obtain ⟨c13, cs14, e, hcl14⟩ := len_succ hcl13; subst e
 obtain ⟨c14, cs15, e, hcl15⟩ := len_succ hcl14; subst e
 obtain ⟨c15, cs16, e, hcl16⟩ := len_succ hcl15; subst e
 obtain ⟨c16, cs17, e, hcl17⟩ := len_succ hcl16; subst e
 obtain rfl := len_zero hcl17
 have hl0 := hl
 obtain ⟨y0, xs1, e, hl1⟩ := len_succ hl0; subst e
 obtain ⟨y1, xs2, e, hl2⟩ := len_succ hl1; subst e
 obtain ⟨y2, xs3, e, hl3⟩ := len_succ hl2; subst e
 obtain ⟨y3, xs4, e, hl4⟩ := len_succ hl3; subst e
 obtain ⟨y4, xs5, e, hl5⟩ := len_succ hl4; subst e
 obtain ⟨y5, xs6, e, hl6⟩ := len_succ hl5; subst e
 obtain ⟨y6, xs7, e, hl7⟩ := len_succ hl6; subst e
 obtain rfl := len_zero hl7
 have h0 := hx 0 _ rfl
 have h1 := hx 1 _ rfl
 have h2 := hx 2 _ rfl
 have h3 := hx 3 _ rfl
 have h4 := hx 4 _ rfl
 have h5 := hx 5 _ rfl
 have h6 := hx 6 _ rfl
 clear hx h
 simp only [List.map_cons, List.map_nil, bulks_cons, bulks_nil] at hbk
 simp only [List.getElem_toArray, List.getElem_cons_zero, List.getElem_cons_succ] at h0
 rw [capi_Note] at h0
 replace h0 : DataW.trod enc Tryz.prog w 0 sp held n 33 [c0, c1, c2] = some y0 := h0
 obtain ⟨a0, a0b, a0c, e0, e0b, e0c⟩ := o_note h0
 simp only [List.getElem_toArray, List.getElem_cons_zero, List.getElem_cons_succ] at h1
 rw [c_str] at h1
 replace h1 : DataW.trod enc Tryz.prog w 0 sp held n 9 [c3] = some y1 := h1
 obtain ⟨a1, e1, b1⟩ := o_str h1
 simp only [List.getElem_toArray, List.getElem_cons_zero, List.getElem_cons_succ] at h2
 rw [capi_TypeRef] at h2
 replace h2 : DataW.trod enc Tryz.prog w 0 sp held n 50 [c4, c5] = some y2 := h2
 obtain ⟨a2, a2b, e2, e2b, b2⟩ := o_ref h2
 simp only [List.getElem_toArray, List.getElem_cons_zero, List.getElem_cons_succ] at h3
 rw [c_bool] at h3
 replace h3 : DataW.trod enc Tryz.prog w 0 sp held n 4 [c6] = some y3 := h3
 obtain ⟨a3, e3⟩ := o_bool h3
 simp only [List.getElem_toArray, List.getElem_cons_zero, List.getElem_cons_succ] at h4
 rw [capi_Lit] at h4
 replace h4 : DataW.trod enc Tryz.prog w 0 sp held n 121 [c7, c8, c9, c10, c11, c12, c13] = some y4 := h4
 obtain ⟨a4, r4, b4, _⟩ := (o_Lit n) _ _ h4 (by omega)
 simp only [List.getElem_toArray, List.getElem_cons_zero, List.getElem_cons_succ] at h5
 rw [c__api_Dir] at h5
 replace h5 : DataW.trod enc Tryz.prog w 0 sp held n 35 [c14] = some y5 := h5
 obtain ⟨a5, r5, b5, q5⟩ := o_list Tryz.underlying35 capi_Dir (by omega) (fun _ => rfl) (fun j _ => o_Dir j) h5 (by omega)
 simp only [List.getElem_toArray, List.getElem_cons_zero, List.getElem_cons_succ] at h6
 rw [capi_Pos] at h6
 replace h6 : DataW.trod enc Tryz.prog w 0 sp held n 41 [c15, c16] = some y6 := h6
 obtain ⟨a6, a6c, e6, e6c⟩ := o_pos h6
 subst e0 e0b e0c e1 e2 e2b e3 e6 e6c
 refine ⟨⟨⟨a0, a0b, a0c⟩, a1, (a2, a2b), a3, a4, a5, a6, a6c⟩, ?_, by simp only [inputN]; omega, by show (str a2b).size ≤ 1048576; rw [str_size]; omega⟩
 first | exact (ReadsL.cons (lit_reads rfl) (ReadsL.cons (lit_reads rfl) (ReadsL.cons (lit_reads rfl) (ReadsL.cons (lit_reads rfl) (ReadsL.cons (lit_reads rfl) (ReadsL.cons (lit_reads rfl) (ReadsL.cons (lit_reads rfl) (ReadsL.app r4 (ReadsL.cons r5 (ReadsL.cons (lit_reads rfl) (ReadsL.cons (lit_reads rfl) ReadsL.nil))))))))))) | (simp only [inputL]; exact (ReadsL.cons (lit_reads rfl) (ReadsL.cons (lit_reads rfl) (ReadsL.cons (lit_reads rfl) (ReadsL.cons (lit_reads rfl) (ReadsL.cons (lit_reads rfl) (ReadsL.cons (lit_reads rfl) (ReadsL.cons (lit_reads rfl) (ReadsL.app r4 (ReadsL.cons r5 (ReadsL.cons (lit_reads rfl) (ReadsL.cons (lit_reads rfl) ReadsL.nil))))))))))))
theorem capi_FieldDef : Tryz.prog.cellsOf 52 = 10 := by kernel_rfl
theorem c__api_InputDef : Tryz.prog.cellsOf 37 = 1 := by kernel_rfl
theorem o_Field (m : Nat) : Op enc w sp held 52 fieldL fieldN (fun d => (str d.ty.2).size ≤ 1048576 ∧ ∀ x ∈ d.args, (str x.ty.2).size ≤ 1048576) m := by
 intro cs x h hb
 obtain ⟨xs, n, rfl, hbk, hcl, hl, hx⟩ := struct_open Tryz.underlying52 h
 rw [capi_FieldDef] at hcl
 have hcl0 := hcl
 obtain ⟨c0, cs1, e, hcl1⟩ := len_succ hcl0; subst e
 obtain ⟨c1, cs2, e, hcl2⟩ := len_succ hcl1; subst e
 obtain ⟨c2, cs3, e, hcl3⟩ := len_succ hcl2; subst e
 obtain ⟨c3, cs4, e, hcl4⟩ := len_succ hcl3; subst e
 obtain ⟨c4, cs5, e, hcl5⟩ := len_succ hcl4; subst e
 obtain ⟨c5, cs6, e, hcl6⟩ := len_succ hcl5; subst e
 obtain ⟨c6, cs7, e, hcl7⟩ := len_succ hcl6; subst e
 obtain ⟨c7, cs8, e, hcl8⟩ := len_succ hcl7; subst e
 obtain ⟨c8, cs9, e, hcl9⟩ := len_succ hcl8; subst e
 obtain ⟨c9, cs10, e, hcl10⟩ := len_succ hcl9; subst e
 obtain rfl := len_zero hcl10
 have hl0 := hl
 obtain ⟨y0, xs1, e, hl1⟩ := len_succ hl0; subst e
 obtain ⟨y1, xs2, e, hl2⟩ := len_succ hl1; subst e
 obtain ⟨y2, xs3, e, hl3⟩ := len_succ hl2; subst e
 obtain ⟨y3, xs4, e, hl4⟩ := len_succ hl3; subst e
 obtain ⟨y4, xs5, e, hl5⟩ := len_succ hl4; subst e
 obtain ⟨y5, xs6, e, hl6⟩ := len_succ hl5; subst e
 obtain rfl := len_zero hl6
 have h0 := hx 0 _ rfl
 have h1 := hx 1 _ rfl
 have h2 := hx 2 _ rfl
 have h3 := hx 3 _ rfl
 have h4 := hx 4 _ rfl
 have h5 := hx 5 _ rfl
 clear hx h
 simp only [List.map_cons, List.map_nil, bulks_cons, bulks_nil] at hbk
 simp only [List.getElem_toArray, List.getElem_cons_zero, List.getElem_cons_succ] at h0
 rw [capi_Note] at h0
 replace h0 : DataW.trod enc Tryz.prog w 0 sp held n 33 [c0, c1, c2] = some y0 := h0
 obtain ⟨a0, a0b, a0c, e0, e0b, e0c⟩ := o_note h0
 simp only [List.getElem_toArray, List.getElem_cons_zero, List.getElem_cons_succ] at h1
 rw [c_str] at h1
 replace h1 : DataW.trod enc Tryz.prog w 0 sp held n 9 [c3] = some y1 := h1
 obtain ⟨a1, e1, b1⟩ := o_str h1
 simp only [List.getElem_toArray, List.getElem_cons_zero, List.getElem_cons_succ] at h2
 rw [c__api_InputDef] at h2
 replace h2 : DataW.trod enc Tryz.prog w 0 sp held n 37 [c4] = some y2 := h2
 obtain ⟨a2, r2, b2, q2⟩ := o_list Tryz.underlying37 capi_InputDef (by omega) inputL_len (fun j _ => o_Input j) h2 (by omega)
 simp only [List.getElem_toArray, List.getElem_cons_zero, List.getElem_cons_succ] at h3
 rw [capi_TypeRef] at h3
 replace h3 : DataW.trod enc Tryz.prog w 0 sp held n 50 [c5, c6] = some y3 := h3
 obtain ⟨a3, a3b, e3, e3b, b3⟩ := o_ref h3
 simp only [List.getElem_toArray, List.getElem_cons_zero, List.getElem_cons_succ] at h4
 rw [c__api_Dir] at h4
 replace h4 : DataW.trod enc Tryz.prog w 0 sp held n 35 [c7] = some y4 := h4
 obtain ⟨a4, r4, b4, q4⟩ := o_list Tryz.underlying35 capi_Dir (by omega) (fun _ => rfl) (fun j _ => o_Dir j) h4 (by omega)
 simp only [List.getElem_toArray, List.getElem_cons_zero, List.getElem_cons_succ] at h5
 rw [capi_Pos] at h5
 replace h5 : DataW.trod enc Tryz.prog w 0 sp held n 41 [c8, c9] = some y5 := h5
 obtain ⟨a5, a5c, e5, e5c⟩ := o_pos h5
 subst e0 e0b e0c e1 e3 e3b e5 e5c
 refine ⟨⟨⟨a0, a0b, a0c⟩, a1, a2, (a3, a3b), a4, a5, a5c⟩, ?_, by simp only [fieldN]; omega, ⟨by show (str a3b).size ≤ 1048576; rw [str_size]; omega, fun x hx => q2 x hx⟩⟩
 first | exact (ReadsL.cons (lit_reads rfl) (ReadsL.cons (lit_reads rfl) (ReadsL.cons (lit_reads rfl) (ReadsL.cons (lit_reads rfl) (ReadsL.cons r2 (ReadsL.cons (lit_reads rfl) (ReadsL.cons (lit_reads rfl) (ReadsL.cons r4 (ReadsL.cons (lit_reads rfl) (ReadsL.cons (lit_reads rfl) ReadsL.nil)))))))))) | (simp only [fieldL]; exact (ReadsL.cons (lit_reads rfl) (ReadsL.cons (lit_reads rfl) (ReadsL.cons (lit_reads rfl) (ReadsL.cons (lit_reads rfl) (ReadsL.cons r2 (ReadsL.cons (lit_reads rfl) (ReadsL.cons (lit_reads rfl) (ReadsL.cons r4 (ReadsL.cons (lit_reads rfl) (ReadsL.cons (lit_reads rfl) ReadsL.nil)))))))))))
theorem capi_ValueDef : Tryz.prog.cellsOf 133 = 7 := by kernel_rfl
theorem o_Value (m : Nat) : Op enc w sp held 133 valueL valueN (fun _ => True) m := by
 intro cs x h hb
 obtain ⟨xs, n, rfl, hbk, hcl, hl, hx⟩ := struct_open Tryz.underlying133 h
 rw [capi_ValueDef] at hcl
 have hcl0 := hcl
 obtain ⟨c0, cs1, e, hcl1⟩ := len_succ hcl0; subst e
 obtain ⟨c1, cs2, e, hcl2⟩ := len_succ hcl1; subst e
 obtain ⟨c2, cs3, e, hcl3⟩ := len_succ hcl2; subst e
 obtain ⟨c3, cs4, e, hcl4⟩ := len_succ hcl3; subst e
 obtain ⟨c4, cs5, e, hcl5⟩ := len_succ hcl4; subst e
 obtain ⟨c5, cs6, e, hcl6⟩ := len_succ hcl5; subst e
 obtain ⟨c6, cs7, e, hcl7⟩ := len_succ hcl6; subst e
 obtain rfl := len_zero hcl7
 have hl0 := hl
 obtain ⟨y0, xs1, e, hl1⟩ := len_succ hl0; subst e
 obtain ⟨y1, xs2, e, hl2⟩ := len_succ hl1; subst e
 obtain ⟨y2, xs3, e, hl3⟩ := len_succ hl2; subst e
 obtain ⟨y3, xs4, e, hl4⟩ := len_succ hl3; subst e
 obtain rfl := len_zero hl4
 have h0 := hx 0 _ rfl
 have h1 := hx 1 _ rfl
 have h2 := hx 2 _ rfl
 have h3 := hx 3 _ rfl
 clear hx h
 simp only [List.map_cons, List.map_nil, bulks_cons, bulks_nil] at hbk
 simp only [List.getElem_toArray, List.getElem_cons_zero, List.getElem_cons_succ] at h0
 rw [capi_Note] at h0
 replace h0 : DataW.trod enc Tryz.prog w 0 sp held n 33 [c0, c1, c2] = some y0 := h0
 obtain ⟨a0, a0b, a0c, e0, e0b, e0c⟩ := o_note h0
 simp only [List.getElem_toArray, List.getElem_cons_zero, List.getElem_cons_succ] at h1
 rw [c_str] at h1
 replace h1 : DataW.trod enc Tryz.prog w 0 sp held n 9 [c3] = some y1 := h1
 obtain ⟨a1, e1, b1⟩ := o_str h1
 simp only [List.getElem_toArray, List.getElem_cons_zero, List.getElem_cons_succ] at h2
 rw [c__api_Dir] at h2
 replace h2 : DataW.trod enc Tryz.prog w 0 sp held n 35 [c4] = some y2 := h2
 obtain ⟨a2, r2, b2, q2⟩ := o_list Tryz.underlying35 capi_Dir (by omega) (fun _ => rfl) (fun j _ => o_Dir j) h2 (by omega)
 simp only [List.getElem_toArray, List.getElem_cons_zero, List.getElem_cons_succ] at h3
 rw [capi_Pos] at h3
 replace h3 : DataW.trod enc Tryz.prog w 0 sp held n 41 [c5, c6] = some y3 := h3
 obtain ⟨a3, a3c, e3, e3c⟩ := o_pos h3
 subst e0 e0b e0c e1 e3 e3c
 refine ⟨⟨⟨a0, a0b, a0c⟩, a1, a2, a3, a3c⟩, ?_, by simp only [valueN]; omega, trivial⟩
 first | exact (ReadsL.cons (lit_reads rfl) (ReadsL.cons (lit_reads rfl) (ReadsL.cons (lit_reads rfl) (ReadsL.cons (lit_reads rfl) (ReadsL.cons r2 (ReadsL.cons (lit_reads rfl) (ReadsL.cons (lit_reads rfl) ReadsL.nil))))))) | (simp only [valueL]; exact (ReadsL.cons (lit_reads rfl) (ReadsL.cons (lit_reads rfl) (ReadsL.cons (lit_reads rfl) (ReadsL.cons (lit_reads rfl) (ReadsL.cons r2 (ReadsL.cons (lit_reads rfl) (ReadsL.cons (lit_reads rfl) ReadsL.nil))))))))
theorem capi_SysDef : Tryz.prog.cellsOf 43 = 17 := by kernel_rfl
theorem capi_SysKind : Tryz.prog.cellsOf 31 = 1 := by kernel_rfl
theorem c__api_Named : Tryz.prog.cellsOf 34 = 1 := by kernel_rfl
theorem c__api_FieldDef : Tryz.prog.cellsOf 36 = 1 := by kernel_rfl
theorem c__api_ValueDef : Tryz.prog.cellsOf 38 = 1 := by kernel_rfl
theorem c__api_RootDef : Tryz.prog.cellsOf 39 = 1 := by kernel_rfl
theorem o_Def (m : Nat) : Op enc w sp held 43 defL defN (fun d => (∀ x ∈ d.inputs, (str x.ty.2).size ≤ 1048576) ∧ ∀ f ∈ d.fields, (str f.ty.2).size ≤ 1048576 ∧ ∀ x ∈ f.args, (str x.ty.2).size ≤ 1048576) m := by
 intro cs x h hb
 obtain ⟨xs, n, rfl, hbk, hcl, hl, hx⟩ := struct_open Tryz.underlying43 h
 rw [capi_SysDef] at hcl
 have hcl0 := hcl
 obtain ⟨c0, cs1, e, hcl1⟩ := len_succ hcl0; subst e
 obtain ⟨c1, cs2, e, hcl2⟩ := len_succ hcl1; subst e
 obtain ⟨c2, cs3, e, hcl3⟩ := len_succ hcl2; subst e
 obtain ⟨c3, cs4, e, hcl4⟩ := len_succ hcl3; subst e
 obtain ⟨c4, cs5, e, hcl5⟩ := len_succ hcl4; subst e
 obtain ⟨c5, cs6, e, hcl6⟩ := len_succ hcl5; subst e
 obtain ⟨c6, cs7, e, hcl7⟩ := len_succ hcl6; subst e
 obtain ⟨c7, cs8, e, hcl8⟩ := len_succ hcl7; subst e
 obtain ⟨c8, cs9, e, hcl9⟩ := len_succ hcl8; subst e
 obtain ⟨c9, cs10, e, hcl10⟩ := len_succ hcl9; subst e
 obtain ⟨c10, cs11, e, hcl11⟩ := len_succ hcl10; subst e
 obtain ⟨c11, cs12, e, hcl12⟩ := len_succ hcl11; subst e
 obtain ⟨c12, cs13, e, hcl13⟩ := len_succ hcl12; subst e
 obtain ⟨c13, cs14, e, hcl14⟩ := len_succ hcl13; subst e
 obtain ⟨c14, cs15, e, hcl15⟩ := len_succ hcl14; subst e
 obtain ⟨c15, cs16, e, hcl16⟩ := len_succ hcl15; subst e
 obtain ⟨c16, cs17, e, hcl17⟩ := len_succ hcl16; subst e
 obtain rfl := len_zero hcl17
 have hl0 := hl
 obtain ⟨y0, xs1, e, hl1⟩ := len_succ hl0; subst e
 obtain ⟨y1, xs2, e, hl2⟩ := len_succ hl1; subst e
 obtain ⟨y2, xs3, e, hl3⟩ := len_succ hl2; subst e
 obtain ⟨y3, xs4, e, hl4⟩ := len_succ hl3; subst e
 obtain ⟨y4, xs5, e, hl5⟩ := len_succ hl4; subst e
 obtain ⟨y5, xs6, e, hl6⟩ := len_succ hl5; subst e
 obtain ⟨y6, xs7, e, hl7⟩ := len_succ hl6; subst e
 obtain ⟨y7, xs8, e, hl8⟩ := len_succ hl7; subst e
 obtain ⟨y8, xs9, e, hl9⟩ := len_succ hl8; subst e
 obtain ⟨y9, xs10, e, hl10⟩ := len_succ hl9; subst e
 obtain ⟨y10, xs11, e, hl11⟩ := len_succ hl10; subst e
 obtain ⟨y11, xs12, e, hl12⟩ := len_succ hl11; subst e
 obtain ⟨y12, xs13, e, hl13⟩ := len_succ hl12; subst e
 obtain ⟨y13, xs14, e, hl14⟩ := len_succ hl13; subst e
 obtain rfl := len_zero hl14
 have h0 := hx 0 _ rfl
 have h1 := hx 1 _ rfl
 have h2 := hx 2 _ rfl
 have h3 := hx 3 _ rfl
 have h4 := hx 4 _ rfl
 have h5 := hx 5 _ rfl
 have h6 := hx 6 _ rfl
 have h7 := hx 7 _ rfl
 have h8 := hx 8 _ rfl
 have h9 := hx 9 _ rfl
 have h10 := hx 10 _ rfl
 have h11 := hx 11 _ rfl
 have h12 := hx 12 _ rfl
 have h13 := hx 13 _ rfl
 clear hx h
 simp only [List.map_cons, List.map_nil, bulks_cons, bulks_nil] at hbk
 simp only [List.getElem_toArray, List.getElem_cons_zero, List.getElem_cons_succ] at h0
 rw [capi_SysKind] at h0
 replace h0 : DataW.trod enc Tryz.prog w 0 sp held n 31 [c0] = some y0 := h0
 obtain ⟨a0, e0⟩ := o_int Tryz.underlying31 h0
 simp only [List.getElem_toArray, List.getElem_cons_zero, List.getElem_cons_succ] at h1
 rw [c_bool] at h1
 replace h1 : DataW.trod enc Tryz.prog w 0 sp held n 4 [c1] = some y1 := h1
 obtain ⟨a1, e1⟩ := o_bool h1
 simp only [List.getElem_toArray, List.getElem_cons_zero, List.getElem_cons_succ] at h2
 rw [capi_Note] at h2
 replace h2 : DataW.trod enc Tryz.prog w 0 sp held n 33 [c2, c3, c4] = some y2 := h2
 obtain ⟨a2, a2b, a2c, e2, e2b, e2c⟩ := o_note h2
 simp only [List.getElem_toArray, List.getElem_cons_zero, List.getElem_cons_succ] at h3
 rw [c_str] at h3
 replace h3 : DataW.trod enc Tryz.prog w 0 sp held n 9 [c5] = some y3 := h3
 obtain ⟨a3, e3, b3⟩ := o_str h3
 simp only [List.getElem_toArray, List.getElem_cons_zero, List.getElem_cons_succ] at h4
 rw [c__api_Named] at h4
 replace h4 : DataW.trod enc Tryz.prog w 0 sp held n 34 [c6] = some y4 := h4
 obtain ⟨a4, r4, b4, q4⟩ := o_list Tryz.underlying34 capi_Named (by omega) (fun _ => rfl) (fun j _ => o_Named j) h4 (by omega)
 simp only [List.getElem_toArray, List.getElem_cons_zero, List.getElem_cons_succ] at h5
 rw [c__api_Dir] at h5
 replace h5 : DataW.trod enc Tryz.prog w 0 sp held n 35 [c7] = some y5 := h5
 obtain ⟨a5, r5, b5, q5⟩ := o_list Tryz.underlying35 capi_Dir (by omega) (fun _ => rfl) (fun j _ => o_Dir j) h5 (by omega)
 simp only [List.getElem_toArray, List.getElem_cons_zero, List.getElem_cons_succ] at h6
 rw [c__api_FieldDef] at h6
 replace h6 : DataW.trod enc Tryz.prog w 0 sp held n 36 [c8] = some y6 := h6
 obtain ⟨a6, r6, b6, q6⟩ := o_list Tryz.underlying36 capi_FieldDef (by omega) (fun _ => rfl) (fun j _ => o_Field j) h6 (by omega)
 simp only [List.getElem_toArray, List.getElem_cons_zero, List.getElem_cons_succ] at h7
 rw [c__api_InputDef] at h7
 replace h7 : DataW.trod enc Tryz.prog w 0 sp held n 37 [c9] = some y7 := h7
 obtain ⟨a7, r7, b7, q7⟩ := o_list Tryz.underlying37 capi_InputDef (by omega) inputL_len (fun j _ => o_Input j) h7 (by omega)
 simp only [List.getElem_toArray, List.getElem_cons_zero, List.getElem_cons_succ] at h8
 rw [c__api_Named] at h8
 replace h8 : DataW.trod enc Tryz.prog w 0 sp held n 34 [c10] = some y8 := h8
 obtain ⟨a8, r8, b8, q8⟩ := o_list Tryz.underlying34 capi_Named (by omega) (fun _ => rfl) (fun j _ => o_Named j) h8 (by omega)
 simp only [List.getElem_toArray, List.getElem_cons_zero, List.getElem_cons_succ] at h9
 rw [c__api_ValueDef] at h9
 replace h9 : DataW.trod enc Tryz.prog w 0 sp held n 38 [c11] = some y9 := h9
 obtain ⟨a9, r9, b9, q9⟩ := o_list Tryz.underlying38 capi_ValueDef (by omega) (fun _ => rfl) (fun j _ => o_Value j) h9 (by omega)
 simp only [List.getElem_toArray, List.getElem_cons_zero, List.getElem_cons_succ] at h10
 rw [c__api_RootDef] at h10
 replace h10 : DataW.trod enc Tryz.prog w 0 sp held n 39 [c12] = some y10 := h10
 obtain ⟨a10, r10, b10, q10⟩ := o_list Tryz.underlying39 capi_RootDef (by omega) (fun _ => rfl) (fun j _ => o_Root j) h10 (by omega)
 simp only [List.getElem_toArray, List.getElem_cons_zero, List.getElem_cons_succ] at h11
 rw [c_bool] at h11
 replace h11 : DataW.trod enc Tryz.prog w 0 sp held n 4 [c13] = some y11 := h11
 obtain ⟨a11, e11⟩ := o_bool h11
 simp only [List.getElem_toArray, List.getElem_cons_zero, List.getElem_cons_succ] at h12
 rw [c__api_Named] at h12
 replace h12 : DataW.trod enc Tryz.prog w 0 sp held n 34 [c14] = some y12 := h12
 obtain ⟨a12, r12, b12, q12⟩ := o_list Tryz.underlying34 capi_Named (by omega) (fun _ => rfl) (fun j _ => o_Named j) h12 (by omega)
 simp only [List.getElem_toArray, List.getElem_cons_zero, List.getElem_cons_succ] at h13
 rw [capi_Pos] at h13
 replace h13 : DataW.trod enc Tryz.prog w 0 sp held n 41 [c15, c16] = some y13 := h13
 obtain ⟨a13, a13c, e13, e13c⟩ := o_pos h13
 subst e0 e1 e2 e2b e2c e3 e11 e13 e13c
 have z4 := sum_len (f := fun _ : NamedD => 1) (fun _ => Nat.one_pos) a4
 have z8 := sum_len (f := fun _ : NamedD => 1) (fun _ => Nat.one_pos) a8
 have z10 := sum_len (f := fun _ : RootD => 1) (fun _ => Nat.one_pos) a10
 have z12 := sum_len (f := fun _ : NamedD => 1) (fun _ => Nat.one_pos) a12
 refine ⟨⟨a0, a1, ⟨a2, a2b, a2c⟩, a3, a4, a5, a6, a7, a8, a9, a10, a11, a12, a13, a13c⟩, ?_, by simp only [defN]; omega, ⟨fun x hx => q7 x hx, fun f hf => q6 f hf⟩⟩
 first | exact (ReadsL.cons (lit_reads rfl) (ReadsL.cons (lit_reads rfl) (ReadsL.cons (lit_reads rfl) (ReadsL.cons (lit_reads rfl) (ReadsL.cons (lit_reads rfl) (ReadsL.cons (lit_reads rfl) (ReadsL.cons r4 (ReadsL.cons r5 (ReadsL.cons r6 (ReadsL.cons r7 (ReadsL.cons r8 (ReadsL.cons r9 (ReadsL.cons r10 (ReadsL.cons (lit_reads rfl) (ReadsL.cons r12 (ReadsL.cons (lit_reads rfl) (ReadsL.cons (lit_reads rfl) ReadsL.nil))))))))))))))))) | (simp only [defL]; exact (ReadsL.cons (lit_reads rfl) (ReadsL.cons (lit_reads rfl) (ReadsL.cons (lit_reads rfl) (ReadsL.cons (lit_reads rfl) (ReadsL.cons (lit_reads rfl) (ReadsL.cons (lit_reads rfl) (ReadsL.cons r4 (ReadsL.cons r5 (ReadsL.cons r6 (ReadsL.cons r7 (ReadsL.cons r8 (ReadsL.cons r9 (ReadsL.cons r10 (ReadsL.cons (lit_reads rfl) (ReadsL.cons r12 (ReadsL.cons (lit_reads rfl) (ReadsL.cons (lit_reads rfl) ReadsL.nil))))))))))))))))))
theorem o_defs {m : Nat} {c : Value} {y : DataW H × List MemPlace} (hy : DataW.trod enc Tryz.prog w 0 sp held m 22 [c] = some y) (hb : bulk y.1 ≤ 1048576) :
  ∃ l : List DefD, Reads w (Lo w.heap.size) (.list l.length (defsL l)) c ∧ defsN l + 1 ≤ bulk y.1 ∧ ∀ d ∈ l, (∀ x ∈ d.inputs, (str x.ty.2).size ≤ 1048576) ∧ ∀ f ∈ d.fields, (str f.ty.2).size ≤ 1048576 ∧ ∀ x ∈ f.args, (str x.ty.2).size ≤ 1048576 :=
 o_list Tryz.underlying22 capi_SysDef (by omega) defL_len (fun j _ => o_Def j) hy hb
end
end Go.Proofs.YtbpgkkoeehopjaaGreat.opn
namespace Go.Proofs.YtbpgkkoeehopjaaGreat.frame
open Go.ChangeShapes Go.WideShapes Go.ChangeAt Go.RowKit Go.Proofs.YtbpgkkoeehopjaaGreat.words
section
variable {H : Type} {enc : TypeId × Value → H} {P : Program}
theorem trodAll_below (hl : laidOutB P = true) {W W' : World} (hb : Below W.heap.size W W') :
  ∀ (ts : List TypeId) (vs : List Value) (ds : List (DataW H)) (ps : List MemPlace),
   (∀ t ∈ ts, P.readableRec t = true ∧ t < P.types.size) → DataW.TrodAll enc P W 0 (fun _ => true) true ts vs ds ps → (∀ x ∈ ps, x.block < W.heap.size) →
   DataW.TrodAll enc P W' 0 (fun b => decide (b < W.heap.size)) true ts vs ds ps
 | [], vs, ds, ps, _, h, _ => by obtain ⟨rfl, rfl, rfl⟩ := trodAll_nil h; exact trodAll_mk0
 | t :: ts, vs, ds, ps, hr, h, hlt => by
  obtain ⟨v, vs', d, ds', p, q, rfl, rfl, rfl, h0, h1⟩ := trodAll_cons h
  exact trodAll_cons_mk (Below.trod hl (hr t (by simp)).1 (hr t (by simp)).2 h0 hb (fun x hx => hlt x (by simp [hx])))
   (trodAll_below hl hb ts vs' ds' q (fun t ht => hr t (by simp [ht])) h1 (fun x hx => hlt x (by simp [hx])))
theorem law_post {f : Func} {s : ChangeSpec} {apart handsOn : Bool} {W W' : World} {args : Array Value} {ds gs : List (DataW H)} {before : List MemPlace} {bt : TypeId} (hs : s.vars = [])
  (hres : (s.fn H (ds ++ gs)).results = [.lit (.bool true)]) (hargs : (s.fn H (ds ++ gs)).args = ds) (hvars : (s.fn H (ds ++ gs)).vars = [])
  (hl : laidOutB P = true) (hr : ∀ t ∈ f.params.toList, P.readableRec t = true ∧ t < P.types.size) (hrt : f.resultTypes = #[bt]) (hbt : P.underlying bt = some .bool)
  (hW : DataW.Whole enc P f.params.toList s.vars apart W args.toList ds gs before) (hb : Below W.heap.size W W') :
  s.post enc P f apart true handsOn false W args (.bool true) W' := by
 have hlt : ∀ x ∈ before, x.block < W.heap.size := fun x hx => by simpa using hW.lt x hx
 have hW' := hW
 obtain ⟨p, q, hA, hV, rfl, _, _⟩ := hW
 rw [hs] at hV
 obtain ⟨rfl, rfl⟩ := trodVars_none hV
 refine ⟨ds, [], p ++ [], [], p, [], hW', ?_, ?_, ?_, hb.frame _, fun h => by cases h⟩
 · rw [hres, hrt]
   exact trodAll_cons_mk (shut_bool hbt _) trodAll_mk0
 · rw [hargs]
   exact trodAll_below hl hb _ _ _ _ hr hA (fun x hx => hlt x (by simpa using hx))
 · rw [hvars, hs]
   rfl
end
end Go.Proofs.YtbpgkkoeehopjaaGreat.frame
namespace Go.Proofs.YtbpgkkoeehopjaaGreat.typesysEnds
open Go.ChangeMaps (open_string shut_string)
open Go.ChangeShapes Go.WideShapes Go.ChangeAt Go.RowKit Go.Proofs.YtbpgkkoeehopjaaGreat.words Go.Proofs.YtbpgkkoeehopjaaGreat.tree Go.Proofs.YtbpgkkoeehopjaaGreat.gram Go.Proofs.YtbpgkkoeehopjaaGreat.rd Go.Proofs.YtbpgkkoeehopjaaGreat.dat Go.Proofs.YtbpgkkoeehopjaaGreat.opn Go.Proofs.YtbpgkkoeehopjaaGreat.hp Go.Proofs.YtbpgkkoeehopjaaGreat.frame
set_option maxRecDepth 100000
theorem own : ownKnob Tryz.prog.godebug = none := by kernel_rfl
theorem laidOut : laidOutB Tryz.prog = true := by kernel_rfl
theorem bound {H : Type} {l : List (DataW H)} (hk : Rows.uptoSmall H l = true) : Rows.uptoBulkAll l ≤ 1048576 := of_decide_eq_true hk
theorem lo_in {w : World} {t : Leaf} {v : Value} (h : Reads w (Lo w.heap.size) t v) : RD w t v := ⟨h.keep (fun b hb => ⟨Nat.zero_le _, hb⟩) (fun _ _ => rfl), Nat.le_refl _⟩
theorem wrap_ok {d : DefD} (h : (∀ x ∈ d.inputs, (str x.ty.2).size ≤ 1048576) ∧ ∀ f ∈ d.fields, (str f.ty.2).size ≤ 1048576 ∧ ∀ x ∈ f.args, (str x.ty.2).size ≤ 1048576) : WrapOk d :=
 ⟨fun x hx => Nat.le_trans (h.1 x hx) (by omega), fun f hf => ⟨Nat.le_trans (h.2 f hf).1 (by omega), fun x hx => Nat.le_trans ((h.2 f hf).2 x hx) (by omega)⟩⟩
theorem contract (H : Type) (enc : TypeId × Value → H) (W : World) (base : Nat) (args : Array Value) (ds gs : List (DataW H)) (before : List MemPlace)
  (hval : ∀ (j : Nat) t v, Tryz.f12.params[j]? = some t → args[j]? = some v → Value.okWide Tryz.prog W .any base t v)
  (hW : DataW.Whole enc Tryz.prog Tryz.f12.params.toList Rows.typesysEndsSpec.vars false W args.toList ds gs before) (hk : Rows.uptoSmall H (ds ++ gs) = true) :
  Calls Tryz.prog 12 args W fun e W' => ∃ v, e = .returned v ∧ Rows.typesysEndsSpec.post enc Tryz.prog Tryz.f12 false true false false W args v W' := by
 have hW' := hW
 obtain ⟨p, q, hA0, hV, rfl, hfz, hnd⟩ := hW
 have hA : DataW.TrodAll enc Tryz.prog W 0 (fun _ => true) true Tryz.f12.params.toList args.toList ds p := hA0
 rw [Tryz.params12] at hA hval
 obtain ⟨v0, vs0, d0, ds0, p0, q0, hargs, rfl, rfl, h0, r0⟩ := trodAll_cons hA
 obtain ⟨v1, vs1, d1, ds1, p1, q1, rfl, rfl, rfl, h1, r1⟩ := trodAll_cons r0
 obtain ⟨v2, vs2, d2, ds2, p2, q2, rfl, rfl, rfl, h2, r2⟩ := trodAll_cons r1
 obtain ⟨v3, vs3, d3, ds3, p3, q3, rfl, rfl, rfl, h3, r3⟩ := trodAll_cons r2
 obtain ⟨v4, vs4, d4, ds4, p4, q4, rfl, rfl, rfl, h4, r4⟩ := trodAll_cons r3
 obtain ⟨rfl, rfl, rfl⟩ := trodAll_nil r4
 obtain rfl : args = #[v0, v1, v2, v3, v4] := by cases args; simp_all
 obtain ⟨rfl, rfl⟩ := trodVars_none hV
 have hbulk := bound hk
 simp only [List.append_nil, Rows.uptoBulkAll] at hbulk
 clear hk hA0
 simp only [List.append_nil] at hW'
 have fin : ∀ (e : Ending) (W' : World), (e = .returned (.bool true) ∧ Below W.heap.size W W') → ∃ v, e = .returned v ∧ Rows.typesysEndsSpec.post enc Tryz.prog Tryz.f12 false true false false W #[v0, v1, v2, v3, v4] v W' := fun e W' ⟨he, hb⟩ => by
  subst he
  refine ⟨_, rfl, law_post rfl rfl rfl rfl laidOut ?_ (by kernel_rfl) Tryz.underlying4 hW' hb⟩
  rw [Tryz.params12]
  intro t ht
  simp only [List.mem_cons, List.mem_nil_iff, or_false] at ht
  rcases ht with rfl | rfl | rfl | rfl | rfl
  all_goals exact ⟨by kernel_rfl, of_decide_eq_true (by kernel_rfl)⟩
 obtain ⟨A, n, c, rfl⟩ := okWide_slice Tryz.underlying22 (hval 0 22 v0 rfl rfl)
 obtain ⟨fu0, ht0⟩ := h0
 obtain ⟨defs, hd0, hN0, hQ⟩ := o_defs (c := .slice A n c) ht0 (by simp only [bulk]; omega)
 simp only [bulk] at hN0
 obtain ⟨A', c', vs', e', -, -, -, -⟩ := reads_list hd0
 injection e' with e1 e2 e3
 subst e2
 have hd := lo_in hd0
 have hN : defsN defs ≤ 1048576 := by omega
 obtain ⟨s1, rfl, rfl, -, -⟩ := open_string Tryz.underlying9 (hval 1 9 v1 rfl rfl) h1
 obtain ⟨name, hx1⟩ : ∃ x : Txt, x = s1.data.toList := ⟨_, rfl⟩
 have es1 : s1 = str name := by rw [hx1]; exact (str_of s1).symm
 subst es1
 rw [str_data] at hbulk
 have hl_name : name.length ≤ 1048576 := by simp only [Rows.uptoBulk] at hbulk; omega
 obtain ⟨s2, rfl, rfl, -, -⟩ := open_string Tryz.underlying9 (hval 2 9 v2 rfl rfl) h2
 obtain ⟨field, hx2⟩ : ∃ x : Txt, x = s2.data.toList := ⟨_, rfl⟩
 have es2 : s2 = str field := by rw [hx2]; exact (str_of s2).symm
 subst es2
 rw [str_data] at hbulk
 have hl_field : field.length ≤ 1048576 := by simp only [Rows.uptoBulk] at hbulk; omega
 obtain ⟨cs3, rfl, hz3, -⟩ : ∃ cs, v3 = .agg cs ∧ cs.size = Tryz.prog.cellsOf 50 ∧ _ := by have h := hval 3 50 v3 rfl rfl; unfold Value.okWide at h; rw [Tryz.underlying50] at h; exact h
 have hz3 : cs3.toList.length = 2 := by rw [Array.length_toList, hz3]; kernel_rfl
 obtain ⟨ca3, ra3, ea3, hza3⟩ := len_succ hz3
 obtain ⟨cb3, rb3, eb3, hzb3⟩ := len_succ hza3
 obtain rfl := len_zero hzb3
 subst eb3
 obtain rfl : cs3 = #[ca3, cb3] := Array.toList_inj.1 ea3
 obtain ⟨fu3, ht3⟩ := h3
 obtain ⟨a1, a2, rfl, rfl, hr3⟩ := o_ref ht3
 have hl_a1 : a1.length ≤ 1048576 := by simp only [bulk] at hr3; omega
 have hl_a2 : a2.length ≤ 1048576 := by simp only [bulk] at hr3; omega
 obtain ⟨cs4, rfl, hz4, -⟩ : ∃ cs, v4 = .agg cs ∧ cs.size = Tryz.prog.cellsOf 50 ∧ _ := by have h := hval 4 50 v4 rfl rfl; unfold Value.okWide at h; rw [Tryz.underlying50] at h; exact h
 have hz4 : cs4.toList.length = 2 := by rw [Array.length_toList, hz4]; kernel_rfl
 obtain ⟨ca4, ra4, ea4, hza4⟩ := len_succ hz4
 obtain ⟨cb4, rb4, eb4, hzb4⟩ := len_succ hza4
 obtain rfl := len_zero hzb4
 subst eb4
 obtain rfl : cs4 = #[ca4, cb4] := Array.toList_inj.1 ea4
 obtain ⟨fu4, ht4⟩ := h4
 obtain ⟨b1, b2, rfl, rfl, hr4⟩ := o_ref ht4
 have hl_b1 : b1.length ≤ 1048576 := by simp only [bulk] at hr4; omega
 have hl_b2 : b2.length ≤ 1048576 := by simp only [bulk] at hr4; omega
 exact (Ends_walk defs defs.length c A name field a1 a2 b1 b2 W rfl hd hN (fun d hd => wrap_ok (hQ d hd)) hl_a2 hl_b2 hl_name).mono fun e W' h => fin e W' h
set_option maxRecDepth 100000 in
theorem lifted (os : Os) (started : os.Started) (H : Type) (enc : TypeId × Value → H) (F : Stop.Interp) :
  ReturnsInHanded {} Tryz.checked os 12 .any ((Rows.OpenSpec.upto Rows.typesysEndsSpec).pre6 enc Tryz.prog Tryz.f12 Rows.typesysEndsUptoRow.domain false) (((Rows.OpenSpec.upto Rows.typesysEndsSpec).at F).post enc Tryz.prog Tryz.f12 false true false false) := by
 refine returnsInHanded_of_cond (C := Tryz.checked) (s := Rows.OpenSpec.upto Rows.typesysEndsSpec) (k := Rows.uptoSmall) rfl own started (by kernel_rfl) Tryz.func12
  (OpenSpec.witness (enc := enc) (C := Tryz.checked) (s := Rows.OpenSpec.upto Rows.typesysEndsSpec) (k := Rows.uptoSmall) rfl false ⟨#[], #[.slice none 0 0, .string .empty, .string .empty, .agg #[.string .empty, .string .empty], .agg #[.string .empty, .string .empty]], []⟩ 8 (by kernel_rfl) (by kernel_rfl) (by kernel_rfl)
    (x := ([.nil, .lit (.string []), .lit (.string []), .agg [.lit (.string []), .lit (.string [])], .agg [.lit (.string []), .lit (.string [])]], [], [])) (by kernel_rfl) rfl (by kernel_rfl)) ?_
 intro W base args ds gs before hval hW _ hk _
 exact contract H enc W base args ds gs before hval hW hk
theorem and_tt {a b : Bool} (h : a = true) (h' : b = true) : (a && b) = true := by rw [h, h']; rfl
set_option maxHeartbeats 64000000 in
theorem closed : joinedFacts Tryz.prog 12 Tryz.f12 (Rows.OpenSpec.upto Rows.typesysEndsSpec).bare Rows.typesysEndsUptoRow = true := by
 unfold joinedFacts
 repeat' (with_reducible refine and_tt ?_ ?_)
 all_goals (as_aux_lemma => kernel_rfl)
theorem inst : Tryz.f12.isInstance Tryz.prog Rows.typesysEndsUptoRow.origin Rows.typesysEndsUptoRow.targs := of_decide_eq_true (by kernel_rfl)
theorem proved : Rows.TypesysEndsUptoSaid :=
 OpenClaim.holds_of_cond 12 Tryz.f12 rfl rfl rfl rfl rfl rfl rfl ⟨rfl, rfl, rfl, rfl, rfl⟩ rfl rfl rfl rfl rfl (by kernel_rfl) Tryz.func12 closed
  inst (by unfold Func.isWrapper; first | (rw [if_pos (by decide +kernel)]; kernel_rfl) | (rw [if_neg (by decide +kernel)]; exact ⟨rfl, rfl⟩))
  (fun os started H enc _ F => lifted os started H enc F)
#print axioms proved
end Go.Proofs.YtbpgkkoeehopjaaGreat.typesysEnds
