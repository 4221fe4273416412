/- Part 9 of 18 of a proof: see the last part. -/
import Derived.Test.YtbpgkkoeehopjaaGreatP4
import Derived.Test.YtbpgkkoeehopjaaGreatP8
import Derived.Deep.QuietTactic
import Derived.BigQuiet
import Derived.StillTailTactics
import Derived.Laws.StructEq
import Derived.WalkSpells
set_option linter.unusedVariables false
set_option linter.unusedSimpArgs false
namespace Go.Proofs.YtbpgkkoeehopjaaGreat.hp
open Go.RowKit Go.Proofs.YtbpgkkoeehopjaaGreat.words Go.Proofs.YtbpgkkoeehopjaaGreat.enc Go.Proofs.YtbpgkkoeehopjaaGreat.tree Go.Proofs.YtbpgkkoeehopjaaGreat.gram Go.Proofs.YtbpgkkoeehopjaaGreat.lex Go.Proofs.YtbpgkkoeehopjaaGreat.rd Go.Proofs.YtbpgkkoeehopjaaGreat.dec Go.Proofs.YtbpgkkoeehopjaaGreat.dat Go.Proofs.YtbpgkkoeehopjaaGreat.held
def sents (l : List (Txt × Value)) : List (Value × Value) := l.map fun p => (.string (str p.1), p.2)
def sfind (l : List (Txt × Value)) (x : Txt) : Option Value := (l.find? (·.1 == x)).map (·.2)
def sput : List (Txt × Value) → Txt → Value → List (Txt × Value)
 | [], x, v => [(x, v)]
 | p :: r, x, v => if p.1 = x then (x, v) :: r else p :: sput r x v
theorem sput_new {l : List (Txt × Value)} {x : Txt} {v : Value} (h : sfind l x = none) : sput l x v = l ++ [(x, v)] := by
 induction l with
 | nil => rfl
 | cons p r ih =>
  by_cases hp : p.1 = x
  · simp [sfind, hp] at h
  · have : sfind r x = none := by simpa [sfind, hp] using h
    rw [sput, if_neg hp, ih this]; rfl
theorem str_eq (a b : Txt) : (str a == str b) = decide (a = b) := by
 show ((str a).data == (str b).data) = _
 rw [Bool.eq_iff_iff]
 simp [str]
theorem mobj_get {w : World} {b : Nat} {l : List (Value × Value)} {P : Program} (h : w.heap[b]? = some (mobj l)) : (getObj b).run P w = .ok (.map (ments l).toArray l.length) w := by
 unfold getObj
 simp only [Sem.run, h, mobj]
theorem findNow_s (x : Txt) : ∀ (l : List (Txt × Value)) (j i : Nat), Instr.findNow .string (.string (str x)) (((sents l).zipIdx j).map fun p => ({ key := p.1.1, val := p.1.2, born := p.2 } : MapEntry)) i = some ((l.findIdx? (·.1 == x)).bind fun k => (l[k]?).map fun p => (i + k, p.2))
 | [], j, i => rfl
 | p :: r, j, i => by
  simp only [sents, List.map_cons, List.zipIdx_cons, Instr.findNow, Instr.sameNow, str_eq]
  by_cases h : p.1 = x
  · have h' : x = p.1 := h.symm
    simp [h', List.findIdx?_cons]
  · have h' : ¬ x = p.1 := fun e => h e.symm
    have := findNow_s x r (j + 1) (i + 1)
    simp only [sents] at this
    simp only [h', decide_false, this, List.findIdx?_cons, h, beq_iff_eq, if_false, Bool.false_eq_true]
    cases hq : r.findIdx? (·.1 == x) with
    | none => simp
    | some k => simp [Nat.add_comm, Nat.add_left_comm, Nat.add_assoc]
section
variable {P : Program} {w : World} {b t kt et : Nat} {l : List (Txt × Value)}
theorem findKey_s (hk : P.underlying kt = some .string) (x : Txt) : (Instr.findKey kt (.string (str x)) (ments (sents l))).run P w = .ok ((l.findIdx? (·.1 == x)).bind fun k => (l[k]?).map fun p => (k, p.2)) w := by
 have := findNow_s x l 0 0
 simp only [Nat.zero_add] at this
 unfold Instr.findKey ments
 rw [Sem.run_bind, run_underlying hk w]
 simp only [Result.andThen_ok, this, Sem.run_pure]
theorem checkKey_s (hk : P.underlying kt = some .string) (e : Bool) (x : Txt) : (Instr.checkKey e 10000 kt (.string (str x))).run P w = .ok () w := by
 unfold Instr.checkKey
 rw [Sem.run_bind, run_underlying hk w]
 rfl
theorem sfind_idx (x : Txt) : ∀ l : List (Txt × Value), ((l.findIdx? (·.1 == x)).bind fun k => (l[k]?).map fun p => (k, p.2)).map (·.2) = sfind l x
 | [] => rfl
 | p :: r => by
  by_cases h : p.1 = x
  · simp [List.findIdx?_cons, h, sfind]
  · have := sfind_idx x r
    simp only [sfind, List.find?_cons, List.findIdx?_cons, h, beq_iff_eq, if_false, Bool.false_eq_true] at this ⊢
    have hb : (p.1 == x) = false := beq_eq_false_iff_ne.2 h
    simp only [hb]
    rw [← this]
    cases hq : r.findIdx? (·.1 == x) with
    | none => simp
    | some k => simp [Function.comp_def]
theorem run_lookup_s (ht : P.underlying t = some (.map kt et)) (hk : P.underlying kt = some .string) (z : Value) (hz : (zeroValue et).run P w = .ok z w) (hb : w.heap[b]? = some (mobj (sents l))) (x : Txt) (ok : Bool) :
  (Instr.lookup t (.map (some b)) (.string (str x)) ok).run P w = .ok (if ok then .tuple #[(sfind l x).getD z, .bool (sfind l x).isSome] else (sfind l x).getD z) w := by
 have hf := findKey_s (P := P) (w := w) (l := l) hk x
 have hi := sfind_idx x l
 unfold Instr.lookup
 simp only [Sem.run_bind, run_underlying ht w, Result.andThen_ok, mobj_get hb, Sem.run_pure, checkKey_s hk, hf]
 cases hq : ((l.findIdx? (·.1 == x)).bind fun k => (l[k]?).map fun p => (k, p.2)) with
 | none =>
  rw [hq] at hi
  have hi : sfind l x = none := hi.symm
  simp [hi, hz, Sem.run_bind]
 | some p =>
  rw [hq] at hi
  have hi : sfind l x = some p.2 := hi.symm
  simp [hi, Sem.run_bind]
theorem sput_idx (x : Txt) (v : Value) : ∀ (l : List (Txt × Value)), match l.findIdx? (·.1 == x) with
  | none => sput l x v = l ++ [(x, v)]
  | some k => k < l.length ∧ sput l x v = l.set k (x, v) ∧ (l[k]?).map (·.1) = some x
 | [] => rfl
 | p :: r => by
  by_cases h : p.1 = x
  · simp [List.findIdx?_cons, h, sput]
  · have ih := sput_idx x v r
    have hb : (p.1 == x) = false := beq_eq_false_iff_ne.2 h
    simp only [List.findIdx?_cons, hb, Bool.false_eq_true, if_false, sput, h]
    cases hq : r.findIdx? (·.1 == x) with
    | none => rw [hq] at ih; simp only [Option.map_none] at ih ⊢; simp [ih]
    | some k => rw [hq] at ih; simp only [Option.map_some] at ih ⊢; exact ⟨by simpa using ih.1, by rw [ih.2.1]; rfl, by simpa using ih.2.2⟩
theorem ments_set (l : List (Txt × Value)) (k : Nat) (hk : k < l.length) (p : Txt × Value) : ments (sents (l.set k p)) = (ments (sents l)).modify k fun e => { e with key := .string (str p.1), val := p.2 } := by
 apply List.ext_getElem?
 intro j
 simp only [ments, sents, List.getElem?_map, List.getElem?_zipIdx, List.getElem?_modify, List.getElem?_set, List.map_set]
 by_cases hj : k = j
 · subst hj
   simp [hk]
 · simp [hj]
theorem run_setObj {o o' : Obj} (hb : w.heap[b]? = some o) (hn : ∀ c e f, o ≠ .cells c e f) : (setObj b o').run P w = .ok () { w with heap := w.heap.setIfInBounds b o' } := by
 unfold setObj
 cases o with
 | cells c e f => exact absurd rfl (hn c e f)
 | _ => simp [Sem.run, hb]
theorem run_update_s (ht : P.underlying t = some (.map kt et)) (hk : P.underlying kt = some .string) (hb : w.heap[b]? = some (mobj (sents l))) (x : Txt) (v : Value) :
  (Instr.mapUpdate t (.map (some b)) (.string (str x)) v).run P w = .ok () { w with heap := w.heap.setIfInBounds b (mobj (sents (sput l x v))) } := by
 have hf := findKey_s (P := P) (w := w) (l := l) hk x
 have hi := sput_idx x v l
 have hs : ∀ o', (setObj b o').run P w = .ok () { w with heap := w.heap.setIfInBounds b o' } := fun o' => run_setObj hb (fun c e f h => by cases h)
 unfold Instr.mapUpdate
 simp only [Sem.run_bind, run_underlying ht w, Result.andThen_ok, mobj_get hb, checkKey_s hk, hf]
 cases hq : l.findIdx? (·.1 == x) with
 | none =>
  rw [hq] at hi
  simp only [Option.bind_none]
  rw [hs, hi]
  simp [mobj, sents, ments, List.zipIdx_append]
 | some k =>
  rw [hq] at hi
  obtain ⟨hkl, hsp, hkx⟩ := hi
  obtain ⟨p, hp⟩ : ∃ p, l[k]? = some p := ⟨_, List.getElem?_eq_getElem hkl⟩
  have hpx : p.1 = x := by simpa [hp] using hkx
  have hes : ((ments (sents l)).toArray[k]?).map (·.key) = some (.string (str x)) := by simp [ments, sents, hp, hpx]
  have hst : (Instr.keyThatStays (.string (str x)) (.string (str x))).run P w = .ok (.string (str x)) w := by
   unfold Instr.keyThatStays
   rw [if_pos (by simp [Instr.sameBits, str_eq])]
   rfl
  simp only [Option.bind_some, hp, Option.map_some, Sem.run_bind, hes, Option.getD_some, hst, Result.andThen_ok, hs]
  rw [hsp]
  have := ments_set l k hkl (x, v)
  have hob : Obj.map ((ments (sents l)).toArray.modify k fun e => { e with key := .string (str x), val := v }) l.length = mobj (sents (l.set k (x, v))) := by
   unfold mobj
   rw [this]
   simp [sents]
  rw [← hob]
  simp [sents]
end
section
variable {P : Program} {w0 w K : World} {M : List Ent} {ops : Array Oper} {rest : List Oper} {o : Oper} {a : Act} {Q : Exit → Act → World → Prop} {i b t kt et : Nat}
theorem Hp.mapAt (H : Hp w0 w K M) {l : List (Value × Value)} (hi : M[i]? = some (.map b l)) : w.heap[b]? = some (mobj l) := H.ok _ (List.mem_of_getElem? hi)
theorem Hp.mapSet (H : Hp w0 w K M) {l : List (Value × Value)} (hi : M[i]? = some (.map b l)) (l' : List (Value × Value)) : Hp w0 { w with heap := w.heap.setIfInBounds b (mobj l') } K (M.set i (.map b l')) := by
 have hb := H.mapAt hi
 have hlt := (Array.getElem?_eq_some_iff.1 hb).1
 refine H.setAt hi ⟨rfl, rfl, rfl, by simp, fun k hk hne => ?_⟩ ?_ (.inl rfl)
 · have hkb : b ≠ k := fun e => hne (by subst e; rfl)
   simp [hkb]
 · simp [Ent.ok, hlt]
theorem update_hp (hgd : o.guard = none) (m x y : Operand) (t : TypeId) (ho : o.op = .mapUpdate t m x y) (ht : P.underlying t = some (.map kt et)) (hk : P.underlying kt = some .string)
  (H : Hp w0 w K M) (i : Nat) (b : Nat) (l : List (Txt × Value)) (hi : M[i]? = some (.map b (sents l))) (hm : a.eval m = .map (some b)) (k : Txt) (hx : a.eval x = .string (str k)) (v : Value) (hy : a.eval y = v) (l' : List (Txt × Value)) (hl : sput l k v = l')
  (h : ∀ w', Hp w0 w' K (M.set i (.map b (sents l'))) → wpList P ops Q rest (a.put o.dst undef) w') : wpList P ops Q (o :: rest) a w := by
 refine wpList_plain hgd fun _ hK => ?_
 have hrun := run_update_s (w := w) ht hk (H.mapAt hi) k v
 rw [hl] at hrun
 unfold Oper.wp execOp
 simp only [ho, hm, hx, hy, Sem.run_bind, hrun, Result.andThen_ok, Sem.run_pure]
 exact hK _ _ (h _ (H.mapSet hi _))
end
def nmap (ks : List Txt) : List (Txt × Value) := ks.zipIdx.map fun p => (p.1, .int .i64 p.2)
theorem nmap_find_from (x : Txt) : ∀ (ks : List Txt) (j : Nat), sfind (ks.zipIdx j |>.map fun p => (p.1, (Value.int .i64 p.2 : Value))) x = (ks.findIdx? (· == x)).map fun i => .int .i64 ((j + i : Nat) : Int)
 | [], j => rfl
 | k :: r, j => by
  by_cases h : k = x
  · simp [sfind, h, List.findIdx?_cons]
  · have ih := nmap_find_from x r (j + 1)
    simp only [sfind] at ih
    have hb : (k == x) = false := beq_eq_false_iff_ne.2 h
    simp only [sfind, List.zipIdx_cons, List.map_cons, List.find?_cons, hb, List.findIdx?_cons, Bool.false_eq_true, if_false, ih]
    cases r.findIdx? (· == x) with
    | none => rfl
    | some i => simp; omega
theorem nmap_find (ks : List Txt) (x : Txt) : sfind (nmap ks) x = (ks.findIdx? (· == x)).map fun i => .int .i64 ((i : Nat) : Int) := by
 have := nmap_find_from x ks 0
 simpa [nmap] using this
theorem nmap_put (ks : List Txt) (x : Txt) (h : x ∉ ks) : sput (nmap ks) x (.int .i64 (ks.length : Int)) = nmap (ks ++ [x]) := by
 rw [sput_new]
 · simp [nmap, List.zipIdx_append]
 · rw [nmap_find]
   have : ks.findIdx? (· == x) = none := by
    rw [List.findIdx?_eq_none_iff]
    intro y hy
    exact beq_eq_false_iff_ne.2 (fun e => h (e ▸ hy))
   rw [this]; rfl
end Go.Proofs.YtbpgkkoeehopjaaGreat.hp
namespace Go.Proofs.YtbpgkkoeehopjaaGreat.hp
open Go.RowKit
theorem z43 : ((Tryz.prog.info? 43).bind (·.zero)).map (·.cells) = some #[.int .i64 0, .bool false, .bool false, .bool false, .string ⟨#[]⟩, .string ⟨#[]⟩, .slice none 0 0, .slice none 0 0, .slice none 0 0, .slice none 0 0, .slice none 0 0, .slice none 0 0, .slice none 0 0, .bool false, .slice none 0 0, .int .i64 0, .int .i64 0] := by kernel_rfl
theorem z50 : ((Tryz.prog.info? 50).bind (·.zero)).map (·.cells) = some #[.string ⟨#[]⟩, .string ⟨#[]⟩] := by kernel_rfl
theorem z52 : ((Tryz.prog.info? 52).bind (·.zero)).map (·.cells) = some #[.bool false, .bool false, .string ⟨#[]⟩, .string ⟨#[]⟩, .slice none 0 0, .string ⟨#[]⟩, .string ⟨#[]⟩, .slice none 0 0, .int .i64 0, .int .i64 0] := by kernel_rfl
theorem z100 : ((Tryz.prog.info? 100).bind (·.zero)).map (·.cells) = some #[.int .i64 0, .string ⟨#[]⟩, .int .i64 0, .int .i64 0] := by kernel_rfl
theorem z113 : ((Tryz.prog.info? 113).bind (·.zero)).map (·.cells) = some #[.string ⟨#[]⟩, .int .i64 0, .int .i64 0] := by kernel_rfl
theorem z121 : ((Tryz.prog.info? 121).bind (·.zero)).map (·.cells) = some #[.int .i64 0, .string ⟨#[]⟩, .bool false, .slice none 0 0, .slice none 0 0, .int .i64 0, .int .i64 0] := by kernel_rfl
theorem z123 : ((Tryz.prog.info? 123).bind (·.zero)).map (·.cells) = some #[.bool false, .bool false, .string ⟨#[]⟩, .string ⟨#[]⟩, .string ⟨#[]⟩, .string ⟨#[]⟩, .bool false, .int .i64 0, .string ⟨#[]⟩, .bool false, .slice none 0 0, .slice none 0 0, .int .i64 0, .int .i64 0, .slice none 0 0, .int .i64 0, .int .i64 0] := by kernel_rfl
theorem e22 : SlI Tryz.prog 22 43 17 272 := sli Tryz.underlying22 (z := .agg #[.int .i64 0, .bool false, .bool false, .bool false, .string ⟨#[]⟩, .string ⟨#[]⟩, .slice none 0 0, .slice none 0 0, .slice none 0 0, .slice none 0 0, .slice none 0 0, .slice none 0 0, .slice none 0 0, .bool false, .slice none 0 0, .int .i64 0, .int .i64 0]) (by kernel_rfl)
theorem e27 : SlI Tryz.prog 27 9 1 16 := sli Tryz.underlying27 (z := .string ⟨#[]⟩) (by kernel_rfl)
theorem e34 : SlI Tryz.prog 34 113 3 32 := sli Tryz.underlying34 (z := .agg #[.string ⟨#[]⟩, .int .i64 0, .int .i64 0]) (by kernel_rfl)
theorem e35 : SlI Tryz.prog 35 181 4 56 := sli Tryz.underlying35 (z := .agg #[.string ⟨#[]⟩, .slice none 0 0, .int .i64 0, .int .i64 0]) (by kernel_rfl)
theorem e36 : SlI Tryz.prog 36 52 10 136 := sli Tryz.underlying36 (z := .agg #[.bool false, .bool false, .string ⟨#[]⟩, .string ⟨#[]⟩, .slice none 0 0, .string ⟨#[]⟩, .string ⟨#[]⟩, .slice none 0 0, .int .i64 0, .int .i64 0]) (by kernel_rfl)
theorem e37 : SlI Tryz.prog 37 123 17 216 := sli Tryz.underlying37 (z := .agg #[.bool false, .bool false, .string ⟨#[]⟩, .string ⟨#[]⟩, .string ⟨#[]⟩, .string ⟨#[]⟩, .bool false, .int .i64 0, .string ⟨#[]⟩, .bool false, .slice none 0 0, .slice none 0 0, .int .i64 0, .int .i64 0, .slice none 0 0, .int .i64 0, .int .i64 0]) (by kernel_rfl)
theorem e38 : SlI Tryz.prog 38 133 7 80 := sli Tryz.underlying38 (z := .agg #[.bool false, .bool false, .string ⟨#[]⟩, .string ⟨#[]⟩, .slice none 0 0, .int .i64 0, .int .i64 0]) (by kernel_rfl)
theorem e39 : SlI Tryz.prog 39 100 4 40 := sli Tryz.underlying39 (z := .agg #[.int .i64 0, .string ⟨#[]⟩, .int .i64 0, .int .i64 0]) (by kernel_rfl)
open Go.Proofs.YtbpgkkoeehopjaaGreat.words Go.Proofs.YtbpgkkoeehopjaaGreat.enc Go.Proofs.YtbpgkkoeehopjaaGreat.tree Go.Proofs.YtbpgkkoeehopjaaGreat.gram Go.Proofs.YtbpgkkoeehopjaaGreat.lex Go.Proofs.YtbpgkkoeehopjaaGreat.rd Go.Proofs.YtbpgkkoeehopjaaGreat.dec Go.Proofs.YtbpgkkoeehopjaaGreat.dat Go.Proofs.YtbpgkkoeehopjaaGreat.held
set_option maxRecDepth 100000
attribute [local go_sem ↓] Go.wp_at_zero Go.wp_at_succ
abbrev tbox (g ga gd gf go : Nat) (VT VD : Value) : Ent := .box g [.int .i64 0, .bool false, .bool false, .bool false, .string ⟨#[]⟩, .string ⟨#[]⟩, .slice none 0 0, .slice none 0 0, .slice none 0 0, .slice none 0 0, .slice none 0 0, .slice none 0 0, .slice none 0 0, .bool false, .slice none 0 0, .int .i64 0, .int .i64 0, VT, .map (some ga), VD, .map (some gd), .map (some gf), .map (some go)] 91
theorem zero_int (w : World) : (zeroValue 3).run Tryz.prog w = .ok (.int .i64 0) w := by kernel_rfl
theorem find_none {ks : List Txt} {x : Txt} (h : x ∉ ks) : sfind (nmap ks) x = none := by
 rw [nmap_find]
 have : ks.findIdx? (· == x) = none := by
  rw [List.findIdx?_eq_none_iff]
  intro y hy
  exact beq_eq_false_iff_ne.2 (fun e => h (e ▸ hy))
 rw [this]; rfl
theorem find_some {ks : List Txt} {x : Txt} (h : x ∈ ks) : ∃ i, ks[i]? = some x ∧ (∀ j, j < i → ks[j]? ≠ some x) ∧ sfind (nmap ks) x = some (.int .i64 (i : Nat)) := by
 rw [nmap_find]
 cases hq : ks.findIdx? (· == x) with
 | none =>
  rw [List.findIdx?_eq_none_iff] at hq
  have := hq x h
  simp at this
 | some i =>
  rw [List.findIdx?_eq_some_iff_getElem] at hq
  obtain ⟨hi, h1, h2⟩ := hq
  refine ⟨i, ?_, ?_, rfl⟩
  · rw [List.getElem?_eq_getElem hi]; exact congrArg some (eq_of_beq h1)
  · intro j hj he
    have := h2 j hj
    rw [List.getElem?_eq_getElem (by omega)] at he
    injection he with he
    simp [he] at this
set_option maxHeartbeats 16000000 in
theorem addType_old (d : DefD) (cs : Array Value) (ks : List Txt) (g ga gd gf go : Nat) (VT VD : Value) (w0 w K : World) (M : List Ent) (H : Hp w0 w K (tbox g ga gd gf go VT VD :: .map ga (sents (nmap ks)) :: M)) (hd : RL K (defL d) cs.toList) (hin : d.name ∈ ks) :
  Calls Tryz.prog 59 #[.pointer (some ⟨g, 0, none⟩), .agg cs] w fun e w' => e = .returned (.tuple #[]) ∧ Hp w0 w' K (tbox g ga gd gf go VT VD :: .map ga (sents (nmap ks)) :: M) := by
 obtain ⟨A6, c6, A7, c7, A8, c8, A9, c9, A10, c10, A11, c11, A12, c12, A14, c14, hcs, -, -, -, -, -, -, -, -⟩ := def_cells hd
 obtain rfl : cs = #[.int .i64 d.kind, .bool d.ext, .bool d.note.has, .bool d.note.block, .string (str d.note.text), .string (str d.name), .slice A6 d.ifaces.length c6, .slice A7 d.dirs.length c7, .slice A8 d.fields.length c8, .slice A9 d.inputs.length c9, .slice A10 d.members.length c10, .slice A11 d.values.length c11, .slice A12 d.roots.length c12, .bool d.rep, .slice A14 d.places.length c14, .int .i64 d.line, .int .i64 d.col] := Array.toList_inj.1 hcs
 obtain ⟨i, -, -, hf⟩ := find_some hin
 go_enter Tryz.func59, Tryz.ntmps59
 replace H : Hp _ _ _ (.box _ [_, _, _, _, _, _, _, _, _, _, _, _, _, _, _, _, _, _, _, _, _, _, _] _ :: _ :: M) := H
 try dsimp only at H
 go_upto_region 1 with (first
  | (refine box_hp (by rfl) 43 (.tmp 1) (by rfl) [.int .i64 d.kind, .bool d.ext, .bool d.note.has, .bool d.note.block, .string (str d.note.text), .string (str d.name), .slice A6 d.ifaces.length c6, .slice A7 d.dirs.length c7, .slice A8 d.fields.length c8, .slice A9 d.inputs.length c9, .slice A10 d.members.length c10, .slice A11 d.values.length c11, .slice A12 d.roots.length c12, .bool d.rep, .slice A14 d.places.length c14, .int .i64 d.line, .int .i64 d.col] _ (by rfl) (by rfl) (some 3) (by rfl) H ?_; clear H; intro w1 g3 H hg2; clear hg2))
 have := H.c 1 18
 have := H.c 0 5
 have hrun := fun k => run_lookup_s (P := Tryz.prog) (w := (w1).drewN k) (t := 87) (kt := 9) (et := 3) (l := nmap ks) (b := ga) Tryz.underlying87 Tryz.underlying9 (.int .i64 0) (zero_int _) ((H.drew k).mapAt (i := 2) rfl) d.name true
 go_quiet (fail)
 replace H := H.drew nq
 obtain ⟨w3, hq4⟩ : ∃ x, (w1).drewN nq = x := ⟨_, rfl⟩
 rw [hq4] at H ⊢
 clear hq4
 replace H : Hp _ _ _ (_ :: _ :: _ :: M) := H
 go_wp2_with fail
 replace H := H.sub (List.Sublist.cons _ (List.Sublist.cons_cons _ (List.Sublist.cons_cons _ (List.Sublist.refl _))))
 go_end0
 exact ⟨rfl, H⟩
def AddT (d : DefD) (ks : List Txt) (g ga gd gf go : Nat) (VD : Value) (xT : List Value) (w0 K : World) (M : List Ent) (e : Ending) (w' : World) : Prop :=
 ∃ K' V VT', e = .returned (.tuple #[]) ∧ Sat K' K ∧ Hp w0 w' K' (tbox g ga gd gf go VT' VD :: .map ga (sents (nmap (ks ++ [d.name]))) :: .row 43 17 VT' (ks.length + 1) (xT ++ DV.cells d V) :: DV.rows d V ++ M) ∧ V.ok K' d
set_option maxHeartbeats 16000000 in
theorem addType_new (d : DefD) (cs : Array Value) (ks : List Txt) (g ga gd gf go : Nat) (VT VD : Value) (xT : List Value) (w0 w K : World) (M : List Ent) (H : Hp w0 w K (tbox g ga gd gf go VT VD :: .map ga (sents (nmap ks)) :: .row 43 17 VT ks.length xT :: M)) (hd : RL K (defL d) cs.toList) (hin : d.name ∉ ks) (hm : defN d ≤ 9000000) (hk : ks.length ≤ 9000000) :
  Calls Tryz.prog 59 #[.pointer (some ⟨g, 0, none⟩), .agg cs] w (AddT d ks g ga gd gf go VD xT w0 K M) := by
 obtain ⟨A6, c6, A7, c7, A8, c8, A9, c9, A10, c10, A11, c11, A12, c12, A14, c14, hcs, -, -, -, -, -, -, -, -⟩ := def_cells hd
 obtain rfl : cs = #[.int .i64 d.kind, .bool d.ext, .bool d.note.has, .bool d.note.block, .string (str d.note.text), .string (str d.name), .slice A6 d.ifaces.length c6, .slice A7 d.dirs.length c7, .slice A8 d.fields.length c8, .slice A9 d.inputs.length c9, .slice A10 d.members.length c10, .slice A11 d.values.length c11, .slice A12 d.roots.length c12, .bool d.rep, .slice A14 d.places.length c14, .int .i64 d.line, .int .i64 d.col] := Array.toList_inj.1 hcs
 have hf := find_none hin
 have hput := nmap_put ks d.name hin
 obtain ⟨VA, Vc, rfl, hVl, hVm⟩ := H.slice (i := 2) rfl
 obtain ⟨k0, hk0, k0z, k0s, k0b⟩ := info_parts def_info
 go_enter Tryz.func59, Tryz.ntmps59
 replace H : Hp _ _ _ (.box _ [_, _, _, _, _, _, _, _, _, _, _, _, _, _, _, _, _, _, _, _, _, _, _] _ :: _ :: _ :: M) := H
 try dsimp only at H
 go_upto_region 1 with (first
  | (refine box_hp (by rfl) 43 (.tmp 1) (by rfl) [.int .i64 d.kind, .bool d.ext, .bool d.note.has, .bool d.note.block, .string (str d.note.text), .string (str d.name), .slice A6 d.ifaces.length c6, .slice A7 d.dirs.length c7, .slice A8 d.fields.length c8, .slice A9 d.inputs.length c9, .slice A10 d.members.length c10, .slice A11 d.values.length c11, .slice A12 d.roots.length c12, .bool d.rep, .slice A14 d.places.length c14, .int .i64 d.line, .int .i64 d.col] _ (by rfl) (by rfl) (some 3) (by rfl) H ?_; clear H; intro w5 g3 H hg6; clear hg6))
 have := H.c 1 18
 have := H.c 0 5
 have hrun := fun k => run_lookup_s (P := Tryz.prog) (w := (w5).drewN k) (t := 87) (kt := 9) (et := 3) (l := nmap ks) (b := ga) Tryz.underlying87 Tryz.underlying9 (.int .i64 0) (zero_int _) ((H.drew k).mapAt (i := 2) rfl) d.name true
 go_quiet (fail)
 replace H := H.drew nq
 obtain ⟨w7, hq8⟩ : ∃ x, (w5).drewN nq = x := ⟨_, rfl⟩
 rw [hq8] at H ⊢
 clear hq8
 replace H : Hp _ _ _ (_ :: _ :: _ :: _ :: M) := H
 clear hrun
 go_upto_region 3 with (fail)
 refine still_hp 11 (by kernel_rfl) (by kernel_rfl) H ?_
 clear H
 intro w9 H
 have := H.c 1 17
 have := H.c 1 18
 have := H.c 0 5
 simp only [List.take_succ_cons, List.take_zero, List.drop_succ_cons, List.drop_zero]
 repeat still_step
 refine wpStill_nil ?_
 replace H : Hp _ _ _ (_ :: _ :: _ :: _ :: M) := H
 have := H.c 1 18
 have := H.c 0 5
 have := H.c 1 17
 go_upto_region 4 with (first
  | (refine update_hp (by rfl) (.tmp 21) (.tmp 23) (.tmp 28) 87 (by rfl) Tryz.underlying87 Tryz.underlying9 H 2 ga (nmap ks) (by rfl) (by first | rfl | simp [Act.eval, Act.put]) (d.name) (by first | rfl | simp [Act.eval, Act.put]) (.int .i64 (ks.length : Int)) (by first | rfl | simp [Act.eval, Act.put]) (nmap (ks ++ [d.name])) (hput) ?_; clear H; intro w10 H; replace H : Hp _ _ _ (_ :: _ :: _ :: _ :: M) := H; have := H.c 1 18; have := H.c 0 5; have := H.c 1 17))
 have hK := Sat.refl K
 refine held.begin_ (fun w' => w'.cell? ⟨g, 17, none⟩ = some (.slice VA ks.length Vc) ∧ w'.cell? ⟨g3, 0, none⟩ = some (.int .i64 d.kind) ∧ w'.cell? ⟨g3, 1, none⟩ = some (.bool d.ext) ∧ w'.cell? ⟨g3, 2, none⟩ = some (.bool d.note.has) ∧ w'.cell? ⟨g3, 3, none⟩ = some (.bool d.note.block) ∧ w'.cell? ⟨g3, 4, none⟩ = some (.string (str d.note.text)) ∧ w'.cell? ⟨g3, 5, none⟩ = some (.string (str d.name)) ∧ w'.cell? ⟨g3, 6, none⟩ = some (.slice A6 d.ifaces.length c6) ∧ w'.cell? ⟨g3, 7, none⟩ = some (.slice A7 d.dirs.length c7) ∧ w'.cell? ⟨g3, 8, none⟩ = some (.slice A8 d.fields.length c8) ∧ w'.cell? ⟨g3, 9, none⟩ = some (.slice A9 d.inputs.length c9) ∧ w'.cell? ⟨g3, 10, none⟩ = some (.slice A10 d.members.length c10) ∧ w'.cell? ⟨g3, 11, none⟩ = some (.slice A11 d.values.length c11) ∧ w'.cell? ⟨g3, 12, none⟩ = some (.slice A12 d.roots.length c12) ∧ w'.cell? ⟨g3, 13, none⟩ = some (.bool d.rep) ∧ w'.cell? ⟨g3, 14, none⟩ = some (.slice A14 d.places.length c14) ∧ w'.cell? ⟨g3, 15, none⟩ = some (.int .i64 d.line) ∧ w'.cell? ⟨g3, 16, none⟩ = some (.int .i64 d.col) ∧ w'.frozen? ⟨g, 17, none⟩ = false) [11] (by kernel_rfl) ?_
 replace H := H.drew1
 obtain ⟨w11, hq12⟩ : ∃ x, (w10).drew = x := ⟨_, rfl⟩
 rw [hq12] at H ⊢
 clear hq12
 have hS13 : w11.cell? ⟨g, 17, none⟩ = some (.slice VA ks.length Vc) ∧ w11.cell? ⟨g3, 0, none⟩ = some (.int .i64 d.kind) ∧ w11.cell? ⟨g3, 1, none⟩ = some (.bool d.ext) ∧ w11.cell? ⟨g3, 2, none⟩ = some (.bool d.note.has) ∧ w11.cell? ⟨g3, 3, none⟩ = some (.bool d.note.block) ∧ w11.cell? ⟨g3, 4, none⟩ = some (.string (str d.note.text)) ∧ w11.cell? ⟨g3, 5, none⟩ = some (.string (str d.name)) ∧ w11.cell? ⟨g3, 6, none⟩ = some (.slice A6 d.ifaces.length c6) ∧ w11.cell? ⟨g3, 7, none⟩ = some (.slice A7 d.dirs.length c7) ∧ w11.cell? ⟨g3, 8, none⟩ = some (.slice A8 d.fields.length c8) ∧ w11.cell? ⟨g3, 9, none⟩ = some (.slice A9 d.inputs.length c9) ∧ w11.cell? ⟨g3, 10, none⟩ = some (.slice A10 d.members.length c10) ∧ w11.cell? ⟨g3, 11, none⟩ = some (.slice A11 d.values.length c11) ∧ w11.cell? ⟨g3, 12, none⟩ = some (.slice A12 d.roots.length c12) ∧ w11.cell? ⟨g3, 13, none⟩ = some (.bool d.rep) ∧ w11.cell? ⟨g3, 14, none⟩ = some (.slice A14 d.places.length c14) ∧ w11.cell? ⟨g3, 15, none⟩ = some (.int .i64 d.line) ∧ w11.cell? ⟨g3, 16, none⟩ = some (.int .i64 d.col) ∧ w11.frozen? ⟨g, 17, none⟩ = false := ⟨H.cell (i := 1) rfl rfl, H.cell (i := 0) rfl rfl, H.cell (i := 0) rfl rfl, H.cell (i := 0) rfl rfl, H.cell (i := 0) rfl rfl, H.cell (i := 0) rfl rfl, H.cell (i := 0) rfl rfl, H.cell (i := 0) rfl rfl, H.cell (i := 0) rfl rfl, H.cell (i := 0) rfl rfl, H.cell (i := 0) rfl rfl, H.cell (i := 0) rfl rfl, H.cell (i := 0) rfl rfl, H.cell (i := 0) rfl rfl, H.cell (i := 0) rfl rfl, H.cell (i := 0) rfl rfl, H.cell (i := 0) rfl rfl, H.cell (i := 0) rfl rfl, H.frozen (i := 1) rfl 17⟩
 refine held.take (i := 0) (v := ?_) rfl (by kernel_rfl) (by kernel_rfl) (by kernel_rfl) (by kernel_rfl) (by kernel_rfl) (fun _ _ _ h => h) (Or.inl ⟨by rfl, ?_⟩) hS13 ?_
 rotate_left
 · intro w hSw
   try dsimp only at hSw
   go_simp
   try with_reducible rfl
 try simp only [Act.put, List.getElem_toArray, List.getElem_cons_zero, List.getElem_cons_succ, List.setIfInBounds_toArray, List.set_cons_zero, List.set_cons_succ]
 refine held.take (i := 1) (v := ?_) rfl (by kernel_rfl) (by kernel_rfl) (by kernel_rfl) (by kernel_rfl) (by kernel_rfl) (fun _ _ _ h => h) (Or.inl ⟨by rfl, ?_⟩) hS13 ?_
 rotate_left
 · intro w hSw
   try dsimp only at hSw
   go_simp
   try with_reducible rfl
 try simp only [Act.put, List.getElem_toArray, List.getElem_cons_zero, List.getElem_cons_succ, List.setIfInBounds_toArray, List.set_cons_zero, List.set_cons_succ]
 refine held.take (i := 2) (v := ?_) rfl (by kernel_rfl) (by kernel_rfl) (by kernel_rfl) (by kernel_rfl) (by kernel_rfl) (fun _ _ _ h => h) (Or.inl ⟨by rfl, ?_⟩) hS13 ?_
 rotate_left
 · intro w hSw
   try dsimp only at hSw
   go_simp
   try with_reducible rfl
 try simp only [Act.put, List.getElem_toArray, List.getElem_cons_zero, List.getElem_cons_succ, List.setIfInBounds_toArray, List.set_cons_zero, List.set_cons_succ]
 refine held.take (i := 3) (v := ?_) rfl (by kernel_rfl) (by kernel_rfl) (by kernel_rfl) (by kernel_rfl) (by kernel_rfl) (fun _ _ _ h => h) (Or.inl ⟨by rfl, ?_⟩) hS13 ?_
 rotate_left
 · intro w hSw
   try dsimp only at hSw
   go_simp
   try with_reducible rfl
 try simp only [Act.put, List.getElem_toArray, List.getElem_cons_zero, List.getElem_cons_succ, List.setIfInBounds_toArray, List.set_cons_zero, List.set_cons_succ]
 refine held.take (i := 4) (v := ?_) rfl (by kernel_rfl) (by kernel_rfl) (by kernel_rfl) (by kernel_rfl) (by kernel_rfl) (fun _ _ _ h => h) (Or.inl ⟨by rfl, ?_⟩) hS13 ?_
 rotate_left
 · intro w hSw
   try dsimp only at hSw
   go_simp
   try with_reducible rfl
 try simp only [Act.put, List.getElem_toArray, List.getElem_cons_zero, List.getElem_cons_succ, List.setIfInBounds_toArray, List.set_cons_zero, List.set_cons_succ]
 refine held.take (i := 5) (v := ?_) rfl (by kernel_rfl) (by kernel_rfl) (by kernel_rfl) (by kernel_rfl) (by kernel_rfl) (fun _ _ _ h => h) (Or.inl ⟨by rfl, ?_⟩) hS13 ?_
 rotate_left
 · intro w hSw
   try dsimp only at hSw
   go_simp
   try with_reducible rfl
 try simp only [Act.put, List.getElem_toArray, List.getElem_cons_zero, List.getElem_cons_succ, List.setIfInBounds_toArray, List.set_cons_zero, List.set_cons_succ]
 refine held.step (i := 6) (by kernel_rfl) rfl (fun Kq hKq => ?_)
 go_simp
 refine (copyDef_rows d _ H hm hd).mono ?_
 clear H
 rintro e w5 ⟨K5, V, rfl, hle, H, hV⟩
 replace hd := hd.sat hle
 replace hK := hle.trans hK
 have ho := dv_one H
 replace H : Hp _ _ _ (_ :: _ :: _ :: _ :: _ :: _ :: _ :: _ :: _ :: _ :: _ :: _ :: M) := H
 try go_simp
 have hS14 : w5.cell? ⟨g, 17, none⟩ = some (.slice VA ks.length Vc) ∧ w5.cell? ⟨g3, 0, none⟩ = some (.int .i64 d.kind) ∧ w5.cell? ⟨g3, 1, none⟩ = some (.bool d.ext) ∧ w5.cell? ⟨g3, 2, none⟩ = some (.bool d.note.has) ∧ w5.cell? ⟨g3, 3, none⟩ = some (.bool d.note.block) ∧ w5.cell? ⟨g3, 4, none⟩ = some (.string (str d.note.text)) ∧ w5.cell? ⟨g3, 5, none⟩ = some (.string (str d.name)) ∧ w5.cell? ⟨g3, 6, none⟩ = some (.slice A6 d.ifaces.length c6) ∧ w5.cell? ⟨g3, 7, none⟩ = some (.slice A7 d.dirs.length c7) ∧ w5.cell? ⟨g3, 8, none⟩ = some (.slice A8 d.fields.length c8) ∧ w5.cell? ⟨g3, 9, none⟩ = some (.slice A9 d.inputs.length c9) ∧ w5.cell? ⟨g3, 10, none⟩ = some (.slice A10 d.members.length c10) ∧ w5.cell? ⟨g3, 11, none⟩ = some (.slice A11 d.values.length c11) ∧ w5.cell? ⟨g3, 12, none⟩ = some (.slice A12 d.roots.length c12) ∧ w5.cell? ⟨g3, 13, none⟩ = some (.bool d.rep) ∧ w5.cell? ⟨g3, 14, none⟩ = some (.slice A14 d.places.length c14) ∧ w5.cell? ⟨g3, 15, none⟩ = some (.int .i64 d.line) ∧ w5.cell? ⟨g3, 16, none⟩ = some (.int .i64 d.col) ∧ w5.frozen? ⟨g, 17, none⟩ = false := ⟨H.cell (i := 9) rfl rfl, H.cell (i := 8) rfl rfl, H.cell (i := 8) rfl rfl, H.cell (i := 8) rfl rfl, H.cell (i := 8) rfl rfl, H.cell (i := 8) rfl rfl, H.cell (i := 8) rfl rfl, H.cell (i := 8) rfl rfl, H.cell (i := 8) rfl rfl, H.cell (i := 8) rfl rfl, H.cell (i := 8) rfl rfl, H.cell (i := 8) rfl rfl, H.cell (i := 8) rfl rfl, H.cell (i := 8) rfl rfl, H.cell (i := 8) rfl rfl, H.cell (i := 8) rfl rfl, H.cell (i := 8) rfl rfl, H.cell (i := 8) rfl rfl, H.frozen (i := 9) rfl 17⟩
 refine hKq.out _ _ (fun _ => hS14) (fun _ => ?_)
 clear hKq Kq
 refine held.step (i := 7) (by kernel_rfl) rfl (fun Kq hKq => ?_)
 go_simp
 replace H := H.alloc [.int .i64 d.kind, .bool d.ext, .bool d.note.has, .bool d.note.block, .string (str d.note.text), .string (str d.name), V.v6, V.v7, V.v8, V.v9, V.v10, V.v11, V.v12, .bool d.rep, V.v14, .int .i64 d.line, .int .i64 d.col] 43
 obtain ⟨w17, hq18⟩ : ∃ x, (w5).alloc (.cells #[.int .i64 d.kind, .bool d.ext, .bool d.note.has, .bool d.note.block, .string (str d.note.text), .string (str d.name), V.v6, V.v7, V.v8, V.v9, V.v10, V.v11, V.v12, .bool d.rep, V.v14, .int .i64 d.line, .int .i64 d.col] 43) = x := ⟨_, rfl⟩
 obtain ⟨gb15, hg16⟩ : ∃ x, (w5).heap.size = x := ⟨_, rfl⟩
 rw [hg16] at H ⊢
 rw [hq18] at H ⊢
 clear hg16 hq18
 have hS19 : w17.cell? ⟨g, 17, none⟩ = some (.slice VA ks.length Vc) ∧ w17.cell? ⟨g3, 0, none⟩ = some (.int .i64 d.kind) ∧ w17.cell? ⟨g3, 1, none⟩ = some (.bool d.ext) ∧ w17.cell? ⟨g3, 2, none⟩ = some (.bool d.note.has) ∧ w17.cell? ⟨g3, 3, none⟩ = some (.bool d.note.block) ∧ w17.cell? ⟨g3, 4, none⟩ = some (.string (str d.note.text)) ∧ w17.cell? ⟨g3, 5, none⟩ = some (.string (str d.name)) ∧ w17.cell? ⟨g3, 6, none⟩ = some (.slice A6 d.ifaces.length c6) ∧ w17.cell? ⟨g3, 7, none⟩ = some (.slice A7 d.dirs.length c7) ∧ w17.cell? ⟨g3, 8, none⟩ = some (.slice A8 d.fields.length c8) ∧ w17.cell? ⟨g3, 9, none⟩ = some (.slice A9 d.inputs.length c9) ∧ w17.cell? ⟨g3, 10, none⟩ = some (.slice A10 d.members.length c10) ∧ w17.cell? ⟨g3, 11, none⟩ = some (.slice A11 d.values.length c11) ∧ w17.cell? ⟨g3, 12, none⟩ = some (.slice A12 d.roots.length c12) ∧ w17.cell? ⟨g3, 13, none⟩ = some (.bool d.rep) ∧ w17.cell? ⟨g3, 14, none⟩ = some (.slice A14 d.places.length c14) ∧ w17.cell? ⟨g3, 15, none⟩ = some (.int .i64 d.line) ∧ w17.cell? ⟨g3, 16, none⟩ = some (.int .i64 d.col) ∧ w17.frozen? ⟨g, 17, none⟩ = false := ⟨H.cell (i := 10) rfl rfl, H.cell (i := 9) rfl rfl, H.cell (i := 9) rfl rfl, H.cell (i := 9) rfl rfl, H.cell (i := 9) rfl rfl, H.cell (i := 9) rfl rfl, H.cell (i := 9) rfl rfl, H.cell (i := 9) rfl rfl, H.cell (i := 9) rfl rfl, H.cell (i := 9) rfl rfl, H.cell (i := 9) rfl rfl, H.cell (i := 9) rfl rfl, H.cell (i := 9) rfl rfl, H.cell (i := 9) rfl rfl, H.cell (i := 9) rfl rfl, H.cell (i := 9) rfl rfl, H.cell (i := 9) rfl rfl, H.cell (i := 9) rfl rfl, H.frozen (i := 10) rfl 17⟩
 refine hKq.out _ _ (fun _ => hS19) (fun _ => ?_)
 clear hKq Kq
 refine held.step (i := 8) (by kernel_rfl) rfl (fun Kq hKq => ?_)
 refine step_append_hp (by rfl) _ _ 22 (by rfl) 43 k0 _ 17 272 Tryz.underlying22 hk0 k0z k0s k0b (by rfl) (by decide) H 12 (.slice VA ks.length Vc) (ks.length) (xT) (by rfl) (by rfl) 0 gb15 [.int .i64 d.kind, .bool d.ext, .bool d.note.has, .bool d.note.block, .string (str d.note.text), .string (str d.name), V.v6, V.v7, V.v8, V.v9, V.v10, V.v11, V.v12, .bool d.rep, V.v14, .int .i64 d.line, .int .i64 d.col] (by rfl) (by rfl) (by rfl) ho (by simp only [maxLen]; omega) (by omega) ?_
 clear H
 intro V7 w7 H
 replace H : Hp _ _ _ (_ :: _ :: _ :: _ :: _ :: _ :: _ :: _ :: _ :: _ :: _ :: _ :: _ :: M) := H
 obtain ⟨V7A, V7c, rfl, V7l, V7m⟩ := H.slice (i := 12) rfl
 try go_simp
 have hS20 : w7.cell? ⟨g, 17, none⟩ = some (.slice VA ks.length Vc) ∧ w7.cell? ⟨g3, 0, none⟩ = some (.int .i64 d.kind) ∧ w7.cell? ⟨g3, 1, none⟩ = some (.bool d.ext) ∧ w7.cell? ⟨g3, 2, none⟩ = some (.bool d.note.has) ∧ w7.cell? ⟨g3, 3, none⟩ = some (.bool d.note.block) ∧ w7.cell? ⟨g3, 4, none⟩ = some (.string (str d.note.text)) ∧ w7.cell? ⟨g3, 5, none⟩ = some (.string (str d.name)) ∧ w7.cell? ⟨g3, 6, none⟩ = some (.slice A6 d.ifaces.length c6) ∧ w7.cell? ⟨g3, 7, none⟩ = some (.slice A7 d.dirs.length c7) ∧ w7.cell? ⟨g3, 8, none⟩ = some (.slice A8 d.fields.length c8) ∧ w7.cell? ⟨g3, 9, none⟩ = some (.slice A9 d.inputs.length c9) ∧ w7.cell? ⟨g3, 10, none⟩ = some (.slice A10 d.members.length c10) ∧ w7.cell? ⟨g3, 11, none⟩ = some (.slice A11 d.values.length c11) ∧ w7.cell? ⟨g3, 12, none⟩ = some (.slice A12 d.roots.length c12) ∧ w7.cell? ⟨g3, 13, none⟩ = some (.bool d.rep) ∧ w7.cell? ⟨g3, 14, none⟩ = some (.slice A14 d.places.length c14) ∧ w7.cell? ⟨g3, 15, none⟩ = some (.int .i64 d.line) ∧ w7.cell? ⟨g3, 16, none⟩ = some (.int .i64 d.col) ∧ w7.frozen? ⟨g, 17, none⟩ = false := ⟨H.cell (i := 10) rfl rfl, H.cell (i := 9) rfl rfl, H.cell (i := 9) rfl rfl, H.cell (i := 9) rfl rfl, H.cell (i := 9) rfl rfl, H.cell (i := 9) rfl rfl, H.cell (i := 9) rfl rfl, H.cell (i := 9) rfl rfl, H.cell (i := 9) rfl rfl, H.cell (i := 9) rfl rfl, H.cell (i := 9) rfl rfl, H.cell (i := 9) rfl rfl, H.cell (i := 9) rfl rfl, H.cell (i := 9) rfl rfl, H.cell (i := 9) rfl rfl, H.cell (i := 9) rfl rfl, H.cell (i := 9) rfl rfl, H.cell (i := 9) rfl rfl, H.frozen (i := 10) rfl 17⟩
 refine hKq.out _ _ (fun _ => hS20) (fun _ => ?_)
 clear hKq Kq
 refine held.take (i := 9) (v := ?_) rfl (by kernel_rfl) (by kernel_rfl) (by kernel_rfl) (by kernel_rfl) (by kernel_rfl) (fun _ _ _ h => h) (Or.inl ⟨by rfl, ?_⟩) hS20 ?_
 rotate_left
 · intro w hSw
   try dsimp only at hSw
   go_simp
   try with_reducible rfl
 try simp only [Act.put, List.getElem_toArray, List.getElem_cons_zero, List.getElem_cons_succ, List.setIfInBounds_toArray, List.set_cons_zero, List.set_cons_succ]
 refine held.take (i := 10) (v := ?_) rfl (by kernel_rfl) (by kernel_rfl) (by kernel_rfl) (by kernel_rfl) (by kernel_rfl) (fun _ _ _ h => h) (Or.inl ⟨by rfl, ?_⟩) hS20 ?_
 rotate_left
 · intro w hSw
   try dsimp only at hSw
   go_simp
   try with_reducible rfl
 try simp only [Act.put, List.getElem_toArray, List.getElem_cons_zero, List.getElem_cons_succ, List.setIfInBounds_toArray, List.set_cons_zero, List.set_cons_succ]
 refine held.step (i := 11) (by kernel_rfl) rfl (fun Kq hKq => ?_)
 refine step_store_hp (by rfl) 22 (.tmp 39) (.tmp 37) (by rfl) g 17 (by first | rfl | simp [Act.eval, Act.put]) (.slice V7A (ks.length + 1) V7c) (by first | rfl | simp [Act.eval, Act.put]) [.slice V7A (ks.length + 1) V7c] (by rfl) (by simp [Value.oneCell']) (by kernel_rfl) H 10 [.int .i64 0, .bool false, .bool false, .bool false, .string ⟨#[]⟩, .string ⟨#[]⟩, .slice none 0 0, .slice none 0 0, .slice none 0 0, .slice none 0 0, .slice none 0 0, .slice none 0 0, .slice none 0 0, .bool false, .slice none 0 0, .int .i64 0, .int .i64 0, .slice VA ks.length Vc, .map (some ga), VD, .map (some gd), .map (some gf), .map (some go)] [.int .i64 0, .bool false, .bool false, .bool false, .string ⟨#[]⟩, .string ⟨#[]⟩, .slice none 0 0, .slice none 0 0, .slice none 0 0, .slice none 0 0, .slice none 0 0, .slice none 0 0, .slice none 0 0, .bool false, .slice none 0 0, .int .i64 0, .int .i64 0, .slice V7A (ks.length + 1) V7c, .map (some ga), VD, .map (some gd), .map (some gf), .map (some go)] 91 (by rfl) (Nat.le_of_ble_eq_true (by rfl)) (by rfl) ?_
 clear H
 intro w21 H
 refine hKq.out _ _ (fun h => absurd (List.mem_singleton.2 rfl) h) (fun _ => ?_)
 clear hKq Kq
 refine held.done (by kernel_rfl) ?_ _
 simp only [Act.put, List.getElem_toArray, List.getElem_cons_zero, List.getElem_cons_succ, List.setIfInBounds_toArray, List.set_cons_zero, List.set_cons_succ]
 replace H : Hp _ _ _ (_ :: _ :: _ :: _ :: _ :: _ :: _ :: _ :: _ :: _ :: _ :: _ :: _ :: M) := H
 go_wp2_with fail
 replace H := H.sub (List.Sublist.cons _ (List.Sublist.cons_cons _ (List.Sublist.cons_cons _ (List.Sublist.cons_cons _ (List.Sublist.cons_cons _ (List.Sublist.cons_cons _ (List.Sublist.cons_cons _ (List.Sublist.cons_cons _ (List.Sublist.cons_cons _ (List.Sublist.cons _ (List.Sublist.cons_cons _ (List.Sublist.cons_cons _ (List.Sublist.cons_cons _ (List.Sublist.refl _))))))))))))))
 replace H : Hp w0 w21 K5 (.box g [.int .i64 0, .bool false, .bool false, .bool false, .string ⟨#[]⟩, .string ⟨#[]⟩, .slice none 0 0, .slice none 0 0, .slice none 0 0, .slice none 0 0, .slice none 0 0, .slice none 0 0, .slice none 0 0, .bool false, .slice none 0 0, .int .i64 0, .int .i64 0, .slice V7A (ks.length + 1) V7c, .map (some ga), VD, .map (some gd), .map (some gf), .map (some go)] 91 :: .map ga (sents (nmap (ks ++ [d.name]))) :: .row 43 17 (.slice V7A (ks.length + 1) V7c) (ks.length + 1) (xT ++ [.int .i64 d.kind, .bool d.ext, .bool d.note.has, .bool d.note.block, .string (str d.note.text), .string (str d.name), V.v6, V.v7, V.v8, V.v9, V.v10, V.v11, V.v12, .bool d.rep, V.v14, .int .i64 d.line, .int .i64 d.col]) :: .row 52 10 (V.v8) (d.fields.length) (V.x8) :: .row 133 7 (V.v11) (d.values.length) (V.x11) :: .row 113 3 (V.v6) (d.ifaces.length) (V.x6) :: .row 113 3 (V.v10) (d.members.length) (V.x10) :: .row 113 3 (V.v14) (d.places.length) (V.x14) :: .row 100 4 (V.v12) (d.roots.length) (V.x12) :: .row 123 17 (V.v9) (d.inputs.length) (V.x9) :: .row 181 4 (V.v7) (d.dirs.length) (V.x7) :: M) := Hp.rot [.row 52 10 (V.v8) (d.fields.length) (V.x8), .row 133 7 (V.v11) (d.values.length) (V.x11), .row 113 3 (V.v6) (d.ifaces.length) (V.x6), .row 113 3 (V.v10) (d.members.length) (V.x10), .row 113 3 (V.v14) (d.places.length) (V.x14), .row 100 4 (V.v12) (d.roots.length) (V.x12), .row 123 17 (V.v9) (d.inputs.length) (V.x9), .row 181 4 (V.v7) (d.dirs.length) (V.x7)] [.box g [.int .i64 0, .bool false, .bool false, .bool false, .string ⟨#[]⟩, .string ⟨#[]⟩, .slice none 0 0, .slice none 0 0, .slice none 0 0, .slice none 0 0, .slice none 0 0, .slice none 0 0, .slice none 0 0, .bool false, .slice none 0 0, .int .i64 0, .int .i64 0, .slice V7A (ks.length + 1) V7c, .map (some ga), VD, .map (some gd), .map (some gf), .map (some go)] 91, .map ga (sents (nmap (ks ++ [d.name]))), .row 43 17 (.slice V7A (ks.length + 1) V7c) (ks.length + 1) (xT ++ [.int .i64 d.kind, .bool d.ext, .bool d.note.has, .bool d.note.block, .string (str d.note.text), .string (str d.name), V.v6, V.v7, V.v8, V.v9, V.v10, V.v11, V.v12, .bool d.rep, V.v14, .int .i64 d.line, .int .i64 d.col])] H
 go_wp2_with fail
 go_end0
 exact ⟨K5, V, _, rfl, hK, H, hV⟩
set_option maxHeartbeats 16000000 in
theorem addDir_old (d : DefD) (cs : Array Value) (ks : List Txt) (g ga gd gf go : Nat) (VT VD : Value) (w0 w K : World) (M : List Ent) (H : Hp w0 w K (tbox g ga gd gf go VT VD :: .map gd (sents (nmap ks)) :: M)) (hd : RL K (defL d) cs.toList) (hin : d.name ∈ ks) :
  Calls Tryz.prog 58 #[.pointer (some ⟨g, 0, none⟩), .agg cs] w fun e w' => e = .returned (.tuple #[]) ∧ Hp w0 w' K (tbox g ga gd gf go VT VD :: .map gd (sents (nmap ks)) :: M) := by
 obtain ⟨A6, c6, A7, c7, A8, c8, A9, c9, A10, c10, A11, c11, A12, c12, A14, c14, hcs, -, -, -, -, -, -, -, -⟩ := def_cells hd
 obtain rfl : cs = #[.int .i64 d.kind, .bool d.ext, .bool d.note.has, .bool d.note.block, .string (str d.note.text), .string (str d.name), .slice A6 d.ifaces.length c6, .slice A7 d.dirs.length c7, .slice A8 d.fields.length c8, .slice A9 d.inputs.length c9, .slice A10 d.members.length c10, .slice A11 d.values.length c11, .slice A12 d.roots.length c12, .bool d.rep, .slice A14 d.places.length c14, .int .i64 d.line, .int .i64 d.col] := Array.toList_inj.1 hcs
 obtain ⟨i, -, -, hf⟩ := find_some hin
 go_enter Tryz.func58, Tryz.ntmps58
 replace H : Hp _ _ _ (.box _ [_, _, _, _, _, _, _, _, _, _, _, _, _, _, _, _, _, _, _, _, _, _, _] _ :: _ :: M) := H
 try dsimp only at H
 go_upto_region 1 with (first
  | (refine box_hp (by rfl) 43 (.tmp 1) (by rfl) [.int .i64 d.kind, .bool d.ext, .bool d.note.has, .bool d.note.block, .string (str d.note.text), .string (str d.name), .slice A6 d.ifaces.length c6, .slice A7 d.dirs.length c7, .slice A8 d.fields.length c8, .slice A9 d.inputs.length c9, .slice A10 d.members.length c10, .slice A11 d.values.length c11, .slice A12 d.roots.length c12, .bool d.rep, .slice A14 d.places.length c14, .int .i64 d.line, .int .i64 d.col] _ (by rfl) (by rfl) (some 3) (by rfl) H ?_; clear H; intro w1 g3 H hg2; clear hg2))
 have := H.c 1 20
 have := H.c 0 5
 have hrun := fun k => run_lookup_s (P := Tryz.prog) (w := (w1).drewN k) (t := 87) (kt := 9) (et := 3) (l := nmap ks) (b := gd) Tryz.underlying87 Tryz.underlying9 (.int .i64 0) (zero_int _) ((H.drew k).mapAt (i := 2) rfl) d.name true
 go_quiet (fail)
 replace H := H.drew nq
 obtain ⟨w3, hq4⟩ : ∃ x, (w1).drewN nq = x := ⟨_, rfl⟩
 rw [hq4] at H ⊢
 clear hq4
 replace H : Hp _ _ _ (_ :: _ :: _ :: M) := H
 go_wp2_with fail
 replace H := H.sub (List.Sublist.cons _ (List.Sublist.cons_cons _ (List.Sublist.cons_cons _ (List.Sublist.refl _))))
 go_end0
 exact ⟨rfl, H⟩
def AddD (d : DefD) (ks : List Txt) (g ga gd gf go : Nat) (VT : Value) (xD : List Value) (w0 K : World) (M : List Ent) (e : Ending) (w' : World) : Prop :=
 ∃ K' xs VD', e = .returned (.tuple #[]) ∧ Sat K' K ∧ Hp w0 w' K' (tbox g ga gd gf go VT VD' :: .map gd (sents (nmap (ks ++ [d.name]))) :: .row 43 17 VD' (ks.length + 1) (xD ++ xs) :: M) ∧ RL K' (defL d) xs
set_option maxHeartbeats 16000000 in
theorem addDir_new (d : DefD) (cs : Array Value) (ks : List Txt) (g ga gd gf go : Nat) (VT VD : Value) (xD : List Value) (w0 w K : World) (M : List Ent) (H : Hp w0 w K (tbox g ga gd gf go VT VD :: .map gd (sents (nmap ks)) :: .row 43 17 VD ks.length xD :: M)) (hd : RL K (defL d) cs.toList) (hin : d.name ∉ ks) (hm : defN d ≤ 9000000) (hk : ks.length ≤ 9000000) :
  Calls Tryz.prog 58 #[.pointer (some ⟨g, 0, none⟩), .agg cs] w (AddD d ks g ga gd gf go VT xD w0 K M) := by
 obtain ⟨A6, c6, A7, c7, A8, c8, A9, c9, A10, c10, A11, c11, A12, c12, A14, c14, hcs, -, -, -, -, -, -, -, -⟩ := def_cells hd
 obtain rfl : cs = #[.int .i64 d.kind, .bool d.ext, .bool d.note.has, .bool d.note.block, .string (str d.note.text), .string (str d.name), .slice A6 d.ifaces.length c6, .slice A7 d.dirs.length c7, .slice A8 d.fields.length c8, .slice A9 d.inputs.length c9, .slice A10 d.members.length c10, .slice A11 d.values.length c11, .slice A12 d.roots.length c12, .bool d.rep, .slice A14 d.places.length c14, .int .i64 d.line, .int .i64 d.col] := Array.toList_inj.1 hcs
 have hf := find_none hin
 have hput := nmap_put ks d.name hin
 obtain ⟨VA, Vc, rfl, hVl, hVm⟩ := H.slice (i := 2) rfl
 obtain ⟨k0, hk0, k0z, k0s, k0b⟩ := info_parts def_info
 go_enter Tryz.func58, Tryz.ntmps58
 replace H : Hp _ _ _ (.box _ [_, _, _, _, _, _, _, _, _, _, _, _, _, _, _, _, _, _, _, _, _, _, _] _ :: _ :: _ :: M) := H
 try dsimp only at H
 go_upto_region 1 with (first
  | (refine box_hp (by rfl) 43 (.tmp 1) (by rfl) [.int .i64 d.kind, .bool d.ext, .bool d.note.has, .bool d.note.block, .string (str d.note.text), .string (str d.name), .slice A6 d.ifaces.length c6, .slice A7 d.dirs.length c7, .slice A8 d.fields.length c8, .slice A9 d.inputs.length c9, .slice A10 d.members.length c10, .slice A11 d.values.length c11, .slice A12 d.roots.length c12, .bool d.rep, .slice A14 d.places.length c14, .int .i64 d.line, .int .i64 d.col] _ (by rfl) (by rfl) (some 3) (by rfl) H ?_; clear H; intro w5 g3 H hg6; clear hg6))
 have := H.c 1 20
 have := H.c 0 5
 have hrun := fun k => run_lookup_s (P := Tryz.prog) (w := (w5).drewN k) (t := 87) (kt := 9) (et := 3) (l := nmap ks) (b := gd) Tryz.underlying87 Tryz.underlying9 (.int .i64 0) (zero_int _) ((H.drew k).mapAt (i := 2) rfl) d.name true
 go_quiet (fail)
 replace H := H.drew nq
 obtain ⟨w7, hq8⟩ : ∃ x, (w5).drewN nq = x := ⟨_, rfl⟩
 rw [hq8] at H ⊢
 clear hq8
 replace H : Hp _ _ _ (_ :: _ :: _ :: _ :: M) := H
 clear hrun
 go_upto_region 3 with (fail)
 refine still_hp 11 (by kernel_rfl) (by kernel_rfl) H ?_
 clear H
 intro w9 H
 have := H.c 1 19
 have := H.c 1 20
 have := H.c 0 5
 simp only [List.take_succ_cons, List.take_zero, List.drop_succ_cons, List.drop_zero]
 repeat still_step
 refine wpStill_nil ?_
 replace H : Hp _ _ _ (_ :: _ :: _ :: _ :: M) := H
 have := H.c 1 20
 have := H.c 0 5
 have := H.c 1 19
 go_upto_region 4 with (first
  | (refine update_hp (by rfl) (.tmp 21) (.tmp 23) (.tmp 28) 87 (by rfl) Tryz.underlying87 Tryz.underlying9 H 2 gd (nmap ks) (by rfl) (by first | rfl | simp [Act.eval, Act.put]) (d.name) (by first | rfl | simp [Act.eval, Act.put]) (.int .i64 (ks.length : Int)) (by first | rfl | simp [Act.eval, Act.put]) (nmap (ks ++ [d.name])) (hput) ?_; clear H; intro w10 H; replace H : Hp _ _ _ (_ :: _ :: _ :: _ :: M) := H; have := H.c 1 20; have := H.c 0 5; have := H.c 1 19))
 have hK := Sat.refl K
 refine held.begin_ (fun w' => w'.cell? ⟨g, 19, none⟩ = some (.slice VA ks.length Vc) ∧ w'.cell? ⟨g3, 0, none⟩ = some (.int .i64 d.kind) ∧ w'.cell? ⟨g3, 1, none⟩ = some (.bool d.ext) ∧ w'.cell? ⟨g3, 2, none⟩ = some (.bool d.note.has) ∧ w'.cell? ⟨g3, 3, none⟩ = some (.bool d.note.block) ∧ w'.cell? ⟨g3, 4, none⟩ = some (.string (str d.note.text)) ∧ w'.cell? ⟨g3, 5, none⟩ = some (.string (str d.name)) ∧ w'.cell? ⟨g3, 6, none⟩ = some (.slice A6 d.ifaces.length c6) ∧ w'.cell? ⟨g3, 7, none⟩ = some (.slice A7 d.dirs.length c7) ∧ w'.cell? ⟨g3, 8, none⟩ = some (.slice A8 d.fields.length c8) ∧ w'.cell? ⟨g3, 9, none⟩ = some (.slice A9 d.inputs.length c9) ∧ w'.cell? ⟨g3, 10, none⟩ = some (.slice A10 d.members.length c10) ∧ w'.cell? ⟨g3, 11, none⟩ = some (.slice A11 d.values.length c11) ∧ w'.cell? ⟨g3, 12, none⟩ = some (.slice A12 d.roots.length c12) ∧ w'.cell? ⟨g3, 13, none⟩ = some (.bool d.rep) ∧ w'.cell? ⟨g3, 14, none⟩ = some (.slice A14 d.places.length c14) ∧ w'.cell? ⟨g3, 15, none⟩ = some (.int .i64 d.line) ∧ w'.cell? ⟨g3, 16, none⟩ = some (.int .i64 d.col) ∧ w'.frozen? ⟨g, 19, none⟩ = false) [11] (by kernel_rfl) ?_
 replace H := H.drew1
 obtain ⟨w11, hq12⟩ : ∃ x, (w10).drew = x := ⟨_, rfl⟩
 rw [hq12] at H ⊢
 clear hq12
 have hS13 : w11.cell? ⟨g, 19, none⟩ = some (.slice VA ks.length Vc) ∧ w11.cell? ⟨g3, 0, none⟩ = some (.int .i64 d.kind) ∧ w11.cell? ⟨g3, 1, none⟩ = some (.bool d.ext) ∧ w11.cell? ⟨g3, 2, none⟩ = some (.bool d.note.has) ∧ w11.cell? ⟨g3, 3, none⟩ = some (.bool d.note.block) ∧ w11.cell? ⟨g3, 4, none⟩ = some (.string (str d.note.text)) ∧ w11.cell? ⟨g3, 5, none⟩ = some (.string (str d.name)) ∧ w11.cell? ⟨g3, 6, none⟩ = some (.slice A6 d.ifaces.length c6) ∧ w11.cell? ⟨g3, 7, none⟩ = some (.slice A7 d.dirs.length c7) ∧ w11.cell? ⟨g3, 8, none⟩ = some (.slice A8 d.fields.length c8) ∧ w11.cell? ⟨g3, 9, none⟩ = some (.slice A9 d.inputs.length c9) ∧ w11.cell? ⟨g3, 10, none⟩ = some (.slice A10 d.members.length c10) ∧ w11.cell? ⟨g3, 11, none⟩ = some (.slice A11 d.values.length c11) ∧ w11.cell? ⟨g3, 12, none⟩ = some (.slice A12 d.roots.length c12) ∧ w11.cell? ⟨g3, 13, none⟩ = some (.bool d.rep) ∧ w11.cell? ⟨g3, 14, none⟩ = some (.slice A14 d.places.length c14) ∧ w11.cell? ⟨g3, 15, none⟩ = some (.int .i64 d.line) ∧ w11.cell? ⟨g3, 16, none⟩ = some (.int .i64 d.col) ∧ w11.frozen? ⟨g, 19, none⟩ = false := ⟨H.cell (i := 1) rfl rfl, H.cell (i := 0) rfl rfl, H.cell (i := 0) rfl rfl, H.cell (i := 0) rfl rfl, H.cell (i := 0) rfl rfl, H.cell (i := 0) rfl rfl, H.cell (i := 0) rfl rfl, H.cell (i := 0) rfl rfl, H.cell (i := 0) rfl rfl, H.cell (i := 0) rfl rfl, H.cell (i := 0) rfl rfl, H.cell (i := 0) rfl rfl, H.cell (i := 0) rfl rfl, H.cell (i := 0) rfl rfl, H.cell (i := 0) rfl rfl, H.cell (i := 0) rfl rfl, H.cell (i := 0) rfl rfl, H.cell (i := 0) rfl rfl, H.frozen (i := 1) rfl 19⟩
 refine held.take (i := 0) (v := ?_) rfl (by kernel_rfl) (by kernel_rfl) (by kernel_rfl) (by kernel_rfl) (by kernel_rfl) (fun _ _ _ h => h) (Or.inl ⟨by rfl, ?_⟩) hS13 ?_
 rotate_left
 · intro w hSw
   try dsimp only at hSw
   go_simp
   try with_reducible rfl
 try simp only [Act.put, List.getElem_toArray, List.getElem_cons_zero, List.getElem_cons_succ, List.setIfInBounds_toArray, List.set_cons_zero, List.set_cons_succ]
 refine held.take (i := 1) (v := ?_) rfl (by kernel_rfl) (by kernel_rfl) (by kernel_rfl) (by kernel_rfl) (by kernel_rfl) (fun _ _ _ h => h) (Or.inl ⟨by rfl, ?_⟩) hS13 ?_
 rotate_left
 · intro w hSw
   try dsimp only at hSw
   go_simp
   try with_reducible rfl
 try simp only [Act.put, List.getElem_toArray, List.getElem_cons_zero, List.getElem_cons_succ, List.setIfInBounds_toArray, List.set_cons_zero, List.set_cons_succ]
 refine held.take (i := 2) (v := ?_) rfl (by kernel_rfl) (by kernel_rfl) (by kernel_rfl) (by kernel_rfl) (by kernel_rfl) (fun _ _ _ h => h) (Or.inl ⟨by rfl, ?_⟩) hS13 ?_
 rotate_left
 · intro w hSw
   try dsimp only at hSw
   go_simp
   try with_reducible rfl
 try simp only [Act.put, List.getElem_toArray, List.getElem_cons_zero, List.getElem_cons_succ, List.setIfInBounds_toArray, List.set_cons_zero, List.set_cons_succ]
 refine held.take (i := 3) (v := ?_) rfl (by kernel_rfl) (by kernel_rfl) (by kernel_rfl) (by kernel_rfl) (by kernel_rfl) (fun _ _ _ h => h) (Or.inl ⟨by rfl, ?_⟩) hS13 ?_
 rotate_left
 · intro w hSw
   try dsimp only at hSw
   go_simp
   try with_reducible rfl
 try simp only [Act.put, List.getElem_toArray, List.getElem_cons_zero, List.getElem_cons_succ, List.setIfInBounds_toArray, List.set_cons_zero, List.set_cons_succ]
 refine held.take (i := 4) (v := ?_) rfl (by kernel_rfl) (by kernel_rfl) (by kernel_rfl) (by kernel_rfl) (by kernel_rfl) (fun _ _ _ h => h) (Or.inl ⟨by rfl, ?_⟩) hS13 ?_
 rotate_left
 · intro w hSw
   try dsimp only at hSw
   go_simp
   try with_reducible rfl
 try simp only [Act.put, List.getElem_toArray, List.getElem_cons_zero, List.getElem_cons_succ, List.setIfInBounds_toArray, List.set_cons_zero, List.set_cons_succ]
 refine held.take (i := 5) (v := ?_) rfl (by kernel_rfl) (by kernel_rfl) (by kernel_rfl) (by kernel_rfl) (by kernel_rfl) (fun _ _ _ h => h) (Or.inl ⟨by rfl, ?_⟩) hS13 ?_
 rotate_left
 · intro w hSw
   try dsimp only at hSw
   go_simp
   try with_reducible rfl
 try simp only [Act.put, List.getElem_toArray, List.getElem_cons_zero, List.getElem_cons_succ, List.setIfInBounds_toArray, List.set_cons_zero, List.set_cons_succ]
 refine held.step (i := 6) (by kernel_rfl) rfl (fun Kq hKq => ?_)
 go_simp
 refine (copyDef_hp d _ H hm hd).mono ?_
 clear H
 rintro e w5 ⟨K5, cs5, rfl, hle, H, hV⟩
 replace hd := hd.sat hle
 replace hK := hle.trans hK
 obtain ⟨B6, e6, B7, e7, B8, e8, B9, e9, B10, e10, B11, e11, B12, e12, B14, e14, hcs5, -, -, -, -, -, -, -, -⟩ := def_cells hV
 obtain rfl : cs5 = #[.int .i64 d.kind, .bool d.ext, .bool d.note.has, .bool d.note.block, .string (str d.note.text), .string (str d.name), .slice B6 d.ifaces.length e6, .slice B7 d.dirs.length e7, .slice B8 d.fields.length e8, .slice B9 d.inputs.length e9, .slice B10 d.members.length e10, .slice B11 d.values.length e11, .slice B12 d.roots.length e12, .bool d.rep, .slice B14 d.places.length e14, .int .i64 d.line, .int .i64 d.col] := Array.toList_inj.1 hcs5
 clear hcs5
 replace H : Hp _ _ _ (_ :: _ :: _ :: _ :: M) := H
 try go_simp
 have hS14 : w5.cell? ⟨g, 19, none⟩ = some (.slice VA ks.length Vc) ∧ w5.cell? ⟨g3, 0, none⟩ = some (.int .i64 d.kind) ∧ w5.cell? ⟨g3, 1, none⟩ = some (.bool d.ext) ∧ w5.cell? ⟨g3, 2, none⟩ = some (.bool d.note.has) ∧ w5.cell? ⟨g3, 3, none⟩ = some (.bool d.note.block) ∧ w5.cell? ⟨g3, 4, none⟩ = some (.string (str d.note.text)) ∧ w5.cell? ⟨g3, 5, none⟩ = some (.string (str d.name)) ∧ w5.cell? ⟨g3, 6, none⟩ = some (.slice A6 d.ifaces.length c6) ∧ w5.cell? ⟨g3, 7, none⟩ = some (.slice A7 d.dirs.length c7) ∧ w5.cell? ⟨g3, 8, none⟩ = some (.slice A8 d.fields.length c8) ∧ w5.cell? ⟨g3, 9, none⟩ = some (.slice A9 d.inputs.length c9) ∧ w5.cell? ⟨g3, 10, none⟩ = some (.slice A10 d.members.length c10) ∧ w5.cell? ⟨g3, 11, none⟩ = some (.slice A11 d.values.length c11) ∧ w5.cell? ⟨g3, 12, none⟩ = some (.slice A12 d.roots.length c12) ∧ w5.cell? ⟨g3, 13, none⟩ = some (.bool d.rep) ∧ w5.cell? ⟨g3, 14, none⟩ = some (.slice A14 d.places.length c14) ∧ w5.cell? ⟨g3, 15, none⟩ = some (.int .i64 d.line) ∧ w5.cell? ⟨g3, 16, none⟩ = some (.int .i64 d.col) ∧ w5.frozen? ⟨g, 19, none⟩ = false := ⟨H.cell (i := 1) rfl rfl, H.cell (i := 0) rfl rfl, H.cell (i := 0) rfl rfl, H.cell (i := 0) rfl rfl, H.cell (i := 0) rfl rfl, H.cell (i := 0) rfl rfl, H.cell (i := 0) rfl rfl, H.cell (i := 0) rfl rfl, H.cell (i := 0) rfl rfl, H.cell (i := 0) rfl rfl, H.cell (i := 0) rfl rfl, H.cell (i := 0) rfl rfl, H.cell (i := 0) rfl rfl, H.cell (i := 0) rfl rfl, H.cell (i := 0) rfl rfl, H.cell (i := 0) rfl rfl, H.cell (i := 0) rfl rfl, H.cell (i := 0) rfl rfl, H.frozen (i := 1) rfl 19⟩
 refine hKq.out _ _ (fun _ => hS14) (fun _ => ?_)
 clear hKq Kq
 refine held.step (i := 7) (by kernel_rfl) rfl (fun Kq hKq => ?_)
 go_simp
 replace H := H.alloc [.int .i64 d.kind, .bool d.ext, .bool d.note.has, .bool d.note.block, .string (str d.note.text), .string (str d.name), .slice B6 d.ifaces.length e6, .slice B7 d.dirs.length e7, .slice B8 d.fields.length e8, .slice B9 d.inputs.length e9, .slice B10 d.members.length e10, .slice B11 d.values.length e11, .slice B12 d.roots.length e12, .bool d.rep, .slice B14 d.places.length e14, .int .i64 d.line, .int .i64 d.col] 43
 obtain ⟨w17, hq18⟩ : ∃ x, (w5).alloc (.cells #[.int .i64 d.kind, .bool d.ext, .bool d.note.has, .bool d.note.block, .string (str d.note.text), .string (str d.name), .slice B6 d.ifaces.length e6, .slice B7 d.dirs.length e7, .slice B8 d.fields.length e8, .slice B9 d.inputs.length e9, .slice B10 d.members.length e10, .slice B11 d.values.length e11, .slice B12 d.roots.length e12, .bool d.rep, .slice B14 d.places.length e14, .int .i64 d.line, .int .i64 d.col] 43) = x := ⟨_, rfl⟩
 obtain ⟨gb15, hg16⟩ : ∃ x, (w5).heap.size = x := ⟨_, rfl⟩
 rw [hg16] at H ⊢
 rw [hq18] at H ⊢
 clear hg16 hq18
 have hS19 : w17.cell? ⟨g, 19, none⟩ = some (.slice VA ks.length Vc) ∧ w17.cell? ⟨g3, 0, none⟩ = some (.int .i64 d.kind) ∧ w17.cell? ⟨g3, 1, none⟩ = some (.bool d.ext) ∧ w17.cell? ⟨g3, 2, none⟩ = some (.bool d.note.has) ∧ w17.cell? ⟨g3, 3, none⟩ = some (.bool d.note.block) ∧ w17.cell? ⟨g3, 4, none⟩ = some (.string (str d.note.text)) ∧ w17.cell? ⟨g3, 5, none⟩ = some (.string (str d.name)) ∧ w17.cell? ⟨g3, 6, none⟩ = some (.slice A6 d.ifaces.length c6) ∧ w17.cell? ⟨g3, 7, none⟩ = some (.slice A7 d.dirs.length c7) ∧ w17.cell? ⟨g3, 8, none⟩ = some (.slice A8 d.fields.length c8) ∧ w17.cell? ⟨g3, 9, none⟩ = some (.slice A9 d.inputs.length c9) ∧ w17.cell? ⟨g3, 10, none⟩ = some (.slice A10 d.members.length c10) ∧ w17.cell? ⟨g3, 11, none⟩ = some (.slice A11 d.values.length c11) ∧ w17.cell? ⟨g3, 12, none⟩ = some (.slice A12 d.roots.length c12) ∧ w17.cell? ⟨g3, 13, none⟩ = some (.bool d.rep) ∧ w17.cell? ⟨g3, 14, none⟩ = some (.slice A14 d.places.length c14) ∧ w17.cell? ⟨g3, 15, none⟩ = some (.int .i64 d.line) ∧ w17.cell? ⟨g3, 16, none⟩ = some (.int .i64 d.col) ∧ w17.frozen? ⟨g, 19, none⟩ = false := ⟨H.cell (i := 2) rfl rfl, H.cell (i := 1) rfl rfl, H.cell (i := 1) rfl rfl, H.cell (i := 1) rfl rfl, H.cell (i := 1) rfl rfl, H.cell (i := 1) rfl rfl, H.cell (i := 1) rfl rfl, H.cell (i := 1) rfl rfl, H.cell (i := 1) rfl rfl, H.cell (i := 1) rfl rfl, H.cell (i := 1) rfl rfl, H.cell (i := 1) rfl rfl, H.cell (i := 1) rfl rfl, H.cell (i := 1) rfl rfl, H.cell (i := 1) rfl rfl, H.cell (i := 1) rfl rfl, H.cell (i := 1) rfl rfl, H.cell (i := 1) rfl rfl, H.frozen (i := 2) rfl 19⟩
 refine hKq.out _ _ (fun _ => hS19) (fun _ => ?_)
 clear hKq Kq
 refine held.step (i := 8) (by kernel_rfl) rfl (fun Kq hKq => ?_)
 refine step_append_hp (by rfl) _ _ 22 (by rfl) 43 k0 _ 17 272 Tryz.underlying22 hk0 k0z k0s k0b (by rfl) (by decide) H 4 (.slice VA ks.length Vc) (ks.length) (xD) (by rfl) (by rfl) 0 gb15 [.int .i64 d.kind, .bool d.ext, .bool d.note.has, .bool d.note.block, .string (str d.note.text), .string (str d.name), .slice B6 d.ifaces.length e6, .slice B7 d.dirs.length e7, .slice B8 d.fields.length e8, .slice B9 d.inputs.length e9, .slice B10 d.members.length e10, .slice B11 d.values.length e11, .slice B12 d.roots.length e12, .bool d.rep, .slice B14 d.places.length e14, .int .i64 d.line, .int .i64 d.col] (by rfl) (by rfl) (by rfl) (by simp [Value.oneCell']) (by simp only [maxLen]; omega) (by omega) ?_
 clear H
 intro V7 w7 H
 replace H : Hp _ _ _ (_ :: _ :: _ :: _ :: _ :: M) := H
 obtain ⟨V7A, V7c, rfl, V7l, V7m⟩ := H.slice (i := 4) rfl
 try go_simp
 have hS20 : w7.cell? ⟨g, 19, none⟩ = some (.slice VA ks.length Vc) ∧ w7.cell? ⟨g3, 0, none⟩ = some (.int .i64 d.kind) ∧ w7.cell? ⟨g3, 1, none⟩ = some (.bool d.ext) ∧ w7.cell? ⟨g3, 2, none⟩ = some (.bool d.note.has) ∧ w7.cell? ⟨g3, 3, none⟩ = some (.bool d.note.block) ∧ w7.cell? ⟨g3, 4, none⟩ = some (.string (str d.note.text)) ∧ w7.cell? ⟨g3, 5, none⟩ = some (.string (str d.name)) ∧ w7.cell? ⟨g3, 6, none⟩ = some (.slice A6 d.ifaces.length c6) ∧ w7.cell? ⟨g3, 7, none⟩ = some (.slice A7 d.dirs.length c7) ∧ w7.cell? ⟨g3, 8, none⟩ = some (.slice A8 d.fields.length c8) ∧ w7.cell? ⟨g3, 9, none⟩ = some (.slice A9 d.inputs.length c9) ∧ w7.cell? ⟨g3, 10, none⟩ = some (.slice A10 d.members.length c10) ∧ w7.cell? ⟨g3, 11, none⟩ = some (.slice A11 d.values.length c11) ∧ w7.cell? ⟨g3, 12, none⟩ = some (.slice A12 d.roots.length c12) ∧ w7.cell? ⟨g3, 13, none⟩ = some (.bool d.rep) ∧ w7.cell? ⟨g3, 14, none⟩ = some (.slice A14 d.places.length c14) ∧ w7.cell? ⟨g3, 15, none⟩ = some (.int .i64 d.line) ∧ w7.cell? ⟨g3, 16, none⟩ = some (.int .i64 d.col) ∧ w7.frozen? ⟨g, 19, none⟩ = false := ⟨H.cell (i := 2) rfl rfl, H.cell (i := 1) rfl rfl, H.cell (i := 1) rfl rfl, H.cell (i := 1) rfl rfl, H.cell (i := 1) rfl rfl, H.cell (i := 1) rfl rfl, H.cell (i := 1) rfl rfl, H.cell (i := 1) rfl rfl, H.cell (i := 1) rfl rfl, H.cell (i := 1) rfl rfl, H.cell (i := 1) rfl rfl, H.cell (i := 1) rfl rfl, H.cell (i := 1) rfl rfl, H.cell (i := 1) rfl rfl, H.cell (i := 1) rfl rfl, H.cell (i := 1) rfl rfl, H.cell (i := 1) rfl rfl, H.cell (i := 1) rfl rfl, H.frozen (i := 2) rfl 19⟩
 refine hKq.out _ _ (fun _ => hS20) (fun _ => ?_)
 clear hKq Kq
 refine held.take (i := 9) (v := ?_) rfl (by kernel_rfl) (by kernel_rfl) (by kernel_rfl) (by kernel_rfl) (by kernel_rfl) (fun _ _ _ h => h) (Or.inl ⟨by rfl, ?_⟩) hS20 ?_
 rotate_left
 · intro w hSw
   try dsimp only at hSw
   go_simp
   try with_reducible rfl
 try simp only [Act.put, List.getElem_toArray, List.getElem_cons_zero, List.getElem_cons_succ, List.setIfInBounds_toArray, List.set_cons_zero, List.set_cons_succ]
 refine held.take (i := 10) (v := ?_) rfl (by kernel_rfl) (by kernel_rfl) (by kernel_rfl) (by kernel_rfl) (by kernel_rfl) (fun _ _ _ h => h) (Or.inl ⟨by rfl, ?_⟩) hS20 ?_
 rotate_left
 · intro w hSw
   try dsimp only at hSw
   go_simp
   try with_reducible rfl
 try simp only [Act.put, List.getElem_toArray, List.getElem_cons_zero, List.getElem_cons_succ, List.setIfInBounds_toArray, List.set_cons_zero, List.set_cons_succ]
 refine held.step (i := 11) (by kernel_rfl) rfl (fun Kq hKq => ?_)
 refine step_store_hp (by rfl) 22 (.tmp 39) (.tmp 37) (by rfl) g 19 (by first | rfl | simp [Act.eval, Act.put]) (.slice V7A (ks.length + 1) V7c) (by first | rfl | simp [Act.eval, Act.put]) [.slice V7A (ks.length + 1) V7c] (by rfl) (by simp [Value.oneCell']) (by kernel_rfl) H 2 [.int .i64 0, .bool false, .bool false, .bool false, .string ⟨#[]⟩, .string ⟨#[]⟩, .slice none 0 0, .slice none 0 0, .slice none 0 0, .slice none 0 0, .slice none 0 0, .slice none 0 0, .slice none 0 0, .bool false, .slice none 0 0, .int .i64 0, .int .i64 0, VT, .map (some ga), .slice VA ks.length Vc, .map (some gd), .map (some gf), .map (some go)] [.int .i64 0, .bool false, .bool false, .bool false, .string ⟨#[]⟩, .string ⟨#[]⟩, .slice none 0 0, .slice none 0 0, .slice none 0 0, .slice none 0 0, .slice none 0 0, .slice none 0 0, .slice none 0 0, .bool false, .slice none 0 0, .int .i64 0, .int .i64 0, VT, .map (some ga), .slice V7A (ks.length + 1) V7c, .map (some gd), .map (some gf), .map (some go)] 91 (by rfl) (Nat.le_of_ble_eq_true (by rfl)) (by rfl) ?_
 clear H
 intro w21 H
 refine hKq.out _ _ (fun h => absurd (List.mem_singleton.2 rfl) h) (fun _ => ?_)
 clear hKq Kq
 refine held.done (by kernel_rfl) ?_ _
 simp only [Act.put, List.getElem_toArray, List.getElem_cons_zero, List.getElem_cons_succ, List.setIfInBounds_toArray, List.set_cons_zero, List.set_cons_succ]
 replace H : Hp _ _ _ (_ :: _ :: _ :: _ :: _ :: M) := H
 go_wp2_with fail
 replace H := H.sub (List.Sublist.cons _ (List.Sublist.cons _ (List.Sublist.cons_cons _ (List.Sublist.cons_cons _ (List.Sublist.cons_cons _ (List.Sublist.refl _))))))
 go_wp2_with fail
 go_end0
 exact ⟨K5, _, _, rfl, hK, H, hV⟩
end Go.Proofs.YtbpgkkoeehopjaaGreat.hp
namespace Go.Proofs.YtbpgkkoeehopjaaGreat.hp
open Go.RowKit Go.Proofs.YtbpgkkoeehopjaaGreat.words Go.Proofs.YtbpgkkoeehopjaaGreat.enc Go.Proofs.YtbpgkkoeehopjaaGreat.tree Go.Proofs.YtbpgkkoeehopjaaGreat.gram Go.Proofs.YtbpgkkoeehopjaaGreat.lex Go.Proofs.YtbpgkkoeehopjaaGreat.rd Go.Proofs.YtbpgkkoeehopjaaGreat.dec Go.Proofs.YtbpgkkoeehopjaaGreat.dat Go.Proofs.YtbpgkkoeehopjaaGreat.held
section
variable {κ : Type} [DecidableEq κ]
def kents (kv : κ → Value) (l : List (κ × Value)) : List (Value × Value) := l.map fun p => (kv p.1, p.2)
def kfind (l : List (κ × Value)) (x : κ) : Option Value := (l.find? (fun p => decide (p.1 = x))).map (·.2)
def kidx (l : List (κ × Value)) (x : κ) : Option Nat := l.findIdx? (fun p => decide (p.1 = x))
def kput : List (κ × Value) → κ → Value → List (κ × Value)
 | [], x, v => [(x, v)]
 | p :: r, x, v => if p.1 = x then (x, v) :: r else p :: kput r x v
theorem kput_new {l : List (κ × Value)} {x : κ} {v : Value} (h : kfind l x = none) : kput l x v = l ++ [(x, v)] := by
 induction l with
 | nil => rfl
 | cons p r ih =>
  by_cases hp : p.1 = x
  · simp [kfind, hp] at h
  · have : kfind r x = none := by simpa [kfind, hp] using h
    rw [kput, if_neg hp, ih this]; rfl
structure Keys (P : Program) (kt : TypeId) (kv : κ → Value) : Prop where
 find : ∀ (w : World) (x : κ) (l : List (κ × Value)), (Instr.findKey kt (kv x) (ments (kents kv l))).run P w = .ok ((kidx l x).bind fun k => (l[k]?).map fun p => (k, p.2)) w
 check : ∀ (w : World) (e : Bool) (x : κ), (Instr.checkKey e 10000 kt (kv x)).run P w = .ok () w
 stays : ∀ (x : κ), Instr.sameBits 10000 (kv x) (kv x) = true
section
variable {P : Program} {w : World} {b t kt et : Nat} {l : List (κ × Value)} {kv : κ → Value}
theorem kfind_idx (x : κ) : ∀ l : List (κ × Value), ((kidx l x).bind fun k => (l[k]?).map fun p => (k, p.2)).map (·.2) = kfind l x
 | [] => rfl
 | p :: r => by
  by_cases h : p.1 = x
  · simp [kidx, List.findIdx?_cons, h, kfind]
  · have := kfind_idx x r
    simp only [kidx, kfind, List.find?_cons, List.findIdx?_cons, h, decide_false, if_false, Bool.false_eq_true] at this ⊢
    rw [← this]
    cases hq : r.findIdx? (fun p => decide (p.1 = x)) with
    | none => simp
    | some k => simp [Function.comp_def]
theorem run_lookup_k (ht : P.underlying t = some (.map kt et)) (hk : Keys P kt kv) (z : Value) (hz : (zeroValue et).run P w = .ok z w) (hb : w.heap[b]? = some (mobj (kents kv l))) (x : κ) (ok : Bool) :
  (Instr.lookup t (.map (some b)) (kv x) ok).run P w = .ok (if ok then .tuple #[(kfind l x).getD z, .bool (kfind l x).isSome] else (kfind l x).getD z) w := by
 have hf := hk.find w x l
 have hi := kfind_idx x l
 unfold Instr.lookup
 simp only [Sem.run_bind, run_underlying ht w, Result.andThen_ok, mobj_get hb, Sem.run_pure, hk.check, hf]
 cases hq : ((kidx l x).bind fun k => (l[k]?).map fun p => (k, p.2)) with
 | none =>
  rw [hq] at hi
  have hi : kfind l x = none := hi.symm
  simp [hi, hz, Sem.run_bind]
 | some p =>
  rw [hq] at hi
  have hi : kfind l x = some p.2 := hi.symm
  simp [hi, Sem.run_bind]
theorem kput_idx (x : κ) (v : Value) : ∀ (l : List (κ × Value)), match kidx l x with
  | none => kput l x v = l ++ [(x, v)]
  | some k => k < l.length ∧ kput l x v = l.set k (x, v) ∧ (l[k]?).map (·.1) = some x
 | [] => rfl
 | p :: r => by
  by_cases h : p.1 = x
  · simp [kidx, List.findIdx?_cons, h, kput]
  · have ih := kput_idx x v r
    simp only [kidx, List.findIdx?_cons, h, decide_false, Bool.false_eq_true, if_false, kput] at ih ⊢
    cases hq : r.findIdx? (fun p => decide (p.1 = x)) with
    | none => rw [hq] at ih; simp only [Option.map_none] at ih ⊢; simp [ih]
    | some k => rw [hq] at ih; simp only [Option.map_some] at ih ⊢; exact ⟨by simpa using ih.1, by rw [ih.2.1]; rfl, by simpa using ih.2.2⟩
omit [DecidableEq κ] in
theorem ments_kset (l : List (κ × Value)) (k : Nat) (hk : k < l.length) (p : κ × Value) : ments (kents kv (l.set k p)) = (ments (kents kv l)).modify k fun e => { e with key := kv p.1, val := p.2 } := by
 apply List.ext_getElem?
 intro j
 simp only [ments, kents, List.getElem?_map, List.getElem?_zipIdx, List.getElem?_modify, List.getElem?_set, List.map_set]
 by_cases hj : k = j
 · subst hj
   simp [hk]
 · simp [hj]
theorem run_update_k (ht : P.underlying t = some (.map kt et)) (hk : Keys P kt kv) (hb : w.heap[b]? = some (mobj (kents kv l))) (x : κ) (v : Value) :
  (Instr.mapUpdate t (.map (some b)) (kv x) v).run P w = .ok () { w with heap := w.heap.setIfInBounds b (mobj (kents kv (kput l x v))) } := by
 have hf := hk.find w x l
 have hi := kput_idx x v l
 have hs : ∀ o', (setObj b o').run P w = .ok () { w with heap := w.heap.setIfInBounds b o' } := fun o' => run_setObj hb (fun c e f h => by cases h)
 unfold Instr.mapUpdate
 simp only [Sem.run_bind, run_underlying ht w, Result.andThen_ok, mobj_get hb, hk.check, hf]
 cases hq : kidx l x with
 | none =>
  rw [hq] at hi
  simp only [Option.bind_none]
  rw [hs, hi]
  simp [mobj, kents, ments, List.zipIdx_append]
 | some k =>
  rw [hq] at hi
  obtain ⟨hkl, hsp, hkx⟩ := hi
  obtain ⟨p, hp⟩ : ∃ p, l[k]? = some p := ⟨_, List.getElem?_eq_getElem hkl⟩
  have hpx : p.1 = x := by simpa [hp] using hkx
  have hes : ((ments (kents kv l)).toArray[k]?).map (·.key) = some (kv x) := by simp [ments, kents, hp, hpx]
  have hst : (Instr.keyThatStays (kv x) (kv x)).run P w = .ok (kv x) w := by
   unfold Instr.keyThatStays
   rw [if_pos (hk.stays x)]
   rfl
  simp only [Option.bind_some, hp, Option.map_some, Sem.run_bind, hes, Option.getD_some, hst, Result.andThen_ok, hs]
  rw [hsp]
  have := ments_kset (kv := kv) l k hkl (x, v)
  have hob : Obj.map ((ments (kents kv l)).toArray.modify k fun e => { e with key := kv x, val := v }) l.length = mobj (kents kv (l.set k (x, v))) := by
   unfold mobj
   rw [this]
   simp [kents]
  rw [← hob]
  simp [kents]
end
theorem kfind_mem {l : List (κ × Value)} {x : κ} {v : Value} (h : kfind l x = some v) : (x, v) ∈ l := by
 unfold kfind at h
 cases hq : l.find? (fun p => decide (p.1 = x)) with
 | none => rw [hq] at h; cases h
 | some p =>
  rw [hq] at h
  injection h with h
  have h1 := List.find?_some hq
  have h2 := List.mem_of_find?_eq_some hq
  have h1 : p.1 = x := of_decide_eq_true h1
  obtain ⟨a, c⟩ := p
  simp only at h1 h
  subst h1 h
  exact h2
theorem kfind_none {l : List (κ × Value)} {x : κ} (h : kfind l x = none) : ∀ p ∈ l, p.1 ≠ x := by
 intro p hp he
 unfold kfind at h
 cases hq : l.find? (fun p => decide (p.1 = x)) with
 | none => rw [List.find?_eq_none] at hq; exact hq p hp (decide_eq_true he)
 | some p => rw [hq] at h; cases h
end
abbrev ks (x : Txt) : Value := .string (str x)
abbrev kp (p : Txt × Txt) : Value := .agg #[.string (str p.1), .string (str p.2)]
section
variable {P : Program}
theorem keys_s {kt : TypeId} (hk : P.underlying kt = some .string) : Keys P kt ks := by
 refine ⟨fun w x l => ?_, fun w e x => checkKey_s hk e x, fun x => by simp [Instr.sameBits, str_eq]⟩
 have h := findKey_s (P := P) (w := w) (l := l) hk x
 have e1 : (fun p : Txt × Value => p.1 == x) = fun p => decide (p.1 = x) := by funext p; rw [Bool.eq_iff_iff]; simp
 rw [e1] at h
 exact h
theorem str_toList (a b : Txt) : ((str a).toList == (str b).toList) = decide (a = b) := by
 rw [← beq_toListBytes, str_eq]
theorem findNow_none {d : TypeDesc} {k : Value} {e : MapEntry} {r : List MapEntry} {i : Nat} (h : Instr.sameNow d k e.key = none) : Instr.findNow d k (e :: r) i = none := by
 unfold Instr.findNow
 simp only [h]
structure PairT (P : Program) (kt st : TypeId) : Prop where
 ht : P.underlying kt = some (.struct (P.fieldsOf kt))
 held : P.stoodInHeld kt = false
 flds : (P.fieldsOf kt).toList.map (fun f => (f.type, f.offset, f.name == "_")) = [(st, 0, false), (st, 1, false)]
 hs : P.underlying st = some .string
theorem pair_eq {kt st : TypeId} (h : PairT P kt st) (w : World) (x y : Txt × Txt) : (Op.equal kt (kp x) (kp y)).run P w = .ok (decide (x = y)) w := by
 obtain ⟨f, g, hfg⟩ : ∃ f g, (P.fieldsOf kt).toList = [f, g] := by
  have := congrArg List.length h.flds
  simp only [List.length_map, List.length_cons, List.length_nil] at this
  match hq : (P.fieldsOf kt).toList, this with
  | [f, g], _ => exact ⟨f, g, rfl⟩
 have hf := h.flds
 rw [hfg] at hf
 simp only [List.map_cons, List.map_nil, List.cons.injEq, Prod.mk.injEq, beq_eq_false_iff_ne, ne_eq, and_true] at hf
 obtain ⟨⟨f1, f2, f3⟩, ⟨g1, g2, g3⟩⟩ := hf
 have hpart : ∀ (cs : Array Value) (j : Nat) (v : Value), cs[j]? = some v → (part st cs j).run P w = .ok v w := by
  intro cs j v hv
  unfold part
  have : (isAgg st).run P w = .ok false w := by
   unfold isAgg
   simp [Sem.run_bind, run_underlying h.hs, Result.andThen_ok]
  simp only [Sem.run_bind, this, Result.andThen_ok, Bool.false_eq_true, if_false, hv, Sem.run_pure]
 unfold Op.equal
 show (Op.equalIn (9999 + 1) kt (kp x) (kp y)).run P w = _
 rw [run_equalIn_struct w 9999 kt _ _ h.ht h.held, hfg]
 have p0 : ∀ a b : Value, (part st #[a, b] 0).run P w = .ok a w := fun a b => hpart _ 0 _ rfl
 have p1 : ∀ a b : Value, (part st #[a, b] 1).run P w = .ok b w := fun a b => hpart _ 1 _ rfl
 simp only [Op.eqFields, f1, f2, f3, g1, g2, g3, ne_eq, not_false_eq_true, if_true, Sem.run_bind, p0, p1, Result.andThen_ok, run_equalIn_string w 9998 st _ _ h.hs, str_toList]
 obtain ⟨a, c⟩ := x
 obtain ⟨a', c'⟩ := y
 by_cases h1 : a = a'
 · by_cases h2 : c = c'
   · simp [h1, h2, Sem.run_pure, Sem.run_bind, p1, run_equalIn_string w 9998 st _ _ h.hs, str_toList]
   · simp [h1, h2, Sem.run_pure, Sem.run_bind, p1, run_equalIn_string w 9998 st _ _ h.hs, str_toList]
 · simp [h1, Sem.run_pure]
theorem keys_p {kt st : TypeId} (h : PairT P kt st) : Keys P kt kp := by
 have hask : ∀ (w : World) (x : Txt × Txt) (l : List ((Txt × Txt) × Value)) (j i : Nat), (Instr.findAsking kt (kp x) (((kents kp l).zipIdx j).map fun p => ({ key := p.1.1, val := p.1.2, born := p.2 } : MapEntry)) i).run P w = .ok ((kidx l x).bind fun k => (l[k]?).map fun p => (i + k, p.2)) w := by
  intro w x l
  induction l with
  | nil => intro j i; rfl
  | cons p r ih =>
   intro j i
   simp only [kents, List.map_cons, List.zipIdx_cons, Instr.findAsking, Sem.run_bind, pair_eq h, Result.andThen_ok]
   by_cases hx : p.1 = x
   · simp [kidx, List.findIdx?_cons, hx, Sem.run_pure]
   · have hx' : ¬ x = p.1 := fun e => hx e.symm
     have := ih (j + 1) (i + 1)
     simp only [kents] at this
     simp only [hx', decide_false, Bool.false_eq_true, if_false, this, kidx, List.findIdx?_cons, hx]
     cases hq : r.findIdx? (fun p => decide (p.1 = x)) with
     | none => simp
     | some k => simp [Nat.add_comm, Nat.add_left_comm, Nat.add_assoc]
 refine ⟨fun w x l => ?_, fun w e x => ?_, fun x => by simp [Instr.sameBits, kp, str_eq]⟩
 · have ha := hask w x l 0 0
   unfold Instr.findKey ments
   rw [Sem.run_bind, run_underlying h.ht w]
   simp only [Result.andThen_ok]
   cases l with
   | nil => rfl
   | cons p r =>
    have hn : Instr.findNow (.struct (P.fieldsOf kt)) (kp x) (((kents kp (p :: r)).zipIdx 0).map fun p => ({ key := p.1.1, val := p.1.2, born := p.2 } : MapEntry)) 0 = none := by
     simp only [kents, List.map_cons, List.zipIdx_cons]
     exact findNow_none rfl
    simp only [Nat.zero_add] at ha
    rw [hn]
    exact ha
 · obtain ⟨f, g, hfg⟩ : ∃ f g, (P.fieldsOf kt).toList = [f, g] := by
    have := congrArg List.length h.flds
    simp only [List.length_map, List.length_cons, List.length_nil] at this
    match hq : (P.fieldsOf kt).toList, this with
    | [f, g], _ => exact ⟨f, g, rfl⟩
   have hf := h.flds
   rw [hfg] at hf
   simp only [List.map_cons, List.map_nil, List.cons.injEq, Prod.mk.injEq, beq_eq_false_iff_ne, ne_eq, and_true] at hf
   obtain ⟨⟨f1, f2, f3⟩, ⟨g1, g2, g3⟩⟩ := hf
   have hpart : ∀ (cs : Array Value) (j : Nat) (v : Value), cs[j]? = some v → (part st cs j).run P w = .ok v w := by
    intro cs j v hv
    unfold part
    have : (isAgg st).run P w = .ok false w := by
     unfold isAgg
     simp [Sem.run_bind, run_underlying h.hs, Result.andThen_ok]
    simp only [Sem.run_bind, this, Result.andThen_ok, Bool.false_eq_true, if_false, hv, Sem.run_pure]
   have hck : ∀ (n : Nat) (v : ByteArray), (Instr.checkKey e (n + 1) st (.string v)).run P w = .ok () w := by
    intro n v
    unfold Instr.checkKey
    rw [Sem.run_bind, run_underlying h.hs w]
    rfl
   show (Instr.checkKey e (9999 + 1) kt (kp x)).run P w = _
   unfold Instr.checkKey
   rw [Sem.run_bind, run_underlying h.ht w]
   simp only [Result.andThen_ok, kp]
   rw [← Array.forIn_toList, hfg]
   have p0 : ∀ a b : Value, (part st #[a, b] 0).run P w = .ok a w := fun a b => hpart _ 0 _ rfl
   have p1 : ∀ a b : Value, (part st #[a, b] 1).run P w = .ok b w := fun a b => hpart _ 1 _ rfl
   simp [f1, f2, f3, g1, g2, g3, Sem.run_bind, p0, p1, hck 9998, Sem.run_pure]
end
theorem pairT : PairT Tryz.prog 125 9 := ⟨by kernel_rfl, by kernel_rfl, by kernel_rfl, Tryz.underlying9⟩
def Kb (K : World) (g : Nat) (cs : List Value) (t : TypeId) : Prop := K.heap[g]? = some (.cells cs.toArray t (0, 0))
def Km (K : World) (b : Nat) (l : List (Value × Value)) : Prop := K.heap[b]? = some (mobj l)
section
variable {P : Program} {w0 w K K' : World} {M : List Ent} {ops : Array Oper} {rest : List Oper} {o : Oper} {a : Act} {Q : Exit → Act → World → Prop} {i b t kt et : Nat}
theorem Kb.sat {g : Nat} {cs : List Value} {t : TypeId} (h : Kb K g cs t) (hs : Sat w K) : Kb w g cs t := hs.blk _ _ h not_junk
theorem Km.sat {l : List (Value × Value)} (h : Km K b l) (hs : Sat w K) : Km w b l := hs.blk _ _ h (fun e => by cases e)
theorem Kb.cell {g j : Nat} {cs : List Value} {t : TypeId} {v : Value} (h : Kb w g cs t) (hj : cs[j]? = some v) : w.cell? ⟨g, j, none⟩ = some v := by
 have h : w.heap[g]? = some (.cells cs.toArray t (0, 0)) := h
 unfold World.cell?
 simp only [h, Option.isSome_none, Bool.false_eq_true, if_false]
 simpa using hj
theorem Hp.kcell (H : Hp w0 w K M) {g j : Nat} {cs : List Value} {t : TypeId} {v : Value} (h : Kb K g cs t) (hj : cs[j]? = some v) : w.cell? ⟨g, j, none⟩ = some v := (h.sat H.sat).cell hj
theorem Hp.kmap (H : Hp w0 w K M) {l : List (Value × Value)} (h : Km K b l) : w.heap[b]? = some (mobj l) := h.sat H.sat
theorem Hp.freezeKb {g : Nat} {cs : List Value} {t : TypeId} (H : Hp w0 w K (.box g cs t :: M)) : ∃ K', Sat K' K ∧ Hp w0 w K' M ∧ Kb K' g cs t := by
 obtain ⟨K', h1, h2, h3, h4⟩ := H.freeze
 exact ⟨K', h1, h2, (h3 g rfl).trans (H.blkAt (i := 0) rfl)⟩
theorem Hp.freezeKm {l : List (Value × Value)} (H : Hp w0 w K (.map b l :: M)) : ∃ K', Sat K' K ∧ Hp w0 w K' M ∧ Km K' b l := by
 obtain ⟨K', h1, h2, h3, h4⟩ := H.freeze
 exact ⟨K', h1, h2, (h3 b rfl).trans (H.mapAt (i := 0) rfl)⟩
section
variable {κ : Type} [DecidableEq κ] {kv : κ → Value}
theorem lookup_k (hgd : o.guard = none) (m x : Operand) (t : TypeId) (c : Bool) (ho : o.op = .lookup t m x c) (ht : P.underlying t = some (.map kt et)) (hk : Keys P kt kv) (z : Value) (hz : ∀ w, (zeroValue et).run P w = .ok z w)
  (b : Nat) (l : List (κ × Value)) (hb : w.heap[b]? = some (mobj (kents kv l))) (hm : a.eval m = .map (some b)) (k : κ) (hx : a.eval x = kv k) (r : Value) (hr : (if c then .tuple #[(kfind l k).getD z, .bool (kfind l k).isSome] else (kfind l k).getD z) = r)
  (h : wpList P ops Q rest (a.put o.dst r) w) : wpList P ops Q (o :: rest) a w := by
 refine wpList_plain hgd fun _ hK => ?_
 have hrun := run_lookup_k (w := w) ht hk z (hz w) hb k c
 rw [hr] at hrun
 unfold Oper.wp execOp
 simp only [ho, hm, hx, Sem.run_bind, hrun, Result.andThen_ok, Sem.run_pure]
 exact hK _ _ h
theorem update_k (hgd : o.guard = none) (m x y : Operand) (t : TypeId) (ho : o.op = .mapUpdate t m x y) (ht : P.underlying t = some (.map kt et)) (hk : Keys P kt kv)
  (H : Hp w0 w K M) (i : Nat) (b : Nat) (l : List (κ × Value)) (hi : M[i]? = some (.map b (kents kv l))) (hm : a.eval m = .map (some b)) (k : κ) (hx : a.eval x = kv k) (v : Value) (hy : a.eval y = v) (l' : List (κ × Value)) (hl : kput l k v = l')
  (h : ∀ w', Hp w0 w' K (M.set i (.map b (kents kv l'))) → wpList P ops Q rest (a.put o.dst undef) w') : wpList P ops Q (o :: rest) a w := by
 refine wpList_plain hgd fun _ hK => ?_
 have hrun := run_update_k (w := w) ht hk (H.mapAt hi) k v
 rw [hl] at hrun
 unfold Oper.wp execOp
 simp only [ho, hm, hx, hy, Sem.run_bind, hrun, Result.andThen_ok, Sem.run_pure]
 exact hK _ _ (h _ (H.mapSet hi _))
end
theorem makeMap_hp (hgd : o.guard = none) (t : TypeId) (ho : o.op = .makeMap t none) (dst : Option Tmp) (hdst : o.dst = dst) (H : Hp w0 w K M)
  (h : ∀ w' b, Hp w0 w' K (.map b [] :: M) → wpList P ops Q rest (a.put dst (.map (some b))) w') : wpList P ops Q (o :: rest) a w := by
 subst hdst
 refine wpList_plain hgd fun _ hK => ?_
 have hrun : (Instr.makeMap t none).run P w = .ok (.map (some w.heap.size)) (w.alloc (.map #[] 0)) := by
  simp [Instr.makeMap, newObj]
  rfl
 unfold Oper.wp execOp
 simp only [ho, Sem.run_bind, hrun, Result.andThen_ok, Sem.run_pure]
 exact hK _ _ (h _ _ H.allocMap)
end
set_option maxRecDepth 100000
attribute [local go_sem ↓] Go.wp_at_zero Go.wp_at_succ
theorem textsL_snoc {K : World} {l : List Txt} {x : Txt} {vs : List Value} (h : RL K (textsL l) vs) : RL K (textsL (l ++ [x])) (vs ++ [.string (str x)]) := by
 unfold textsL at h ⊢
 rw [List.map_append]
 exact h.app (.lit (.nil (Nat.le_refl _)))
end Go.Proofs.YtbpgkkoeehopjaaGreat.hp
