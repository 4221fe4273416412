/- Part 12 of 17 of a proof: see the last part. -/
import Derived.Test.YtbpgkkoeehopjaaGreatP6
import Derived.Test.YtbpgkkoeehopjaaGreatP11
import Derived.Laws.StructEq
import Derived.WalkSpells
import Derived.Deep.QuietTactic
import Derived.BigQuiet
set_option linter.unusedVariables false
set_option linter.unusedSimpArgs false
namespace Go.Proofs.YtbpgkkoeehopjaaGreat.hp
open Go.RowKit Go.Proofs.YtbpgkkoeehopjaaGreat.words Go.Proofs.YtbpgkkoeehopjaaGreat.enc Go.Proofs.YtbpgkkoeehopjaaGreat.tree Go.Proofs.YtbpgkkoeehopjaaGreat.gram Go.Proofs.YtbpgkkoeehopjaaGreat.lex Go.Proofs.YtbpgkkoeehopjaaGreat.rd Go.Proofs.YtbpgkkoeehopjaaGreat.dec Go.Proofs.YtbpgkkoeehopjaaGreat.dat Go.Proofs.YtbpgkkoeehopjaaGreat.held
section
variable {κ : Type} [DecidableEq κ]
def kents (kv : κ → Value) (l : List (κ × Value)) : List (Value × Value) := l.map fun p => (kv p.1, p.2)
def kfind (l : List (κ × Value)) (x : κ) : Option Value := (l.find? (fun p => decide (p.1 = x))).map (·.2)
def kidx (l : List (κ × Value)) (x : κ) : Option Nat := l.findIdx? (fun p => decide (p.1 = x))
def kput : List (κ × Value) → κ → Value → List (κ × Value)
 | [], x, v => [(x, v)]
 | p :: r, x, v => if p.1 = x then (x, v) :: r else p :: kput r x v
theorem kput_new {l : List (κ × Value)} {x : κ} {v : Value} (h : kfind l x = none) : kput l x v = l ++ [(x, v)] := by
 induction l with
 | nil => rfl
 | cons p r ih =>
  by_cases hp : p.1 = x
  · simp [kfind, hp] at h
  · have : kfind r x = none := by simpa [kfind, hp] using h
    rw [kput, if_neg hp, ih this]; rfl
structure Keys (P : Program) (kt : TypeId) (kv : κ → Value) : Prop where
 find : ∀ (w : World) (x : κ) (l : List (κ × Value)), (Instr.findKey kt (kv x) (ments (kents kv l))).run P w = .ok ((kidx l x).bind fun k => (l[k]?).map fun p => (k, p.2)) w
 check : ∀ (w : World) (e : Bool) (x : κ), (Instr.checkKey e 10000 kt (kv x)).run P w = .ok () w
 stays : ∀ (x : κ), Instr.sameBits 10000 (kv x) (kv x) = true
section
variable {P : Program} {w : World} {b t kt et : Nat} {l : List (κ × Value)} {kv : κ → Value}
theorem kfind_idx (x : κ) : ∀ l : List (κ × Value), ((kidx l x).bind fun k => (l[k]?).map fun p => (k, p.2)).map (·.2) = kfind l x
 | [] => rfl
 | p :: r => by
  by_cases h : p.1 = x
  · simp [kidx, List.findIdx?_cons, h, kfind]
  · have := kfind_idx x r
    simp only [kidx, kfind, List.find?_cons, List.findIdx?_cons, h, decide_false, if_false, Bool.false_eq_true] at this ⊢
    rw [← this]
    cases hq : r.findIdx? (fun p => decide (p.1 = x)) with
    | none => simp
    | some k => simp [Function.comp_def]
theorem run_lookup_k (ht : P.underlying t = some (.map kt et)) (hk : Keys P kt kv) (z : Value) (hz : (zeroValue et).run P w = .ok z w) (hb : w.heap[b]? = some (mobj (kents kv l))) (x : κ) (ok : Bool) :
  (Instr.lookup t (.map (some b)) (kv x) ok).run P w = .ok (if ok then .tuple #[(kfind l x).getD z, .bool (kfind l x).isSome] else (kfind l x).getD z) w := by
 have hf := hk.find w x l
 have hi := kfind_idx x l
 unfold Instr.lookup
 simp only [Sem.run_bind, run_underlying ht w, Result.andThen_ok, mobj_get hb, Sem.run_pure, hk.check, hf]
 cases hq : ((kidx l x).bind fun k => (l[k]?).map fun p => (k, p.2)) with
 | none =>
  rw [hq] at hi
  have hi : kfind l x = none := hi.symm
  simp [hi, hz, Sem.run_bind]
 | some p =>
  rw [hq] at hi
  have hi : kfind l x = some p.2 := hi.symm
  simp [hi, Sem.run_bind]
theorem kput_idx (x : κ) (v : Value) : ∀ (l : List (κ × Value)), match kidx l x with
  | none => kput l x v = l ++ [(x, v)]
  | some k => k < l.length ∧ kput l x v = l.set k (x, v) ∧ (l[k]?).map (·.1) = some x
 | [] => rfl
 | p :: r => by
  by_cases h : p.1 = x
  · simp [kidx, List.findIdx?_cons, h, kput]
  · have ih := kput_idx x v r
    simp only [kidx, List.findIdx?_cons, h, decide_false, Bool.false_eq_true, if_false, kput] at ih ⊢
    cases hq : r.findIdx? (fun p => decide (p.1 = x)) with
    | none => rw [hq] at ih; simp only [Option.map_none] at ih ⊢; simp [ih]
    | some k => rw [hq] at ih; simp only [Option.map_some] at ih ⊢; exact ⟨by simpa using ih.1, by rw [ih.2.1]; rfl, by simpa using ih.2.2⟩
omit [DecidableEq κ] in
theorem ments_kset (l : List (κ × Value)) (k : Nat) (hk : k < l.length) (p : κ × Value) : ments (kents kv (l.set k p)) = (ments (kents kv l)).modify k fun e => { e with key := kv p.1, val := p.2 } := by
 apply List.ext_getElem?
 intro j
 simp only [ments, kents, List.getElem?_map, List.getElem?_zipIdx, List.getElem?_modify, List.getElem?_set, List.map_set]
 by_cases hj : k = j
 · subst hj
   simp [hk]
 · simp [hj]
theorem run_update_k (ht : P.underlying t = some (.map kt et)) (hk : Keys P kt kv) (hb : w.heap[b]? = some (mobj (kents kv l))) (x : κ) (v : Value) :
  (Instr.mapUpdate t (.map (some b)) (kv x) v).run P w = .ok () { w with heap := w.heap.setIfInBounds b (mobj (kents kv (kput l x v))) } := by
 have hf := hk.find w x l
 have hi := kput_idx x v l
 have hs : ∀ o', (setObj b o').run P w = .ok () { w with heap := w.heap.setIfInBounds b o' } := fun o' => run_setObj hb (fun c e f h => by cases h)
 unfold Instr.mapUpdate
 simp only [Sem.run_bind, run_underlying ht w, Result.andThen_ok, mobj_get hb, hk.check, hf]
 cases hq : kidx l x with
 | none =>
  rw [hq] at hi
  simp only [Option.bind_none]
  rw [hs, hi]
  simp [mobj, kents, ments, List.zipIdx_append]
 | some k =>
  rw [hq] at hi
  obtain ⟨hkl, hsp, hkx⟩ := hi
  obtain ⟨p, hp⟩ : ∃ p, l[k]? = some p := ⟨_, List.getElem?_eq_getElem hkl⟩
  have hpx : p.1 = x := by simpa [hp] using hkx
  have hes : ((ments (kents kv l)).toArray[k]?).map (·.key) = some (kv x) := by simp [ments, kents, hp, hpx]
  have hst : (Instr.keyThatStays (kv x) (kv x)).run P w = .ok (kv x) w := by
   unfold Instr.keyThatStays
   rw [if_pos (hk.stays x)]
   rfl
  simp only [Option.bind_some, hp, Option.map_some, Sem.run_bind, hes, Option.getD_some, hst, Result.andThen_ok, hs]
  rw [hsp]
  have := ments_kset (kv := kv) l k hkl (x, v)
  have hob : Obj.map ((ments (kents kv l)).toArray.modify k fun e => { e with key := kv x, val := v }) l.length = mobj (kents kv (l.set k (x, v))) := by
   unfold mobj
   rw [this]
   simp [kents]
  rw [← hob]
  simp [kents]
end
theorem kfind_mem {l : List (κ × Value)} {x : κ} {v : Value} (h : kfind l x = some v) : (x, v) ∈ l := by
 unfold kfind at h
 cases hq : l.find? (fun p => decide (p.1 = x)) with
 | none => rw [hq] at h; cases h
 | some p =>
  rw [hq] at h
  injection h with h
  have h1 := List.find?_some hq
  have h2 := List.mem_of_find?_eq_some hq
  have h1 : p.1 = x := of_decide_eq_true h1
  obtain ⟨a, c⟩ := p
  simp only at h1 h
  subst h1 h
  exact h2
theorem kfind_none {l : List (κ × Value)} {x : κ} (h : kfind l x = none) : ∀ p ∈ l, p.1 ≠ x := by
 intro p hp he
 unfold kfind at h
 cases hq : l.find? (fun p => decide (p.1 = x)) with
 | none => rw [List.find?_eq_none] at hq; exact hq p hp (decide_eq_true he)
 | some p => rw [hq] at h; cases h
end
abbrev ks (x : Txt) : Value := .string (str x)
abbrev kp (p : Txt × Txt) : Value := .agg #[.string (str p.1), .string (str p.2)]
section
variable {P : Program}
theorem keys_s {kt : TypeId} (hk : P.underlying kt = some .string) : Keys P kt ks := by
 refine ⟨fun w x l => ?_, fun w e x => checkKey_s hk e x, fun x => by simp [Instr.sameBits, str_eq]⟩
 have h := findKey_s (P := P) (w := w) (l := l) hk x
 have e1 : (fun p : Txt × Value => p.1 == x) = fun p => decide (p.1 = x) := by funext p; rw [Bool.eq_iff_iff]; simp
 rw [e1] at h
 exact h
theorem str_toList (a b : Txt) : ((str a).toList == (str b).toList) = decide (a = b) := by
 rw [← beq_toListBytes, str_eq]
theorem findNow_none {d : TypeDesc} {k : Value} {e : MapEntry} {r : List MapEntry} {i : Nat} (h : Instr.sameNow d k e.key = none) : Instr.findNow d k (e :: r) i = none := by
 unfold Instr.findNow
 simp only [h]
structure PairT (P : Program) (kt st : TypeId) : Prop where
 ht : P.underlying kt = some (.struct (P.fieldsOf kt))
 held : P.stoodInHeld kt = false
 flds : (P.fieldsOf kt).toList.map (fun f => (f.type, f.offset, f.name == "_")) = [(st, 0, false), (st, 1, false)]
 hs : P.underlying st = some .string
theorem pair_eq {kt st : TypeId} (h : PairT P kt st) (w : World) (x y : Txt × Txt) : (Op.equal kt (kp x) (kp y)).run P w = .ok (decide (x = y)) w := by
 obtain ⟨f, g, hfg⟩ : ∃ f g, (P.fieldsOf kt).toList = [f, g] := by
  have := congrArg List.length h.flds
  simp only [List.length_map, List.length_cons, List.length_nil] at this
  match hq : (P.fieldsOf kt).toList, this with
  | [f, g], _ => exact ⟨f, g, rfl⟩
 have hf := h.flds
 rw [hfg] at hf
 simp only [List.map_cons, List.map_nil, List.cons.injEq, Prod.mk.injEq, beq_eq_false_iff_ne, ne_eq, and_true] at hf
 obtain ⟨⟨f1, f2, f3⟩, ⟨g1, g2, g3⟩⟩ := hf
 have hpart : ∀ (cs : Array Value) (j : Nat) (v : Value), cs[j]? = some v → (part st cs j).run P w = .ok v w := by
  intro cs j v hv
  unfold part
  have : (isAgg st).run P w = .ok false w := by
   unfold isAgg
   simp [Sem.run_bind, run_underlying h.hs, Result.andThen_ok]
  simp only [Sem.run_bind, this, Result.andThen_ok, Bool.false_eq_true, if_false, hv, Sem.run_pure]
 unfold Op.equal
 show (Op.equalIn (9999 + 1) kt (kp x) (kp y)).run P w = _
 rw [run_equalIn_struct w 9999 kt _ _ h.ht h.held, hfg]
 have p0 : ∀ a b : Value, (part st #[a, b] 0).run P w = .ok a w := fun a b => hpart _ 0 _ rfl
 have p1 : ∀ a b : Value, (part st #[a, b] 1).run P w = .ok b w := fun a b => hpart _ 1 _ rfl
 simp only [Op.eqFields, f1, f2, f3, g1, g2, g3, ne_eq, not_false_eq_true, if_true, Sem.run_bind, p0, p1, Result.andThen_ok, run_equalIn_string w 9998 st _ _ h.hs, str_toList]
 obtain ⟨a, c⟩ := x
 obtain ⟨a', c'⟩ := y
 by_cases h1 : a = a'
 · by_cases h2 : c = c'
   · simp [h1, h2, Sem.run_pure, Sem.run_bind, p1, run_equalIn_string w 9998 st _ _ h.hs, str_toList]
   · simp [h1, h2, Sem.run_pure, Sem.run_bind, p1, run_equalIn_string w 9998 st _ _ h.hs, str_toList]
 · simp [h1, Sem.run_pure]
theorem keys_p {kt st : TypeId} (h : PairT P kt st) : Keys P kt kp := by
 have hask : ∀ (w : World) (x : Txt × Txt) (l : List ((Txt × Txt) × Value)) (j i : Nat), (Instr.findAsking kt (kp x) (((kents kp l).zipIdx j).map fun p => ({ key := p.1.1, val := p.1.2, born := p.2 } : MapEntry)) i).run P w = .ok ((kidx l x).bind fun k => (l[k]?).map fun p => (i + k, p.2)) w := by
  intro w x l
  induction l with
  | nil => intro j i; rfl
  | cons p r ih =>
   intro j i
   simp only [kents, List.map_cons, List.zipIdx_cons, Instr.findAsking, Sem.run_bind, pair_eq h, Result.andThen_ok]
   by_cases hx : p.1 = x
   · simp [kidx, List.findIdx?_cons, hx, Sem.run_pure]
   · have hx' : ¬ x = p.1 := fun e => hx e.symm
     have := ih (j + 1) (i + 1)
     simp only [kents] at this
     simp only [hx', decide_false, Bool.false_eq_true, if_false, this, kidx, List.findIdx?_cons, hx]
     cases hq : r.findIdx? (fun p => decide (p.1 = x)) with
     | none => simp
     | some k => simp [Nat.add_comm, Nat.add_left_comm, Nat.add_assoc]
 refine ⟨fun w x l => ?_, fun w e x => ?_, fun x => by simp [Instr.sameBits, kp, str_eq]⟩
 · have ha := hask w x l 0 0
   unfold Instr.findKey ments
   rw [Sem.run_bind, run_underlying h.ht w]
   simp only [Result.andThen_ok]
   cases l with
   | nil => rfl
   | cons p r =>
    have hn : Instr.findNow (.struct (P.fieldsOf kt)) (kp x) (((kents kp (p :: r)).zipIdx 0).map fun p => ({ key := p.1.1, val := p.1.2, born := p.2 } : MapEntry)) 0 = none := by
     simp only [kents, List.map_cons, List.zipIdx_cons]
     exact findNow_none rfl
    simp only [Nat.zero_add] at ha
    rw [hn]
    exact ha
 · obtain ⟨f, g, hfg⟩ : ∃ f g, (P.fieldsOf kt).toList = [f, g] := by
    have := congrArg List.length h.flds
    simp only [List.length_map, List.length_cons, List.length_nil] at this
    match hq : (P.fieldsOf kt).toList, this with
    | [f, g], _ => exact ⟨f, g, rfl⟩
   have hf := h.flds
   rw [hfg] at hf
   simp only [List.map_cons, List.map_nil, List.cons.injEq, Prod.mk.injEq, beq_eq_false_iff_ne, ne_eq, and_true] at hf
   obtain ⟨⟨f1, f2, f3⟩, ⟨g1, g2, g3⟩⟩ := hf
   have hpart : ∀ (cs : Array Value) (j : Nat) (v : Value), cs[j]? = some v → (part st cs j).run P w = .ok v w := by
    intro cs j v hv
    unfold part
    have : (isAgg st).run P w = .ok false w := by
     unfold isAgg
     simp [Sem.run_bind, run_underlying h.hs, Result.andThen_ok]
    simp only [Sem.run_bind, this, Result.andThen_ok, Bool.false_eq_true, if_false, hv, Sem.run_pure]
   have hck : ∀ (n : Nat) (v : ByteArray), (Instr.checkKey e (n + 1) st (.string v)).run P w = .ok () w := by
    intro n v
    unfold Instr.checkKey
    rw [Sem.run_bind, run_underlying h.hs w]
    rfl
   show (Instr.checkKey e (9999 + 1) kt (kp x)).run P w = _
   unfold Instr.checkKey
   rw [Sem.run_bind, run_underlying h.ht w]
   simp only [Result.andThen_ok, kp]
   rw [← Array.forIn_toList, hfg]
   have p0 : ∀ a b : Value, (part st #[a, b] 0).run P w = .ok a w := fun a b => hpart _ 0 _ rfl
   have p1 : ∀ a b : Value, (part st #[a, b] 1).run P w = .ok b w := fun a b => hpart _ 1 _ rfl
   simp [f1, f2, f3, g1, g2, g3, Sem.run_bind, p0, p1, hck 9998, Sem.run_pure]
end
theorem pairT : PairT Tryz.prog 125 9 := ⟨by kernel_rfl, by kernel_rfl, by kernel_rfl, Tryz.underlying9⟩
def Kb (K : World) (g : Nat) (cs : List Value) (t : TypeId) : Prop := K.heap[g]? = some (.cells cs.toArray t (0, 0))
def Km (K : World) (b : Nat) (l : List (Value × Value)) : Prop := K.heap[b]? = some (mobj l)
section
variable {P : Program} {w0 w K K' : World} {M : List Ent} {ops : Array Oper} {rest : List Oper} {o : Oper} {a : Act} {Q : Exit → Act → World → Prop} {i b t kt et : Nat}
theorem Kb.sat {g : Nat} {cs : List Value} {t : TypeId} (h : Kb K g cs t) (hs : Sat w K) : Kb w g cs t := hs.blk _ _ h not_junk
theorem Km.sat {l : List (Value × Value)} (h : Km K b l) (hs : Sat w K) : Km w b l := hs.blk _ _ h (fun e => by cases e)
theorem Kb.cell {g j : Nat} {cs : List Value} {t : TypeId} {v : Value} (h : Kb w g cs t) (hj : cs[j]? = some v) : w.cell? ⟨g, j, none⟩ = some v := by
 have h : w.heap[g]? = some (.cells cs.toArray t (0, 0)) := h
 unfold World.cell?
 simp only [h, Option.isSome_none, Bool.false_eq_true, if_false]
 simpa using hj
theorem Hp.kcell (H : Hp w0 w K M) {g j : Nat} {cs : List Value} {t : TypeId} {v : Value} (h : Kb K g cs t) (hj : cs[j]? = some v) : w.cell? ⟨g, j, none⟩ = some v := (h.sat H.sat).cell hj
theorem Hp.kmap (H : Hp w0 w K M) {l : List (Value × Value)} (h : Km K b l) : w.heap[b]? = some (mobj l) := h.sat H.sat
theorem Hp.freezeKb {g : Nat} {cs : List Value} {t : TypeId} (H : Hp w0 w K (.box g cs t :: M)) : ∃ K', Sat K' K ∧ Hp w0 w K' M ∧ Kb K' g cs t := by
 obtain ⟨K', h1, h2, h3, h4⟩ := H.freeze
 exact ⟨K', h1, h2, (h3 g rfl).trans (H.blkAt (i := 0) rfl)⟩
theorem Hp.freezeKm {l : List (Value × Value)} (H : Hp w0 w K (.map b l :: M)) : ∃ K', Sat K' K ∧ Hp w0 w K' M ∧ Km K' b l := by
 obtain ⟨K', h1, h2, h3, h4⟩ := H.freeze
 exact ⟨K', h1, h2, (h3 b rfl).trans (H.mapAt (i := 0) rfl)⟩
section
variable {κ : Type} [DecidableEq κ] {kv : κ → Value}
theorem lookup_k (hgd : o.guard = none) (m x : Operand) (t : TypeId) (c : Bool) (ho : o.op = .lookup t m x c) (ht : P.underlying t = some (.map kt et)) (hk : Keys P kt kv) (z : Value) (hz : ∀ w, (zeroValue et).run P w = .ok z w)
  (b : Nat) (l : List (κ × Value)) (hb : w.heap[b]? = some (mobj (kents kv l))) (hm : a.eval m = .map (some b)) (k : κ) (hx : a.eval x = kv k) (r : Value) (hr : (if c then .tuple #[(kfind l k).getD z, .bool (kfind l k).isSome] else (kfind l k).getD z) = r)
  (h : wpList P ops Q rest (a.put o.dst r) w) : wpList P ops Q (o :: rest) a w := by
 refine wpList_plain hgd fun _ hK => ?_
 have hrun := run_lookup_k (w := w) ht hk z (hz w) hb k c
 rw [hr] at hrun
 unfold Oper.wp execOp
 simp only [ho, hm, hx, Sem.run_bind, hrun, Result.andThen_ok, Sem.run_pure]
 exact hK _ _ h
theorem update_k (hgd : o.guard = none) (m x y : Operand) (t : TypeId) (ho : o.op = .mapUpdate t m x y) (ht : P.underlying t = some (.map kt et)) (hk : Keys P kt kv)
  (H : Hp w0 w K M) (i : Nat) (b : Nat) (l : List (κ × Value)) (hi : M[i]? = some (.map b (kents kv l))) (hm : a.eval m = .map (some b)) (k : κ) (hx : a.eval x = kv k) (v : Value) (hy : a.eval y = v) (l' : List (κ × Value)) (hl : kput l k v = l')
  (h : ∀ w', Hp w0 w' K (M.set i (.map b (kents kv l'))) → wpList P ops Q rest (a.put o.dst undef) w') : wpList P ops Q (o :: rest) a w := by
 refine wpList_plain hgd fun _ hK => ?_
 have hrun := run_update_k (w := w) ht hk (H.mapAt hi) k v
 rw [hl] at hrun
 unfold Oper.wp execOp
 simp only [ho, hm, hx, hy, Sem.run_bind, hrun, Result.andThen_ok, Sem.run_pure]
 exact hK _ _ (h _ (H.mapSet hi _))
end
theorem makeMap_hp (hgd : o.guard = none) (t : TypeId) (ho : o.op = .makeMap t none) (dst : Option Tmp) (hdst : o.dst = dst) (H : Hp w0 w K M)
  (h : ∀ w' b, Hp w0 w' K (.map b [] :: M) → wpList P ops Q rest (a.put dst (.map (some b))) w') : wpList P ops Q (o :: rest) a w := by
 subst hdst
 refine wpList_plain hgd fun _ hK => ?_
 have hrun : (Instr.makeMap t none).run P w = .ok (.map (some w.heap.size)) (w.alloc (.map #[] 0)) := by
  simp [Instr.makeMap, newObj]
  rfl
 unfold Oper.wp execOp
 simp only [ho, Sem.run_bind, hrun, Result.andThen_ok, Sem.run_pure]
 exact hK _ _ (h _ _ H.allocMap)
end
end Go.Proofs.YtbpgkkoeehopjaaGreat.hp
namespace Go.Proofs.YtbpgkkoeehopjaaGreat.hp
open Go.RowKit
theorem z43 : ((Tryz.prog.info? 43).bind (·.zero)).map (·.cells) = some #[.int .i64 0, .bool false, .bool false, .bool false, .string ⟨#[]⟩, .string ⟨#[]⟩, .slice none 0 0, .slice none 0 0, .slice none 0 0, .slice none 0 0, .slice none 0 0, .slice none 0 0, .slice none 0 0, .bool false, .slice none 0 0, .int .i64 0, .int .i64 0] := by kernel_rfl
theorem z50 : ((Tryz.prog.info? 50).bind (·.zero)).map (·.cells) = some #[.string ⟨#[]⟩, .string ⟨#[]⟩] := by kernel_rfl
theorem z52 : ((Tryz.prog.info? 52).bind (·.zero)).map (·.cells) = some #[.bool false, .bool false, .string ⟨#[]⟩, .string ⟨#[]⟩, .slice none 0 0, .string ⟨#[]⟩, .string ⟨#[]⟩, .slice none 0 0, .int .i64 0, .int .i64 0] := by kernel_rfl
theorem z100 : ((Tryz.prog.info? 100).bind (·.zero)).map (·.cells) = some #[.int .i64 0, .string ⟨#[]⟩, .int .i64 0, .int .i64 0] := by kernel_rfl
theorem z113 : ((Tryz.prog.info? 113).bind (·.zero)).map (·.cells) = some #[.string ⟨#[]⟩, .int .i64 0, .int .i64 0] := by kernel_rfl
theorem z121 : ((Tryz.prog.info? 121).bind (·.zero)).map (·.cells) = some #[.int .i64 0, .string ⟨#[]⟩, .bool false, .slice none 0 0, .slice none 0 0, .int .i64 0, .int .i64 0] := by kernel_rfl
theorem z123 : ((Tryz.prog.info? 123).bind (·.zero)).map (·.cells) = some #[.bool false, .bool false, .string ⟨#[]⟩, .string ⟨#[]⟩, .string ⟨#[]⟩, .string ⟨#[]⟩, .bool false, .int .i64 0, .string ⟨#[]⟩, .bool false, .slice none 0 0, .slice none 0 0, .int .i64 0, .int .i64 0, .slice none 0 0, .int .i64 0, .int .i64 0] := by kernel_rfl
theorem e22 : SlI Tryz.prog 22 43 17 272 := sli Tryz.underlying22 (z := .agg #[.int .i64 0, .bool false, .bool false, .bool false, .string ⟨#[]⟩, .string ⟨#[]⟩, .slice none 0 0, .slice none 0 0, .slice none 0 0, .slice none 0 0, .slice none 0 0, .slice none 0 0, .slice none 0 0, .bool false, .slice none 0 0, .int .i64 0, .int .i64 0]) (by kernel_rfl)
theorem e34 : SlI Tryz.prog 34 113 3 32 := sli Tryz.underlying34 (z := .agg #[.string ⟨#[]⟩, .int .i64 0, .int .i64 0]) (by kernel_rfl)
theorem e35 : SlI Tryz.prog 35 181 4 56 := sli Tryz.underlying35 (z := .agg #[.string ⟨#[]⟩, .slice none 0 0, .int .i64 0, .int .i64 0]) (by kernel_rfl)
theorem e36 : SlI Tryz.prog 36 52 10 136 := sli Tryz.underlying36 (z := .agg #[.bool false, .bool false, .string ⟨#[]⟩, .string ⟨#[]⟩, .slice none 0 0, .string ⟨#[]⟩, .string ⟨#[]⟩, .slice none 0 0, .int .i64 0, .int .i64 0]) (by kernel_rfl)
theorem e37 : SlI Tryz.prog 37 123 17 216 := sli Tryz.underlying37 (z := .agg #[.bool false, .bool false, .string ⟨#[]⟩, .string ⟨#[]⟩, .string ⟨#[]⟩, .string ⟨#[]⟩, .bool false, .int .i64 0, .string ⟨#[]⟩, .bool false, .slice none 0 0, .slice none 0 0, .int .i64 0, .int .i64 0, .slice none 0 0, .int .i64 0, .int .i64 0]) (by kernel_rfl)
theorem e38 : SlI Tryz.prog 38 133 7 80 := sli Tryz.underlying38 (z := .agg #[.bool false, .bool false, .string ⟨#[]⟩, .string ⟨#[]⟩, .slice none 0 0, .int .i64 0, .int .i64 0]) (by kernel_rfl)
theorem e39 : SlI Tryz.prog 39 100 4 40 := sli Tryz.underlying39 (z := .agg #[.int .i64 0, .string ⟨#[]⟩, .int .i64 0, .int .i64 0]) (by kernel_rfl)
theorem tk {P : Program} {ops : Array Oper} {Q : Exit → Act → World → Prop} {md : Region.Mode} {S : World → Prop} {F : List Nat} (i : Nat) {oi : Oper} {v : Value} {fuel : Nat} {listed : Array Bool} {a a' : Act} {w : World} (hS : S w) (h : held.AnyL P md ops Q S F fuel (listed.setIfInBounds i true) a' w) (hi : ops[i]? = some oi := by (simp only [List.getElem?_toArray, List.getElem?_cons_zero, List.getElem?_cons_succ]; try rfl))
  (hd : ∀ w, S w → (execOp a.eval oi).run P w = .ok (.value v) w := by (intro w hSw; (try dsimp only at hSw); go_simp; try with_reducible rfl))
  (ha : a.put oi.dst v = a' := by (simp only [Act.put, List.getElem_toArray, List.getElem_cons_zero, List.getElem_cons_succ, List.setIfInBounds_toArray, List.set_cons_zero, List.set_cons_succ]; try rfl))
  (hw : Region.wanted oi (yielded ops a.tmps) = true := by rfl) (hs : Region.noSelect ops = true := by kernel_rfl) (hf : Region.free md ops listed i = true := by kernel_rfl) (hr : (Region.ready md ops listed).contains i = true := by kernel_rfl) (hF : held.waits md ops F i = true := by kernel_rfl) (hc : held.closed md ops listed = true := by kernel_rfl)
  (hQ : ∀ c a w, Q (.panic c) (a.put oi.dst v) w → Q (.panic c) a w := by exact fun _ _ _ h => h) : held.AnyL P md ops Q S F (fuel + 1) listed a w :=
 held.take hi hs hf hr hF hc hQ (.inl ⟨hw, hd⟩) hS (ha ▸ h)
open Go.Proofs.YtbpgkkoeehopjaaGreat.words Go.Proofs.YtbpgkkoeehopjaaGreat.enc Go.Proofs.YtbpgkkoeehopjaaGreat.tree Go.Proofs.YtbpgkkoeehopjaaGreat.gram Go.Proofs.YtbpgkkoeehopjaaGreat.lex Go.Proofs.YtbpgkkoeehopjaaGreat.rd Go.Proofs.YtbpgkkoeehopjaaGreat.dec Go.Proofs.YtbpgkkoeehopjaaGreat.dat Go.Proofs.YtbpgkkoeehopjaaGreat.held
set_option maxRecDepth 100000
set_option maxHeartbeats 40000000
attribute [local go_sem ↓] Go.wp_at_zero Go.wp_at_succ
theorem ref_hp (s t : ByteArray) (w0 w K : World) (M : List Ent) (H : Hp w0 w K M) :
  Calls Tryz.prog 104 #[.string s, .string t] w fun e w' => e = .returned (.agg #[.string s, .string t]) ∧ Hp w0 w' K M := by
 go_enter Tryz.func104, Tryz.ntmps104
 go_wp2_with (first | (refine oL H ?_) | (refine oP H ?_; clear H; intro w _ H))
 refine oB H ?_
 exact ⟨rfl, H.fin⟩
theorem field_hp (s t u : ByteArray) (w0 w K : World) (M : List Ent) (H : Hp w0 w K M) :
  Calls Tryz.prog 101 #[.string s, .string t, .string u] w fun e w' => e = .returned (.agg #[.bool false, .bool false, .string ⟨#[]⟩, .string s, .slice none 0 0, .string t, .string u, .slice none 0 0, .int .i64 0, .int .i64 0]) ∧ Hp w0 w' K M := by
 go_enter Tryz.func101, Tryz.ntmps101
 go_wp2_with (first | (refine oL H ?_) | (refine oP H ?_; clear H; intro w _ H) | ((with_reducible refine (ref_hp t u _ _ _ _ H).mono ?_); clear H; rintro e w ⟨rfl, H⟩))
 refine oB H ?_
 exact ⟨rfl, H.fin⟩
theorem object_hp (s : ByteArray) (A : Option Addr) (n c : Nat) (w0 w K : World) (M : List Ent) (H : Hp w0 w K M) :
  Calls Tryz.prog 100 #[.string s, .slice A n c] w fun e w' => e = .returned (.agg #[.int .i64 3, .bool false, .bool false, .bool false, .string ⟨#[]⟩, .string s, .slice none 0 0, .slice none 0 0, .slice A n c, .slice none 0 0, .slice none 0 0, .slice none 0 0, .slice none 0 0, .bool false, .slice none 0 0, .int .i64 0, .int .i64 0]) ∧ Hp w0 w' K M := by
 go_enter Tryz.func100, Tryz.ntmps100
 go_wp2_with (first | (refine oL H ?_) | (refine oP H ?_; clear H; intro w _ H))
 refine oB H ?_
 exact ⟨rfl, H.fin⟩
def falseT : Txt := [102, 97, 108, 115, 101]
def booleanT : Txt := [66, 111, 111, 108, 101, 97, 110]
def incT : Txt := [105, 110, 99, 108, 117, 100, 101, 68, 101, 112, 114, 101, 99, 97, 116, 101, 100]
def incD : InputD := ⟨noteZ, incT, (booleanT, []), true, .mk 5 falseT false [] [] 0 0, [], 0, 0⟩
def AllP (s t : ByteArray) (w0 K : World) (M : List Ent) (e : Ending) (w' : World) : Prop :=
 ∃ K' A, e = .returned (.agg #[.bool false, .bool false, .string ⟨#[]⟩, .string s, .slice (some A) 1 1, .string t, .string ⟨#[33, 93]⟩, .slice none 0 0, .int .i64 0, .int .i64 0]) ∧ Sat K' K ∧ Hp w0 w' K' M ∧ RD K' (.list 1 (inputsL [incD])) (.slice (some A) 1 1)
theorem RL.z {K : World} : RL K [] [] := .nil (Nat.le_refl _)
theorem RD.z {K : World} : RD K (.list 0 []) (.slice Option.none 0 0) := .nil (Nat.le_refl _)
theorem all_hp (s t : ByteArray) (w0 w K : World) (M : List Ent) (H : Hp w0 w K M) :
  Calls Tryz.prog 102 #[.string s, .string t] w (AllP s t w0 K M) := by
 go_enter Tryz.func102, Tryz.ntmps102
 go_upto_region 2 with (first | (refine oL H ?_) | (refine oA 4 H ?_; clear H; intro w g4 H) | (refine oA 5 H ?_; clear H; intro w g5 H) | (refine oP H ?_; clear H; intro w _ H))
 refine rB [4] H ?_; clear H; intro w H
 refine rT 1 H ?_
 refine r2 0 3 ?_ ?_
 · refine aC (ref_hp ⟨#[66, 111, 111, 108, 101, 97, 110]⟩ ⟨#[]⟩ _ _ _ _ H) ?_; clear H; rintro e w ⟨rfl, H⟩; refine rX H ?_
   refine rT 2 H ?_
   refine rW 3 H ?_; clear H; intro w g6 H
   refine rL 4 H ?_; clear H; intro w _ H
   refine rE ?_
   go_wp2_with fail
   refine rB [6] H ?_; clear H; intro w H
   refine rT 0 H ?_; refine rT 1 H ?_; refine rT 3 H ?_
   refine r2 2 4 ?_ ?_
   · refine aW H ?_; clear H; intro w gs H
     refine rC 4 (ref_hp t ⟨#[33, 93]⟩ _ _ _ _ H) ?_; clear H; rintro e w ⟨rfl, H⟩; refine rX H ?_
     refine rT 5 H ?_
     refine rL 6 H ?_; clear H; intro w _ H
     refine rE ?_
     go_wp2_with fail
     refine oB H ?_
     replace H : Hp _ _ _ (.box gs _ _ :: M) := H.fin
     obtain ⟨K1, h1, H, hd⟩ := H.freezeBox (n := 1) (ls := inputsL [incD]) (by unfold incD; exact .lit (.lit (.lit (.lit (.lit (.lit (.lit (.lit (.lit (.lit (.cons RD.z (.cons RD.z (.lit (.lit (.cons RD.z (.lit (.lit RL.z))))))))))))))))) (by simp [maxLen])
     exact ⟨K1, _, rfl, h1, H, hd⟩
   · refine aC (ref_hp t ⟨#[33, 93]⟩ _ _ _ _ H) ?_; clear H; rintro e w ⟨rfl, H⟩; refine rX H ?_
     refine rW 2 H ?_; clear H; intro w gs H
     refine rT 5 H ?_
     refine rL 6 H ?_; clear H; intro w _ H
     refine rE ?_
     go_wp2_with fail
     refine oB H ?_
     replace H : Hp _ _ _ (.box gs _ _ :: M) := H.fin
     obtain ⟨K1, h1, H, hd⟩ := H.freezeBox (n := 1) (ls := inputsL [incD]) (by unfold incD; exact .lit (.lit (.lit (.lit (.lit (.lit (.lit (.lit (.lit (.lit (.cons RD.z (.cons RD.z (.lit (.lit (.cons RD.z (.lit (.lit RL.z))))))))))))))))) (by simp [maxLen])
     exact ⟨K1, _, rfl, h1, H, hd⟩
 · refine aW H ?_; clear H; intro w g6 H
   refine rC 0 (ref_hp ⟨#[66, 111, 111, 108, 101, 97, 110]⟩ ⟨#[]⟩ _ _ _ _ H) ?_; clear H; rintro e w ⟨rfl, H⟩; refine rX H ?_
   refine rT 2 H ?_
   refine rL 4 H ?_; clear H; intro w _ H
   refine rE ?_
   go_wp2_with fail
   refine rB [6] H ?_; clear H; intro w H
   refine rT 0 H ?_; refine rT 1 H ?_; refine rT 3 H ?_
   refine r2 2 4 ?_ ?_
   · refine aW H ?_; clear H; intro w gs H
     refine rC 4 (ref_hp t ⟨#[33, 93]⟩ _ _ _ _ H) ?_; clear H; rintro e w ⟨rfl, H⟩; refine rX H ?_
     refine rT 5 H ?_
     refine rL 6 H ?_; clear H; intro w _ H
     refine rE ?_
     go_wp2_with fail
     refine oB H ?_
     replace H : Hp _ _ _ (.box gs _ _ :: M) := H.fin
     obtain ⟨K1, h1, H, hd⟩ := H.freezeBox (n := 1) (ls := inputsL [incD]) (by unfold incD; exact .lit (.lit (.lit (.lit (.lit (.lit (.lit (.lit (.lit (.lit (.cons RD.z (.cons RD.z (.lit (.lit (.cons RD.z (.lit (.lit RL.z))))))))))))))))) (by simp [maxLen])
     exact ⟨K1, _, rfl, h1, H, hd⟩
   · refine aC (ref_hp t ⟨#[33, 93]⟩ _ _ _ _ H) ?_; clear H; rintro e w ⟨rfl, H⟩; refine rX H ?_
     refine rW 2 H ?_; clear H; intro w gs H
     refine rT 5 H ?_
     refine rL 6 H ?_; clear H; intro w _ H
     refine rE ?_
     go_wp2_with fail
     refine oB H ?_
     replace H : Hp _ _ _ (.box gs _ _ :: M) := H.fin
     obtain ⟨K1, h1, H, hd⟩ := H.freezeBox (n := 1) (ls := inputsL [incD]) (by unfold incD; exact .lit (.lit (.lit (.lit (.lit (.lit (.lit (.lit (.lit (.lit (.cons RD.z (.cons RD.z (.lit (.lit (.cons RD.z (.lit (.lit RL.z))))))))))))))))) (by simp [maxLen])
     exact ⟨K1, _, rfl, h1, H, hd⟩
end Go.Proofs.YtbpgkkoeehopjaaGreat.hp
namespace Go.Proofs.YtbpgkkoeehopjaaGreat.hp
open Go.RowKit Go.Proofs.YtbpgkkoeehopjaaGreat.words Go.Proofs.YtbpgkkoeehopjaaGreat.enc Go.Proofs.YtbpgkkoeehopjaaGreat.tree Go.Proofs.YtbpgkkoeehopjaaGreat.gram Go.Proofs.YtbpgkkoeehopjaaGreat.lex Go.Proofs.YtbpgkkoeehopjaaGreat.rd Go.Proofs.YtbpgkkoeehopjaaGreat.dec Go.Proofs.YtbpgkkoeehopjaaGreat.dat Go.Proofs.YtbpgkkoeehopjaaGreat.held
section
variable {P : Program} {w0 w w' K K' : World} {M : List Ent} {ops : Array Oper} {rest : List Oper} {o : Oper} {a : Act} {Q : Exit → Act → World → Prop} {i : Nat}
theorem add_zero_off (g j : Nat) : (⟨g, 0, none⟩ : Addr).add j = ⟨g, j, none⟩ := by unfold Addr.add; split <;> simp_all
theorem Hp.rowAt (H : Hp w0 w K M) {e : TypeId} {m n : Nat} {v : Value} {vs : List Value} (hi : M[i]? = some (.row e m v n vs)) (hne : 0 < n) :
  ∃ g c, v = .slice (some ⟨g, 0, none⟩) n c ∧ n ≤ c ∧ c ≤ maxLen ∧ vs.length = n * m := by
 have ho : w.ownsRow 0 e m v n vs := H.ok _ (List.mem_of_getElem? hi)
 rcases ho.2 with ⟨_, h⟩ | ⟨g, c, cur, rfl, _, hb, h1, h2, h3, h4⟩
 · omega
 · exact ⟨g, c, rfl, h1, h2, ho.1⟩
theorem Hp.rowCell (H : Hp w0 w K M) {e : TypeId} {m n g c : Nat} {vs : List Value} (hi : M[i]? = some (.row e m (.slice (some ⟨g, 0, none⟩) n c) n vs)) {j : Nat} {u : Value} (hu : vs[j]? = some u) : w.cell? ⟨g, j, none⟩ = some u := by
 have ho : w.ownsRow 0 e m _ n vs := H.ok _ (List.mem_of_getElem? hi)
 have := World.ownsRow.cells ho (g := g) rfl j u hu
 rwa [add_zero_off] at this
theorem Hp.rowFrozen (H : Hp w0 w K M) {e : TypeId} {m n g c : Nat} {vs : List Value} (hi : M[i]? = some (.row e m (.slice (some ⟨g, 0, none⟩) n c) n vs)) (j : Nat) : w.frozen? ⟨g, j, none⟩ = false := by
 have ho : w.ownsRow 0 e m _ n vs := H.ok _ (List.mem_of_getElem? hi)
 rcases ho.2 with ⟨h, _⟩ | ⟨g', c', cur, he, _, hb, _⟩
 · cases h
 · injection he with e1 _ e3
   injection e1 with e1
   injection e1 with e1
   subst e1
   exact frozen_of_row w _ j _ _ hb
theorem mid_len {vs us : List Value} {j : Nat} (hj : j + us.length ≤ vs.length) : (vs.take j ++ us ++ vs.drop (j + us.length)).length = vs.length := by
 simp only [List.length_append, List.length_take, List.length_drop]; omega
theorem Hp.rowSet (H : Hp w0 w K M) {e : TypeId} {m n g c : Nat} {vs us : List Value} (hi : M[i]? = some (.row e m (.slice (some ⟨g, 0, none⟩) n c) n vs)) (j : Nat) (hj : j + us.length ≤ vs.length) :
  Hp w0 (w.setCells g j us) K (M.set i (.row e m (.slice (some ⟨g, 0, none⟩) n c) n (vs.take j ++ us ++ vs.drop (j + us.length)))) := by
 refine H.setAt hi setCells_grown ?_ (.inl rfl)
 have ho : w.ownsRow 0 e m _ n vs := H.ok _ (List.mem_of_getElem? hi)
 refine ⟨(mid_len hj).trans ho.1, ?_⟩
 rcases ho.2 with ⟨h, _⟩ | ⟨g', c', cur, he, hb0, hb, h1, h2, h3, h4⟩
 · cases h
 · injection he with e1 _ e3
   injection e1 with e1
   injection e1 with e1
   subst e1 e3
   have hpost : cur.toList = vs ++ cur.toList.drop (n * m) := by rw [← h4, List.take_append_drop]
   generalize cur.toList.drop (n * m) = post at hpost
   have hvs : vs = vs.take j ++ (vs.drop j).take us.length ++ vs.drop (j + us.length) := by
    rw [List.append_assoc, ← List.drop_drop, List.take_append_drop, List.take_append_drop]
   have hcur : cur = (vs.take j ++ (vs.drop j).take us.length ++ (vs.drop (j + us.length) ++ post)).toArray := by
    apply Array.toList_inj.1
    rw [hpost]
    show vs ++ post = vs.take j ++ (vs.drop j).take us.length ++ (vs.drop (j + us.length) ++ post)
    rw [← List.append_assoc, ← hvs]
   rw [hcur] at hb
   have h5 := setL_at (us := us) (i := j) hb (by simp; omega) (by simp; omega)
   have hl : (vs.take j ++ us ++ vs.drop (j + us.length)).length = n * m := (mid_len hj).trans ho.1
   refine .inr ⟨g, c, _, rfl, hb0, by rw [setCells_eq]; exact h5, h1, h2, ?_, ?_⟩
   · have := congrArg List.length hpost
     simp only [Array.length_toList, List.length_append] at this
     have hl2 : (vs.take j ++ us ++ (vs.drop (j + us.length) ++ post)).length = n * m + post.length := by rw [← List.append_assoc, List.length_append, hl]
     simp only [List.size_toArray, hl2]
     rw [ho.1] at this
     omega
   · show ((vs.take j ++ us ++ (vs.drop (j + us.length) ++ post))).take (n * m) = _
     rw [← List.append_assoc, List.take_append_of_le_length (by omega), List.take_of_length_le (by omega)]
theorem store_row_op {Kc : Act → World → Prop} (ty : TypeId) (x y : Operand) (ho : o.op = .store ty x y) (g j : Nat) (hx : a.eval x = .pointer (some ⟨g, j, none⟩)) (v : Value) (hy : a.eval y = v) (us : List Value) (hv : v.cells = us.toArray)
  (hone : ∀ u ∈ us, u.oneCell' = true) (hsz : (P.info? ty).map (·.size) = some us.length) (H : Hp w0 w K M) (i : Nat) (e : TypeId) (m n c : Nat) (vs vs' : List Value) (hi : M[i]? = some (.row e m (.slice (some ⟨g, 0, none⟩) n c) n vs)) (hj : j + us.length ≤ vs.length) (hn : vs.take j ++ us ++ vs.drop (j + us.length) = vs')
  (h : ∀ w', Hp w0 w' K (M.set i (.row e m (.slice (some ⟨g, 0, none⟩) n c) n vs')) → Kc (a.put o.dst undef) w') : Oper.wp P o a w Kc Q := by
 have hrun : (storeVar ty ⟨g, j, none⟩ v).run P w = .ok () (w.setCells g j us) := by
  have := run_storeCells_cells (P := P) g j us 0 w (fun k hk => by
    have hk' : j + k < vs.length := by omega
    rw [Nat.add_zero, H.rowCell hi (List.getElem?_eq_getElem hk')]; rfl) (fun k hk => H.rowFrozen hi _) hone
  cases hq : P.info? ty with
  | none => simp [hq] at hsz
  | some ti =>
   have hs : us.length = ti.size := by simp [hq] at hsz; omega
   simp only [Nat.add_zero] at this
   simp [storeVar, sizeOf, typeInfo, hq, hv, hs, this]
 unfold Oper.wp execOp
 simp only [ho, hx, hy, Instr.storeAt, Instr.sureAddr, Sem.run_bind, Sem.run_pure, Result.andThen_ok, hrun]
 have := H.rowSet hi j hj
 rw [hn] at this
 exact h _ this
theorem step_store_row_hp {E : Prop} {Kc : Act → World → Prop} (hgd : o.guard = none) (ty : TypeId) (x y : Operand) (ho : o.op = .store ty x y) (g j : Nat) (hx : a.eval x = .pointer (some ⟨g, j, none⟩)) (v : Value) (hy : a.eval y = v) (us : List Value) (hv : v.cells = us.toArray)
  (hone : ∀ u ∈ us, u.oneCell' = true) (hsz : (P.info? ty).map (·.size) = some us.length) (H : Hp w0 w K M) (i : Nat) (e : TypeId) (m n c : Nat) (vs vs' : List Value) (hi : M[i]? = some (.row e m (.slice (some ⟨g, 0, none⟩) n c) n vs)) (hj : j + us.length ≤ vs.length) (hn : vs.take j ++ us ++ vs.drop (j + us.length) = vs')
  (h : ∀ w', Hp w0 w' K (M.set i (.row e m (.slice (some ⟨g, 0, none⟩) n c) n vs')) → Kc (a.put o.dst undef) w') : if Region.wanted o (yielded ops a.tmps) = true then Oper.wp P o a w Kc Q else E := by
 have hw : Region.wanted o (yielded ops a.tmps) = true := by simp [Region.wanted, hgd]
 rw [if_pos hw]
 exact store_row_op ty x y ho g j hx v hy us hv hone hsz H i e m n c vs vs' hi hj hn h
end
def trows (TS : List (DefD × DV)) : List Ent := TS.flatMap fun p => DV.rows p.1 p.2
def tcells (TS : List (DefD × DV)) : List Value := TS.flatMap fun p => DV.cells p.1 p.2
def tok (K : World) (TS : List (DefD × DV)) : Prop := ∀ p ∈ TS, p.2.ok K p.1
section
variable {w0 w w' K K' : World} {M : List Ent}
theorem tok.sat {TS : List (DefD × DV)} (h : tok K TS) (hs : Sat K' K) : tok K' TS := fun p hp => (h p hp).sat hs
theorem tcells_len : ∀ (TS : List (DefD × DV)), (tcells TS).length = TS.length * 17
 | [] => rfl
 | p :: r => by
  have h : tcells (p :: r) = DV.cells p.1 p.2 ++ tcells r := by simp [tcells]
  have h2 : (DV.cells p.1 p.2).length = 17 := rfl
  rw [h, List.length_append, tcells_len r, h2, List.length_cons]; omega
theorem tcells_app (A B : List (DefD × DV)) : tcells (A ++ B) = tcells A ++ tcells B := by simp [tcells]
theorem trows_app (A B : List (DefD × DV)) : trows (A ++ B) = trows A ++ trows B := by simp [trows]
theorem Hp.freezeDef {d : DefD} {V : DV} (H : Hp w0 w K (DV.rows d V ++ M)) (hV : V.ok K d) : ∃ K', Sat K' K ∧ Hp w0 w K' M ∧ RL K' (defL d) (DV.cells d V) := by
 obtain ⟨K1, s1, H, f8⟩ := H.freezeRow hV.r8
 replace hV := hV.sat s1
 obtain ⟨K2, s2, H, f11⟩ := H.freezeRow hV.r11
 replace hV := hV.sat s2
 replace f8 := f8.sat s2
 obtain ⟨K3, s3, H, f6⟩ := H.freezeRow hV.r6
 replace hV := hV.sat s3
 replace f8 := f8.sat s3
 replace f11 := f11.sat s3
 obtain ⟨K4, s4, H, f10⟩ := H.freezeRow hV.r10
 replace hV := hV.sat s4
 replace f8 := f8.sat s4
 replace f11 := f11.sat s4
 replace f6 := f6.sat s4
 obtain ⟨K5, s5, H, f14⟩ := H.freezeRow hV.r14
 replace hV := hV.sat s5
 replace f8 := f8.sat s5
 replace f11 := f11.sat s5
 replace f6 := f6.sat s5
 replace f10 := f10.sat s5
 obtain ⟨K6, s6, H, f12⟩ := H.freezeRow hV.r12
 replace hV := hV.sat s6
 replace f8 := f8.sat s6
 replace f11 := f11.sat s6
 replace f6 := f6.sat s6
 replace f10 := f10.sat s6
 replace f14 := f14.sat s6
 obtain ⟨K7, s7, H, f9⟩ := H.freezeRow hV.r9
 replace hV := hV.sat s7
 replace f8 := f8.sat s7
 replace f11 := f11.sat s7
 replace f6 := f6.sat s7
 replace f10 := f10.sat s7
 replace f14 := f14.sat s7
 replace f12 := f12.sat s7
 obtain ⟨K8, s8, H, f7⟩ := H.freezeRow hV.r7
 replace f8 := f8.sat s8
 replace f11 := f11.sat s8
 replace f6 := f6.sat s8
 replace f10 := f10.sat s8
 replace f14 := f14.sat s8
 replace f12 := f12.sat s8
 replace f9 := f9.sat s8
 exact ⟨K8, s8.trans (s7.trans (s6.trans (s5.trans (s4.trans (s3.trans (s2.trans s1)))))), H, by
  unfold defL DV.cells
  exact .lit (.lit (.lit (.lit (.lit (.lit (.cons f6 (.cons f7 (.cons f8 (.cons f9 (.cons f10 (.cons f11 (.cons f12 (.lit (.cons f14 (.lit (.lit RL.z))))))))))))))))⟩
theorem Hp.freezeDefs : ∀ {TS : List (DefD × DV)} {K : World}, Hp w0 w K (trows TS ++ M) → tok K TS → ∃ K', Sat K' K ∧ Hp w0 w K' M ∧ RL K' (defsL (TS.map (·.1))) (tcells TS)
 | [], K, H, _ => ⟨K, Sat.refl K, H, RL.z⟩
 | p :: TS, K, H, hok => by
  have H : Hp w0 w K (DV.rows p.1 p.2 ++ (trows TS ++ M)) := by
   have : trows (p :: TS) ++ M = DV.rows p.1 p.2 ++ (trows TS ++ M) := by simp [trows]
   rw [← this]; exact H
  obtain ⟨K1, s1, H, h1⟩ := H.freezeDef (hok p (List.mem_cons_self ..))
  obtain ⟨K2, s2, H, h2⟩ := Hp.freezeDefs (TS := TS) H (fun q hq => (hok q (List.mem_cons_of_mem _ hq)).sat s1)
  exact ⟨K2, s2.trans s1, H, (h1.sat s2).app h2⟩
end
set_option maxRecDepth 100000
attribute [local go_sem ↓] Go.wp_at_zero Go.wp_at_succ
theorem textsL_flat (l : List Txt) : textsL l = l.flatMap fun x => [str' x] := by
 induction l with
 | nil => rfl
 | cons x r ih => rw [List.flatMap_cons, ← ih]; rfl
theorem elem_text {w0 w K : World} {M : List Ent} {l : List Txt} {n c k : Nat} {A : Option Addr} {x : Txt} (H : Hp w0 w K M) (hd : RD K (.list n (textsL l)) (.slice A n c)) (hk : l[k]? = some x) : ∃ ad, A = some ad ∧ w.cell? (ad.add k) = some (.string (str x)) := by
 rw [textsL_flat] at hd
 obtain ⟨ad, vs, h1, h2, _, h4⟩ := elem_hp (m := 1) (f := fun x => [str' x]) (fun _ => rfl) H hd hk (by omega)
 obtain ⟨r, rfl, _⟩ := h2.lit_inv
 exact ⟨ad, h1, by simpa using h4.1 _ rfl⟩
def valD (x : Txt) : ValueD := ⟨noteZ, x, [], 0, 0⟩
def plD (x : Txt) : NamedD := ⟨x, 0, 0⟩
theorem vals_snoc {K : World} {l : List Txt} {x : Txt} {vs : List Value} (h : RL K (valuesL (l.map valD)) vs) : RL K (valuesL ((l ++ [x]).map valD)) (vs ++ [.bool false, .bool false, .string ⟨#[]⟩, .string (str x), .slice none 0 0, .int .i64 0, .int .i64 0]) := by
 rw [List.map_append, valuesL_app]
 exact h.app (by simp only [List.map_cons, List.map_nil, valuesL, List.flatMap_cons, List.flatMap_nil, List.append_nil]; exact .lit (.lit (.lit (.lit (.cons RD.z (.lit (.lit RL.z)))))))
theorem pls_snoc {K : World} {l : List Txt} {x : Txt} {vs : List Value} (h : RL K (namedsL (l.map plD)) vs) : RL K (namedsL ((l ++ [x]).map plD)) (vs ++ [.string (str x), .int .i64 0, .int .i64 0]) := by
 rw [List.map_append, namedsL_app]
 exact h.app (by simp only [List.map_cons, List.map_nil, namedsL, List.flatMap_cons, List.flatMap_nil, List.append_nil]; exact .lit (.lit (.lit RL.z)))
def EnumP (s : ByteArray) (l : List Txt) (w0 K : World) (M : List Ent) (e : Ending) (w' : World) : Prop :=
 ∃ K' A c, e = .returned (.agg #[.int .i64 6, .bool false, .bool false, .bool false, .string ⟨#[]⟩, .string s, .slice none 0 0, .slice none 0 0, .slice none 0 0, .slice none 0 0, .slice none 0 0, .slice A l.length c, .slice none 0 0, .bool false, .slice none 0 0, .int .i64 0, .int .i64 0]) ∧ Sat K' K ∧ Hp w0 w' K' M ∧ RD K' (.list l.length (valuesL (l.map valD))) (.slice A l.length c)
set_option maxHeartbeats 4000000 in
theorem enum_hp (s : ByteArray) (l : List Txt) (n c : Nat) (A : Option Addr) (w0 w K : World) (M : List Ent) (H : Hp w0 w K M) (hl : l.length = n) (hn : n ≤ 1000000) (hd : RD K (.list n (textsL l)) (.slice A n c)) :
  Calls Tryz.prog 103 #[.string s, .slice A n c] w (EnumP s l w0 K M) := by
 obtain ⟨k0, hk0, k0z, k0s, k0b⟩ := info_parts value_info
 have HL := hide hl
 clear hl
 go_enter Tryz.func103, Tryz.ntmps103
 go_upto_region 3 with (first
  | ((with_reducible refine isL ?_); first
   | (refine al z43 4 H ?_; clear H; intro w1 g4 H)
   | (refine al z43 5 H ?_; clear H; intro w3 g5 H)
   | (refine sA 5 0 H ?_; clear H; intro w5 H)))
 go_wp2_with fail
 go_loopw [12] (fun i wr => ∃ (k : Nat) (V : Value) (vs : List Value), k ≤ n ∧ i = .int .i64 k ∧ Hp w0 wr K (.row 133 7 V k vs :: .box g5 [.int .i64 6, .bool false, .bool false, .bool false, .string ⟨#[]⟩, .string s, .slice none 0 0, .slice none 0 0, .slice none 0 0, .slice none 0 0, .slice none 0 0, V, .slice none 0 0, .bool false, .slice none 0 0, .int .i64 0, .int .i64 0] 43 :: .box g4 [.int .i64 0, .bool false, .bool false, .bool false, .string ⟨#[]⟩, .string ⟨#[]⟩, .slice none 0 0, .slice none 0 0, .slice none 0 0, .slice none 0 0, .slice none 0 0, .slice none 0 0, .slice none 0 0, .bool false, .slice none 0 0, .int .i64 0, .int .i64 0] 43 :: M) ∧ RL K (valuesL ((l.take k).map valD)) vs) (fun i _ => n - (intOf i).toNat)
 case atStart => exact ⟨0, _, [], Nat.zero_le _, rfl, H.nilRow 133 7, RL.z⟩
 case round =>
  clear H
  obtain ⟨k, V, vs, hk, rfl, H, hvs⟩ := hrel
  obtain ⟨Av, cv, rfl, _, _⟩ := H.slice (i := 0) rfl
  by_cases hlt : k < n
  · have hkI : (k : Int) < (n : Int) := by omega
    obtain ⟨x, hx⟩ : ∃ x, l[k]? = some x := ⟨_, List.getElem?_eq_getElem (by rw [HL.out]; exact hlt)⟩
    have HE := hide (take_next hx)
    obtain ⟨ad, rfl, hc⟩ := elem_text H hd hx
    clear hx
    go_upto_region 5 with (fail)
    have := H.c 1 11
    go_upto_region 6 with (first
     | (refine buildSlice_hp (by rfl) 38 133 1 _ (by rfl) (some 20) (by rfl) Tryz.underlying38 [.bool false, .bool false, .string ⟨#[]⟩, .string (str x), .slice none 0 0, .int .i64 0, .int .i64 0] (by kernel_rfl) H ?_; clear H; intro w6 g20 H; have := H.c 2 11)
     | (at_builtin; refine append_hp (by rfl) _ _ 38 (by rfl) 133 k0 _ 7 80 Tryz.underlying38 hk0 k0z k0s k0b (by rfl) (by decide) H 1 (.slice Av k cv) (k) (vs) (by rfl) (by first | rfl | simp [Act.eval, Act.put]) (some ⟨g20, 0, none⟩) 1 1 [.bool false, .bool false, .string ⟨#[]⟩, .string (str x), .slice none 0 0, .int .i64 0, .int .i64 0] (by first | rfl | simp [Act.eval, Act.put]) (by rfl) (H.rd (i := 0) rfl) (by simp [Value.oneCell']) (by simp only [maxLen]; omega) (by omega) ?_; clear H; intro V2 w2 H; replace H : Hp w0 w2 K (.box g20 [.bool false, .bool false, .string ⟨#[]⟩, .string (str x), .slice none 0 0, .int .i64 0, .int .i64 0] 133 :: .row 133 7 (V2) (k + 1) (vs ++ [.bool false, .bool false, .string ⟨#[]⟩, .string (str x), .slice none 0 0, .int .i64 0, .int .i64 0]) :: .box g5 [.int .i64 6, .bool false, .bool false, .bool false, .string ⟨#[]⟩, .string s, .slice none 0 0, .slice none 0 0, .slice none 0 0, .slice none 0 0, .slice none 0 0, .slice Av k cv, .slice none 0 0, .bool false, .slice none 0 0, .int .i64 0, .int .i64 0] 43 :: .box g4 [.int .i64 0, .bool false, .bool false, .bool false, .string ⟨#[]⟩, .string ⟨#[]⟩, .slice none 0 0, .slice none 0 0, .slice none 0 0, .slice none 0 0, .slice none 0 0, .slice none 0 0, .slice none 0 0, .bool false, .slice none 0 0, .int .i64 0, .int .i64 0] 43 :: M) := H; obtain ⟨V2A, V2c, rfl, V2l, V2m⟩ := H.slice (i := 1) rfl; have := H.c 2 11)
     | ((with_reducible refine isL ?_); first
      | (refine s1 22 2 (.slice V2A (k + 1) V2c) H ?_; clear H; intro w7 H; have := H.c 2 11)))
    replace H := H.sub (List.Sublist.cons _ (List.Sublist.cons_cons _ (List.Sublist.cons_cons _ (List.Sublist.cons_cons _ (List.Sublist.refl _)))))
    go_wp2_with fail
    go_roundw
    case rel => exact ⟨k + 1, _, _, by omega, by go_num, H, by rw [HE.out]; exact vals_snoc hvs⟩
    case measure => simp [intOf]; omega
  · obtain rfl : n = k := by omega
    have htk : l.take n = l := by rw [← HL.out]; exact List.take_length
    rw [htk] at hvs
    clear htk
    go_upto_region 7 with (fail)
    go_wp2_with (first
     | ((with_reducible refine isL ?_); first
      | (refine ld 5 1 17 Tryz.underlying43 H ?_)
      | (refine sA 4 2 H ?_; clear H; intro w8 H)))
    refine bodyPost_ret (v := .agg #[.int .i64 6, .bool false, .bool false, .bool false, .string ⟨#[]⟩, .string s, .slice none 0 0, .slice none 0 0, .slice none 0 0, .slice none 0 0, .slice none 0 0, .slice Av n cv, .slice none 0 0, .bool false, .slice none 0 0, .int .i64 0, .int .i64 0]) (results_cell_row rfl _ _ g4 43 _ (0, 0) _ (by rfl) (H.blkAt (i := 2) rfl) Tryz.underlying43 rfl (by kernel_rfl)) rfl ?_
    replace H := H.sub (List.Sublist.cons_cons _ (List.Sublist.cons _ (List.Sublist.cons _ (List.Sublist.refl _))))
    obtain ⟨K', hle, H, hv⟩ := H.freezeRow hvs
    have hl' := HL.out
    exact ⟨K', Av, cv, by rw [hl'], hle, H, by rw [hl']; exact hv⟩
def DirP (s : ByteArray) (arg : InputD) (l : List Txt) (w0 K : World) (M : List Ent) (e : Ending) (w' : World) : Prop :=
 ∃ K' g A c, e = .returned (.agg #[.int .i64 8, .bool false, .bool false, .bool false, .string ⟨#[]⟩, .string s, .slice none 0 0, .slice none 0 0, .slice none 0 0, .slice (some ⟨g, 0, none⟩) 1 1, .slice none 0 0, .slice none 0 0, .slice none 0 0, .bool false, .slice A l.length c, .int .i64 0, .int .i64 0]) ∧ Sat K' K ∧ Hp w0 w' K' M ∧ RD K' (.list l.length (namedsL (l.map plD))) (.slice A l.length c) ∧ RD K' (.list 1 (inputsL [arg])) (.slice (some ⟨g, 0, none⟩) 1 1)
set_option maxHeartbeats 4000000 in
theorem directive_hp (s : ByteArray) (arg : InputD) (a0 a1 a2 a3 a4 a5 a6 a7 a8 a9 a10 a11 a12 a13 a14 a15 a16 : Value) (l : List Txt) (n c : Nat) (A : Option Addr) (w0 w K : World) (M : List Ent) (H : Hp w0 w K M) (hl : l.length = n) (hn : n ≤ 1000000) (hd : RD K (.list n (textsL l)) (.slice A n c)) (ha : RL K (inputL arg) [a0, a1, a2, a3, a4, a5, a6, a7, a8, a9, a10, a11, a12, a13, a14, a15, a16]) :
  Calls Tryz.prog 105 #[.string s, .agg #[a0, a1, a2, a3, a4, a5, a6, a7, a8, a9, a10, a11, a12, a13, a14, a15, a16], .slice A n c] w (DirP s arg l w0 K M) := by
 obtain ⟨k0, hk0, k0z, k0s, k0b⟩ := info_parts Go.Proofs.YtbpgkkoeehopjaaGreat.dat.named_info
 have HL := hide hl
 clear hl
 have hone := ha.one
 go_enter Tryz.func105, Tryz.ntmps105
 have hK := Sat.refl K
 go_upto_region 3 with (first
  | (refine box_hp (by rfl) 123 (.tmp 1) (by rfl) [a0, a1, a2, a3, a4, a5, a6, a7, a8, a9, a10, a11, a12, a13, a14, a15, a16] _ (by rfl) (by rfl) (some 4) (by rfl) H ?_; clear H; intro w9 g4 H hg10; clear hg10)
  | (refine buildSlice_hp (by rfl) 37 123 1 _ (by rfl) (some 12) (by rfl) Tryz.underlying37 [a0, a1, a2, a3, a4, a5, a6, a7, a8, a9, a10, a11, a12, a13, a14, a15, a16] (by kernel_rfl) H ?_; clear H; intro w13 g12 H; obtain ⟨K2, hle14, H, hin⟩ := H.freezeBox (n := 1) (ls := inputsL [arg]) ((by simpa [inputsL] using ha)) (by simp only [maxLen]; omega); replace hd := hd.sat hle14; replace ha := ha.sat hle14; replace hK := hle14.trans hK)
  | ((with_reducible refine isL ?_); first
   | (refine al z43 6 H ?_; clear H; intro w11 g6 H)
   | (refine ld 4 1 17 Tryz.underlying123 H ?_)
   | (refine al z43 7 H ?_; clear H; intro w15 g7 H)
   | (refine sA 7 0 H ?_; clear H; intro w17 H)))
 go_wp2_with fail
 go_loopw [16] (fun i wr => ∃ (k : Nat) (V : Value) (vs : List Value), k ≤ n ∧ i = .int .i64 k ∧ Hp w0 wr K2 (.row 113 3 V k vs :: .box g7 [.int .i64 8, .bool false, .bool false, .bool false, .string ⟨#[]⟩, .string s, .slice none 0 0, .slice none 0 0, .slice none 0 0, .slice (some ⟨g12, 0, none⟩) 1 1, .slice none 0 0, .slice none 0 0, .slice none 0 0, .bool false, V, .int .i64 0, .int .i64 0] 43 :: .box g6 [.int .i64 0, .bool false, .bool false, .bool false, .string ⟨#[]⟩, .string ⟨#[]⟩, .slice none 0 0, .slice none 0 0, .slice none 0 0, .slice none 0 0, .slice none 0 0, .slice none 0 0, .slice none 0 0, .bool false, .slice none 0 0, .int .i64 0, .int .i64 0] 43 :: M) ∧ RL K2 (namedsL ((l.take k).map plD)) vs) (fun i _ => n - (intOf i).toNat)
 case atStart => exact ⟨0, _, [], Nat.zero_le _, rfl, (H.sub (List.Sublist.cons_cons _ (List.Sublist.cons_cons _ (List.Sublist.cons _ (List.Sublist.refl _))))).nilRow 113 3, RL.z⟩
 case round =>
  clear H
  obtain ⟨k, V, vs, hk, rfl, H, hvs⟩ := hrel
  obtain ⟨Av, cv, rfl, _, _⟩ := H.slice (i := 0) rfl
  by_cases hlt : k < n
  · have hkI : (k : Int) < (n : Int) := by omega
    obtain ⟨x, hx⟩ : ∃ x, l[k]? = some x := ⟨_, List.getElem?_eq_getElem (by rw [HL.out]; exact hlt)⟩
    have HE := hide (take_next hx)
    obtain ⟨ad, rfl, hc⟩ := elem_text H hd hx
    clear hx
    go_upto_region 5 with (fail)
    have := H.c 1 14
    go_upto_region 6 with (first
     | (refine buildSlice_hp (by rfl) 34 113 1 _ (by rfl) (some 24) (by rfl) Tryz.underlying34 [.string (str x), .int .i64 0, .int .i64 0] (by kernel_rfl) H ?_; clear H; intro w18 g24 H; have := H.c 2 14)
     | (at_builtin; refine append_hp (by rfl) _ _ 34 (by rfl) 113 k0 _ 3 32 Tryz.underlying34 hk0 k0z k0s k0b (by rfl) (by decide) H 1 (.slice Av k cv) (k) (vs) (by rfl) (by first | rfl | simp [Act.eval, Act.put]) (some ⟨g24, 0, none⟩) 1 1 [.string (str x), .int .i64 0, .int .i64 0] (by first | rfl | simp [Act.eval, Act.put]) (by rfl) (H.rd (i := 0) rfl) (by simp [Value.oneCell']) (by simp only [maxLen]; omega) (by omega) ?_; clear H; intro V2 w2 H; replace H : Hp w0 w2 K2 (.box g24 [.string (str x), .int .i64 0, .int .i64 0] 113 :: .row 113 3 (V2) (k + 1) (vs ++ [.string (str x), .int .i64 0, .int .i64 0]) :: .box g7 [.int .i64 8, .bool false, .bool false, .bool false, .string ⟨#[]⟩, .string s, .slice none 0 0, .slice none 0 0, .slice none 0 0, .slice (some ⟨g12, 0, none⟩) 1 1, .slice none 0 0, .slice none 0 0, .slice none 0 0, .bool false, .slice Av k cv, .int .i64 0, .int .i64 0] 43 :: .box g6 [.int .i64 0, .bool false, .bool false, .bool false, .string ⟨#[]⟩, .string ⟨#[]⟩, .slice none 0 0, .slice none 0 0, .slice none 0 0, .slice none 0 0, .slice none 0 0, .slice none 0 0, .slice none 0 0, .bool false, .slice none 0 0, .int .i64 0, .int .i64 0] 43 :: M) := H; obtain ⟨V2A, V2c, rfl, V2l, V2m⟩ := H.slice (i := 1) rfl; have := H.c 2 14)
     | ((with_reducible refine isL ?_); first
      | (refine s1 26 2 (.slice V2A (k + 1) V2c) H ?_; clear H; intro w19 H; have := H.c 2 14)))
    replace H := H.sub (List.Sublist.cons _ (List.Sublist.cons_cons _ (List.Sublist.cons_cons _ (List.Sublist.cons_cons _ (List.Sublist.refl _)))))
    go_wp2_with fail
    go_roundw
    case rel => exact ⟨k + 1, _, _, by omega, by go_num, H, by rw [HE.out]; exact pls_snoc hvs⟩
    case measure => simp [intOf]; omega
  · obtain rfl : n = k := by omega
    have htk : l.take n = l := by rw [← HL.out]; exact List.take_length
    rw [htk] at hvs
    clear htk
    go_upto_region 7 with (fail)
    go_wp2_with (first
     | ((with_reducible refine isL ?_); first
      | (refine ld 7 1 17 Tryz.underlying43 H ?_)
      | (refine sA 6 2 H ?_; clear H; intro w20 H)))
    refine bodyPost_ret (v := .agg #[.int .i64 8, .bool false, .bool false, .bool false, .string ⟨#[]⟩, .string s, .slice none 0 0, .slice none 0 0, .slice none 0 0, .slice (some ⟨g12, 0, none⟩) 1 1, .slice none 0 0, .slice none 0 0, .slice none 0 0, .bool false, .slice Av n cv, .int .i64 0, .int .i64 0]) (results_cell_row rfl _ _ g6 43 _ (0, 0) _ (by rfl) (H.blkAt (i := 2) rfl) Tryz.underlying43 rfl (by kernel_rfl)) rfl ?_
    replace H := H.sub (List.Sublist.cons_cons _ (List.Sublist.cons _ (List.Sublist.cons _ (List.Sublist.refl _))))
    obtain ⟨K', hle, H, hv⟩ := H.freezeRow hvs
    have hl' := HL.out
    exact ⟨K', g12, Av, cv, by rw [hl'], hle.trans hK, H, by rw [hl']; exact hv, hin.sat hle⟩
theorem addr0 (g k : Nat) : (⟨g, 0, none⟩ : Addr).add k = ⟨g, k, none⟩ := by unfold Addr.add; split <;> simp_all
def fD (s t u : Txt) : FieldD := ⟨noteZ, s, [], (t, u), [], 0, 0⟩
def aD (s t : Txt) : FieldD := ⟨noteZ, s, [incD], (t, [33, 93]), [], 0, 0⟩
def scD (s : Txt) : DefD := ⟨2, false, noteZ, s, [], [], [], [], [], [], [], false, [], 0, 0⟩
def obD (s : Txt) (l : List FieldD) : DefD := ⟨3, false, noteZ, s, [], [], l, [], [], [], [], false, [], 0, 0⟩
def enD (s : Txt) (l : List Txt) : DefD := ⟨6, false, noteZ, s, [], [], [], [], [], l.map valD, [], false, [], 0, 0⟩
section
variable {K : World}
theorem rf_f {s t u : Txt} {r : List FieldD} {ys : List Value} (h : RL K (fieldsL r) ys) : RL K (fieldsL (fD s t u :: r)) (.bool false :: .bool false :: .string ⟨#[]⟩ :: .string (str s) :: .slice none 0 0 :: .string (str t) :: .string (str u) :: .slice none 0 0 :: .int .i64 0 :: .int .i64 0 :: ys) :=
 .lit (.lit (.lit (.lit (.cons RD.z (.lit (.lit (.cons RD.z (.lit (.lit h)))))))))
theorem rf_a {s t : Txt} {r : List FieldD} {ys : List Value} {v : Value} (h : RL K (fieldsL r) ys) (hi : RD K (.list 1 (inputsL [incD])) v) : RL K (fieldsL (aD s t :: r)) (.bool false :: .bool false :: .string ⟨#[]⟩ :: .string (str s) :: v :: .string (str t) :: .string ⟨#[33, 93]⟩ :: .slice none 0 0 :: .int .i64 0 :: .int .i64 0 :: ys) :=
 .lit (.lit (.lit (.lit (.cons hi (.lit (.lit (.cons RD.z (.lit (.lit h)))))))))
theorem rt_s {x : Txt} {r : List Txt} {ys : List Value} (h : RL K (textsL r) ys) : RL K (textsL (x :: r)) (.string (str x) :: ys) := .lit h
theorem rd_nil : RL K (defsL []) [] := RL.z
theorem rd_sc {s : Txt} : RL K (defL (scD s)) [.int .i64 2, .bool false, .bool false, .bool false, .string ⟨#[]⟩, .string (str s), .slice none 0 0, .slice none 0 0, .slice none 0 0, .slice none 0 0, .slice none 0 0, .slice none 0 0, .slice none 0 0, .bool false, .slice none 0 0, .int .i64 0, .int .i64 0] :=
 def_leaf RD.z RD.z RD.z RD.z RD.z RD.z RD.z RD.z
theorem rd_ob {s : Txt} {l : List FieldD} {v : Value} {r : List DefD} {ys : List Value} (h : RL K (defsL r) ys) (hl : RD K (.list l.length (fieldsL l)) v) : RL K (defsL (obD s l :: r)) (.int .i64 3 :: .bool false :: .bool false :: .bool false :: .string ⟨#[]⟩ :: .string (str s) :: .slice none 0 0 :: .slice none 0 0 :: v :: .slice none 0 0 :: .slice none 0 0 :: .slice none 0 0 :: .slice none 0 0 :: .bool false :: .slice none 0 0 :: .int .i64 0 :: .int .i64 0 :: ys) :=
 DatL.app (def_leaf RD.z RD.z hl RD.z RD.z RD.z RD.z RD.z) h
theorem rd_en {s : Txt} {l : List Txt} {v : Value} {r : List DefD} {ys : List Value} (h : RL K (defsL r) ys) (hl : RD K (.list l.length (valuesL (l.map valD))) v) : RL K (defsL (enD s l :: r)) (.int .i64 6 :: .bool false :: .bool false :: .bool false :: .string ⟨#[]⟩ :: .string (str s) :: .slice none 0 0 :: .slice none 0 0 :: .slice none 0 0 :: .slice none 0 0 :: .slice none 0 0 :: v :: .slice none 0 0 :: .bool false :: .slice none 0 0 :: .int .i64 0 :: .int .i64 0 :: ys) :=
 DatL.app (def_leaf RD.z RD.z RD.z RD.z RD.z (by simpa using hl) RD.z RD.z) h
theorem scs_snoc {l : List Txt} {x : Txt} {vs : List Value} (h : RL K (defsL (l.map scD)) vs) : RL K (defsL ((l ++ [x]).map scD)) (vs ++ [.int .i64 2, .bool false, .bool false, .bool false, .string ⟨#[]⟩, .string (str x), .slice none 0 0, .slice none 0 0, .slice none 0 0, .slice none 0 0, .slice none 0 0, .slice none 0 0, .slice none 0 0, .bool false, .slice none 0 0, .int .i64 0, .int .i64 0]) := by
 rw [List.map_append]
 unfold defsL at h ⊢
 rw [List.flatMap_append]
 exact h.app (by simpa using rd_sc)
end
def scalT : List Txt := [[73, 110, 116], [70, 108, 111, 97, 116], [83, 116, 114, 105, 110, 103], [66, 111, 111, 108, 101, 97, 110], [73, 68]]
def gf0 : List FieldD := [fD [100, 101, 115, 99, 114, 105, 112, 116, 105, 111, 110] [83, 116, 114, 105, 110, 103] [], fD [116, 121, 112, 101, 115] [95, 95, 84, 121, 112, 101] [33, 93, 33], fD [113, 117, 101, 114, 121, 84, 121, 112, 101] [95, 95, 84, 121, 112, 101] [33], fD [109, 117, 116, 97, 116, 105, 111, 110, 84, 121, 112, 101] [95, 95, 84, 121, 112, 101] [], fD [115, 117, 98, 115, 99, 114, 105, 112, 116, 105, 111, 110, 84, 121, 112, 101] [95, 95, 84, 121, 112, 101] [], fD [100, 105, 114, 101, 99, 116, 105, 118, 101, 115] [95, 95, 68, 105, 114, 101, 99, 116, 105, 118, 101] [33, 93, 33]]
def gd0 : DefD := obD [95, 95, 83, 99, 104, 101, 109, 97] gf0
def gf1 : List FieldD := [fD [107, 105, 110, 100] [95, 95, 84, 121, 112, 101, 75, 105, 110, 100] [33], fD [110, 97, 109, 101] [83, 116, 114, 105, 110, 103] [], fD [100, 101, 115, 99, 114, 105, 112, 116, 105, 111, 110] [83, 116, 114, 105, 110, 103] [], fD [115, 112, 101, 99, 105, 102, 105, 101, 100, 66, 121, 85, 82, 76] [83, 116, 114, 105, 110, 103] [], aD [102, 105, 101, 108, 100, 115] [95, 95, 70, 105, 101, 108, 100], fD [105, 110, 116, 101, 114, 102, 97, 99, 101, 115] [95, 95, 84, 121, 112, 101] [33, 93], fD [112, 111, 115, 115, 105, 98, 108, 101, 84, 121, 112, 101, 115] [95, 95, 84, 121, 112, 101] [33, 93], aD [101, 110, 117, 109, 86, 97, 108, 117, 101, 115] [95, 95, 69, 110, 117, 109, 86, 97, 108, 117, 101], fD [105, 110, 112, 117, 116, 70, 105, 101, 108, 100, 115] [95, 95, 73, 110, 112, 117, 116, 86, 97, 108, 117, 101] [33, 93], fD [111, 102, 84, 121, 112, 101] [95, 95, 84, 121, 112, 101] []]
def gd1 : DefD := obD [95, 95, 84, 121, 112, 101] gf1
def ge2 : List Txt := [[83, 67, 65, 76, 65, 82], [79, 66, 74, 69, 67, 84], [73, 78, 84, 69, 82, 70, 65, 67, 69], [85, 78, 73, 79, 78], [69, 78, 85, 77], [73, 78, 80, 85, 84, 95, 79, 66, 74, 69, 67, 84], [76, 73, 83, 84], [78, 79, 78, 95, 78, 85, 76, 76]]
def gd2 : DefD := enD [95, 95, 84, 121, 112, 101, 75, 105, 110, 100] ge2
def gf3 : List FieldD := [fD [110, 97, 109, 101] [83, 116, 114, 105, 110, 103] [33], fD [100, 101, 115, 99, 114, 105, 112, 116, 105, 111, 110] [83, 116, 114, 105, 110, 103] [], fD [97, 114, 103, 115] [95, 95, 73, 110, 112, 117, 116, 86, 97, 108, 117, 101] [33, 93, 33], fD [116, 121, 112, 101] [95, 95, 84, 121, 112, 101] [33], fD [105, 115, 68, 101, 112, 114, 101, 99, 97, 116, 101, 100] [66, 111, 111, 108, 101, 97, 110] [33], fD [100, 101, 112, 114, 101, 99, 97, 116, 105, 111, 110, 82, 101, 97, 115, 111, 110] [83, 116, 114, 105, 110, 103] []]
def gd3 : DefD := obD [95, 95, 70, 105, 101, 108, 100] gf3
def gf4 : List FieldD := [fD [110, 97, 109, 101] [83, 116, 114, 105, 110, 103] [33], fD [100, 101, 115, 99, 114, 105, 112, 116, 105, 111, 110] [83, 116, 114, 105, 110, 103] [], fD [116, 121, 112, 101] [95, 95, 84, 121, 112, 101] [33], fD [100, 101, 102, 97, 117, 108, 116, 86, 97, 108, 117, 101] [83, 116, 114, 105, 110, 103] []]
def gd4 : DefD := obD [95, 95, 73, 110, 112, 117, 116, 86, 97, 108, 117, 101] gf4
def gf5 : List FieldD := [fD [110, 97, 109, 101] [83, 116, 114, 105, 110, 103] [33], fD [100, 101, 115, 99, 114, 105, 112, 116, 105, 111, 110] [83, 116, 114, 105, 110, 103] [], fD [105, 115, 68, 101, 112, 114, 101, 99, 97, 116, 101, 100] [66, 111, 111, 108, 101, 97, 110] [33], fD [100, 101, 112, 114, 101, 99, 97, 116, 105, 111, 110, 82, 101, 97, 115, 111, 110] [83, 116, 114, 105, 110, 103] []]
def gd5 : DefD := obD [95, 95, 69, 110, 117, 109, 86, 97, 108, 117, 101] gf5
def gf6 : List FieldD := [fD [110, 97, 109, 101] [83, 116, 114, 105, 110, 103] [33], fD [100, 101, 115, 99, 114, 105, 112, 116, 105, 111, 110] [83, 116, 114, 105, 110, 103] [], fD [108, 111, 99, 97, 116, 105, 111, 110, 115] [95, 95, 68, 105, 114, 101, 99, 116, 105, 118, 101, 76, 111, 99, 97, 116, 105, 111, 110] [33, 93, 33], fD [97, 114, 103, 115] [95, 95, 73, 110, 112, 117, 116, 86, 97, 108, 117, 101] [33, 93, 33], fD [105, 115, 82, 101, 112, 101, 97, 116, 97, 98, 108, 101] [66, 111, 111, 108, 101, 97, 110] [33]]
def gd6 : DefD := obD [95, 95, 68, 105, 114, 101, 99, 116, 105, 118, 101] gf6
def ge7 : List Txt := [[81, 85, 69, 82, 89], [77, 85, 84, 65, 84, 73, 79, 78], [83, 85, 66, 83, 67, 82, 73, 80, 84, 73, 79, 78], [70, 73, 69, 76, 68], [70, 82, 65, 71, 77, 69, 78, 84, 95, 68, 69, 70, 73, 78, 73, 84, 73, 79, 78], [70, 82, 65, 71, 77, 69, 78, 84, 95, 83, 80, 82, 69, 65, 68], [73, 78, 76, 73, 78, 69, 95, 70, 82, 65, 71, 77, 69, 78, 84], [86, 65, 82, 73, 65, 66, 76, 69, 95, 68, 69, 70, 73, 78, 73, 84, 73, 79, 78], [83, 67, 72, 69, 77, 65], [83, 67, 65, 76, 65, 82], [79, 66, 74, 69, 67, 84], [70, 73, 69, 76, 68, 95, 68, 69, 70, 73, 78, 73, 84, 73, 79, 78], [65, 82, 71, 85, 77, 69, 78, 84, 95, 68, 69, 70, 73, 78, 73, 84, 73, 79, 78], [73, 78, 84, 69, 82, 70, 65, 67, 69], [85, 78, 73, 79, 78], [69, 78, 85, 77], [69, 78, 85, 77, 95, 86, 65, 76, 85, 69], [73, 78, 80, 85, 84, 95, 79, 66, 74, 69, 67, 84], [73, 78, 80, 85, 84, 95, 70, 73, 69, 76, 68, 95, 68, 69, 70, 73, 78, 73, 84, 73, 79, 78]]
def gd7 : DefD := enD [95, 95, 68, 105, 114, 101, 99, 116, 105, 118, 101, 76, 111, 99, 97, 116, 105, 111, 110] ge7
def givenT : List DefD := scalT.map scD ++ [gd0, gd1, gd2, gd3, gd4, gd5, gd6, gd7]
theorem hv_of {K : World} {v : Value} (h : RD K (.list (5 + 8) (defsL (scalT.map scD) ++ defsL [gd0, gd1, gd2, gd3, gd4, gd5, gd6, gd7])) v) : RD K (.list givenT.length (defsL givenT)) v := by
 rw [show givenT.length = 5 + 8 from rfl, show defsL givenT = defsL (scalT.map scD) ++ defsL [gd0, gd1, gd2, gd3, gd4, gd5, gd6, gd7] from by unfold givenT defsL; rw [List.flatMap_append]]
 exact h
def BtP (l : List DefD) (w0 K : World) (M : List Ent) (e : Ending) (w' : World) : Prop :=
 ∃ K' A c, e = .returned (.slice A l.length c) ∧ Sat K' K ∧ Hp w0 w' K' M ∧ RD K' (.list l.length (defsL l)) (.slice A l.length c)
set_option maxHeartbeats 16000000 in
theorem builtTypes_hp (w0 w K : World) (M : List Ent) (H : Hp w0 w K M) :
  Calls Tryz.prog 56 #[] w (BtP givenT w0 K M) := by
 obtain ⟨k0, hk0, k0z, k0s, k0b⟩ := info_parts def_info
 have hK := Sat.refl K
 go_enter Tryz.func56, Tryz.ntmps56
 go_upto_region 3 with (first
  | (refine buildSlice_hp (by rfl) 27 9 5 _ (by rfl) (some 4) (by rfl) Tryz.underlying27 [.string ⟨#[73, 110, 116]⟩, .string ⟨#[70, 108, 111, 97, 116]⟩, .string ⟨#[83, 116, 114, 105, 110, 103]⟩, .string ⟨#[66, 111, 111, 108, 101, 97, 110]⟩, .string ⟨#[73, 68]⟩] (by kernel_rfl) H ?_; clear H; intro w1 g4 H; obtain ⟨K4, hle2, H, h4⟩ := H.freezeBox (n := 5) (ls := textsL scalT) ((rt_s (rt_s (rt_s (rt_s (rt_s RL.z)))))) (by simp only [maxLen]; omega); replace hK := hle2.trans hK))
 go_wp2_with fail
 go_loopw [1, 6] (fun v i wr => ∃ (k : Nat) (vs : List Value), k ≤ 5 ∧ i = .int .i64 k ∧ Hp w0 wr K4 (.row 43 17 v k vs :: M) ∧ RL K4 (defsL ((scalT.take k).map scD)) vs) (fun _ i _ => 5 - (intOf i).toNat)
 case atStart => exact ⟨0, [], Nat.zero_le _, rfl, H.nilRow 43 17, RL.z⟩
 case round =>
  clear H
  obtain ⟨k, vs, hk, rfl, H, hvs⟩ := hrel
  obtain ⟨Av, cv, rfl, _, _⟩ := H.slice (i := 0) rfl
  by_cases hlt : k < 5
  · have hkI : (k : Int) < 5 := by omega
    obtain ⟨x, hx⟩ : ∃ x, scalT[k]? = some x := ⟨_, List.getElem?_eq_getElem (by simpa [scalT] using hlt)⟩
    have HE := hide (take_next hx)
    obtain ⟨ad, hAd, hc⟩ := elem_text H h4 hx
    injection hAd with hAd
    subst hAd
    rw [addr0] at hc
    clear hx
    go_upto_region 5 with (fail)
    go_upto_region 6 with (first
     | (refine buildSlice_hp (by rfl) 22 43 1 _ (by rfl) (some 13) (by rfl) Tryz.underlying22 [.int .i64 2, .bool false, .bool false, .bool false, .string ⟨#[]⟩, .string (str x), .slice none 0 0, .slice none 0 0, .slice none 0 0, .slice none 0 0, .slice none 0 0, .slice none 0 0, .slice none 0 0, .bool false, .slice none 0 0, .int .i64 0, .int .i64 0] (by kernel_rfl) H ?_; clear H; intro w3 g13 H)
     | (at_builtin; refine append_hp (by rfl) _ _ 22 (by rfl) 43 k0 _ 17 272 Tryz.underlying22 hk0 k0z k0s k0b (by rfl) (by decide) H 1 (.slice Av k cv) (k) (vs) (by rfl) (by first | rfl | simp [Act.eval, Act.put]) (some ⟨g13, 0, none⟩) 1 1 [.int .i64 2, .bool false, .bool false, .bool false, .string ⟨#[]⟩, .string (str x), .slice none 0 0, .slice none 0 0, .slice none 0 0, .slice none 0 0, .slice none 0 0, .slice none 0 0, .slice none 0 0, .bool false, .slice none 0 0, .int .i64 0, .int .i64 0] (by first | rfl | simp [Act.eval, Act.put]) (by rfl) (H.rd (i := 0) rfl) (by simp [Value.oneCell']) (by simp only [maxLen]; omega) (by omega) ?_; clear H; intro V2 w2 H; replace H : Hp w0 w2 K4 (.box g13 [.int .i64 2, .bool false, .bool false, .bool false, .string ⟨#[]⟩, .string (str x), .slice none 0 0, .slice none 0 0, .slice none 0 0, .slice none 0 0, .slice none 0 0, .slice none 0 0, .slice none 0 0, .bool false, .slice none 0 0, .int .i64 0, .int .i64 0] 43 :: .row 43 17 (V2) (k + 1) (vs ++ [.int .i64 2, .bool false, .bool false, .bool false, .string ⟨#[]⟩, .string (str x), .slice none 0 0, .slice none 0 0, .slice none 0 0, .slice none 0 0, .slice none 0 0, .slice none 0 0, .slice none 0 0, .bool false, .slice none 0 0, .int .i64 0, .int .i64 0]) :: M) := H; obtain ⟨V2A, V2c, rfl, V2l, V2m⟩ := H.slice (i := 1) rfl))
    replace H := H.sub (List.Sublist.cons _ (List.Sublist.cons_cons _ (List.Sublist.refl _)))
    go_wp2_with fail
    go_roundw
    case rel => exact ⟨k + 1, _, by omega, by go_num, H, by rw [HE.out]; exact scs_snoc hvs⟩
    case measure => simp [intOf]; omega
  · obtain rfl : 5 = k := by omega
    have htk : scalT.take 5 = scalT := rfl
    rw [htk] at hvs
    clear htk
    go_upto_region 7 with (fail)
    have tk4 : True := trivial
    have tk12 : True := trivial
    have tk17 : True := trivial
    have tk28 : True := trivial
    go_wp2_with (first
     | (go_at_call 101; have tk_ := tk4; clear tk_ tk4; have tk5 : True := trivial; refine (field_hp _ _ _ _ _ _ _ H).mono ?_; clear H; rintro e x1 ⟨rfl, H⟩)
     | (go_at_call 101; have tk_ := tk5; clear tk_ tk5; have tk6 : True := trivial; refine (field_hp _ _ _ _ _ _ _ H).mono ?_; clear H; rintro e x2 ⟨rfl, H⟩)
     | (go_at_call 101; have tk_ := tk6; clear tk_ tk6; have tk7 : True := trivial; refine (field_hp _ _ _ _ _ _ _ H).mono ?_; clear H; rintro e x3 ⟨rfl, H⟩)
     | (go_at_call 101; have tk_ := tk7; clear tk_ tk7; have tk8 : True := trivial; refine (field_hp _ _ _ _ _ _ _ H).mono ?_; clear H; rintro e x4 ⟨rfl, H⟩)
     | (go_at_call 101; have tk_ := tk8; clear tk_ tk8; have tk9 : True := trivial; refine (field_hp _ _ _ _ _ _ _ H).mono ?_; clear H; rintro e x5 ⟨rfl, H⟩)
     | (go_at_call 101; have tk_ := tk9; clear tk_ tk9; have tk13 : True := trivial; refine (field_hp _ _ _ _ _ _ _ H).mono ?_; clear H; rintro e x6 ⟨rfl, H⟩)
     | (refine buildSlice_hp (by rfl) 36 52 6 _ (by rfl) (some 23) (by rfl) Tryz.underlying36 [.bool false, .bool false, .string ⟨#[]⟩, .string ⟨#[100, 101, 115, 99, 114, 105, 112, 116, 105, 111, 110]⟩, .slice none 0 0, .string ⟨#[83, 116, 114, 105, 110, 103]⟩, .string ⟨#[]⟩, .slice none 0 0, .int .i64 0, .int .i64 0, .bool false, .bool false, .string ⟨#[]⟩, .string ⟨#[116, 121, 112, 101, 115]⟩, .slice none 0 0, .string ⟨#[95, 95, 84, 121, 112, 101]⟩, .string ⟨#[33, 93, 33]⟩, .slice none 0 0, .int .i64 0, .int .i64 0, .bool false, .bool false, .string ⟨#[]⟩, .string ⟨#[113, 117, 101, 114, 121, 84, 121, 112, 101]⟩, .slice none 0 0, .string ⟨#[95, 95, 84, 121, 112, 101]⟩, .string ⟨#[33]⟩, .slice none 0 0, .int .i64 0, .int .i64 0, .bool false, .bool false, .string ⟨#[]⟩, .string ⟨#[109, 117, 116, 97, 116, 105, 111, 110, 84, 121, 112, 101]⟩, .slice none 0 0, .string ⟨#[95, 95, 84, 121, 112, 101]⟩, .string ⟨#[]⟩, .slice none 0 0, .int .i64 0, .int .i64 0, .bool false, .bool false, .string ⟨#[]⟩, .string ⟨#[115, 117, 98, 115, 99, 114, 105, 112, 116, 105, 111, 110, 84, 121, 112, 101]⟩, .slice none 0 0, .string ⟨#[95, 95, 84, 121, 112, 101]⟩, .string ⟨#[]⟩, .slice none 0 0, .int .i64 0, .int .i64 0, .bool false, .bool false, .string ⟨#[]⟩, .string ⟨#[100, 105, 114, 101, 99, 116, 105, 118, 101, 115]⟩, .slice none 0 0, .string ⟨#[95, 95, 68, 105, 114, 101, 99, 116, 105, 118, 101]⟩, .string ⟨#[33, 93, 33]⟩, .slice none 0 0, .int .i64 0, .int .i64 0] (by kernel_rfl) H ?_; clear H; intro w10 g23 H; obtain ⟨K23, hle11, H, hf0⟩ := H.freezeBox (n := 6) (ls := fieldsL gf0) ((rf_f (rf_f (rf_f (rf_f (rf_f (rf_f (RL.z)))))))) (by simp only [maxLen]; omega); replace h4 := h4.sat hle11; replace hvs := hvs.sat hle11; replace hK := hle11.trans hK)
     | (go_at_call 100; have tk_ := tk12; clear tk_ tk12; have tk25 : True := trivial; refine (object_hp _ _ _ _ _ _ _ _ H).mono ?_; clear H; rintro e x7 ⟨rfl, H⟩)
     | (go_at_call 101; have tk_ := tk13; clear tk_ tk13; have tk14 : True := trivial; refine (field_hp _ _ _ _ _ _ _ H).mono ?_; clear H; rintro e x8 ⟨rfl, H⟩)
     | (go_at_call 101; have tk_ := tk14; clear tk_ tk14; have tk15 : True := trivial; refine (field_hp _ _ _ _ _ _ _ H).mono ?_; clear H; rintro e x9 ⟨rfl, H⟩)
     | (go_at_call 101; have tk_ := tk15; clear tk_ tk15; have tk16 : True := trivial; refine (field_hp _ _ _ _ _ _ _ H).mono ?_; clear H; rintro e x10 ⟨rfl, H⟩)
     | (go_at_call 101; have tk_ := tk16; clear tk_ tk16; have tk18 : True := trivial; refine (field_hp _ _ _ _ _ _ _ H).mono ?_; clear H; rintro e x11 ⟨rfl, H⟩)
     | (go_at_call 102; have tk_ := tk17; clear tk_ tk17; have tk20 : True := trivial; refine (all_hp _ _ _ _ _ _ H).mono ?_; clear H; rintro e x12 ⟨K29, B29, rfl, hle29, H, hin29⟩; replace h4 := h4.sat hle29; replace hvs := hvs.sat hle29; replace hf0 := hf0.sat hle29; replace hK := hle29.trans hK)
     | (go_at_call 101; have tk_ := tk18; clear tk_ tk18; have tk19 : True := trivial; refine (field_hp _ _ _ _ _ _ _ H).mono ?_; clear H; rintro e x13 ⟨rfl, H⟩)
     | (go_at_call 101; have tk_ := tk19; clear tk_ tk19; have tk21 : True := trivial; refine (field_hp _ _ _ _ _ _ _ H).mono ?_; clear H; rintro e x14 ⟨rfl, H⟩)
     | (go_at_call 102; have tk_ := tk20; clear tk_ tk20; refine (all_hp _ _ _ _ _ _ H).mono ?_; clear H; rintro e x15 ⟨K32, B32, rfl, hle32, H, hin32⟩; replace h4 := h4.sat hle32; replace hvs := hvs.sat hle32; replace hf0 := hf0.sat hle32; replace hin29 := hin29.sat hle32; replace hK := hle32.trans hK)
     | (go_at_call 101; have tk_ := tk21; clear tk_ tk21; have tk22 : True := trivial; refine (field_hp _ _ _ _ _ _ _ H).mono ?_; clear H; rintro e x16 ⟨rfl, H⟩)
     | (go_at_call 101; have tk_ := tk22; clear tk_ tk22; have tk29 : True := trivial; refine (field_hp _ _ _ _ _ _ _ H).mono ?_; clear H; rintro e x17 ⟨rfl, H⟩)
     | (refine buildSlice_hp (by rfl) 36 52 10 _ (by rfl) (some 35) (by rfl) Tryz.underlying36 [.bool false, .bool false, .string ⟨#[]⟩, .string ⟨#[107, 105, 110, 100]⟩, .slice none 0 0, .string ⟨#[95, 95, 84, 121, 112, 101, 75, 105, 110, 100]⟩, .string ⟨#[33]⟩, .slice none 0 0, .int .i64 0, .int .i64 0, .bool false, .bool false, .string ⟨#[]⟩, .string ⟨#[110, 97, 109, 101]⟩, .slice none 0 0, .string ⟨#[83, 116, 114, 105, 110, 103]⟩, .string ⟨#[]⟩, .slice none 0 0, .int .i64 0, .int .i64 0, .bool false, .bool false, .string ⟨#[]⟩, .string ⟨#[100, 101, 115, 99, 114, 105, 112, 116, 105, 111, 110]⟩, .slice none 0 0, .string ⟨#[83, 116, 114, 105, 110, 103]⟩, .string ⟨#[]⟩, .slice none 0 0, .int .i64 0, .int .i64 0, .bool false, .bool false, .string ⟨#[]⟩, .string ⟨#[115, 112, 101, 99, 105, 102, 105, 101, 100, 66, 121, 85, 82, 76]⟩, .slice none 0 0, .string ⟨#[83, 116, 114, 105, 110, 103]⟩, .string ⟨#[]⟩, .slice none 0 0, .int .i64 0, .int .i64 0, .bool false, .bool false, .string ⟨#[]⟩, .string ⟨#[102, 105, 101, 108, 100, 115]⟩, .slice (some B29) 1 1, .string ⟨#[95, 95, 70, 105, 101, 108, 100]⟩, .string ⟨#[33, 93]⟩, .slice none 0 0, .int .i64 0, .int .i64 0, .bool false, .bool false, .string ⟨#[]⟩, .string ⟨#[105, 110, 116, 101, 114, 102, 97, 99, 101, 115]⟩, .slice none 0 0, .string ⟨#[95, 95, 84, 121, 112, 101]⟩, .string ⟨#[33, 93]⟩, .slice none 0 0, .int .i64 0, .int .i64 0, .bool false, .bool false, .string ⟨#[]⟩, .string ⟨#[112, 111, 115, 115, 105, 98, 108, 101, 84, 121, 112, 101, 115]⟩, .slice none 0 0, .string ⟨#[95, 95, 84, 121, 112, 101]⟩, .string ⟨#[33, 93]⟩, .slice none 0 0, .int .i64 0, .int .i64 0, .bool false, .bool false, .string ⟨#[]⟩, .string ⟨#[101, 110, 117, 109, 86, 97, 108, 117, 101, 115]⟩, .slice (some B32) 1 1, .string ⟨#[95, 95, 69, 110, 117, 109, 86, 97, 108, 117, 101]⟩, .string ⟨#[33, 93]⟩, .slice none 0 0, .int .i64 0, .int .i64 0, .bool false, .bool false, .string ⟨#[]⟩, .string ⟨#[105, 110, 112, 117, 116, 70, 105, 101, 108, 100, 115]⟩, .slice none 0 0, .string ⟨#[95, 95, 73, 110, 112, 117, 116, 86, 97, 108, 117, 101]⟩, .string ⟨#[33, 93]⟩, .slice none 0 0, .int .i64 0, .int .i64 0, .bool false, .bool false, .string ⟨#[]⟩, .string ⟨#[111, 102, 84, 121, 112, 101]⟩, .slice none 0 0, .string ⟨#[95, 95, 84, 121, 112, 101]⟩, .string ⟨#[]⟩, .slice none 0 0, .int .i64 0, .int .i64 0] (by kernel_rfl) H ?_; clear H; intro w23 g35 H; obtain ⟨K35, hle24, H, hf1⟩ := H.freezeBox (n := 10) (ls := fieldsL gf1) ((rf_f (rf_f (rf_f (rf_f (rf_a (hi := hin29) (rf_f (rf_f (rf_a (hi := hin32) (rf_f (rf_f (RL.z)))))))))))) (by simp only [maxLen]; omega); replace h4 := h4.sat hle24; replace hvs := hvs.sat hle24; replace hf0 := hf0.sat hle24; replace hin29 := hin29.sat hle24; replace hin32 := hin32.sat hle24; replace hK := hle24.trans hK)
     | (go_at_call 100; have tk_ := tk25; clear tk_ tk25; have tk37 : True := trivial; refine (object_hp _ _ _ _ _ _ _ _ H).mono ?_; clear H; rintro e x18 ⟨rfl, H⟩)
     | (refine buildSlice_hp (by rfl) 27 9 8 _ (by rfl) (some 37) (by rfl) Tryz.underlying27 [.string ⟨#[83, 67, 65, 76, 65, 82]⟩, .string ⟨#[79, 66, 74, 69, 67, 84]⟩, .string ⟨#[73, 78, 84, 69, 82, 70, 65, 67, 69]⟩, .string ⟨#[85, 78, 73, 79, 78]⟩, .string ⟨#[69, 78, 85, 77]⟩, .string ⟨#[73, 78, 80, 85, 84, 95, 79, 66, 74, 69, 67, 84]⟩, .string ⟨#[76, 73, 83, 84]⟩, .string ⟨#[78, 79, 78, 95, 78, 85, 76, 76]⟩] (by kernel_rfl) H ?_; clear H; intro w26 g37 H; obtain ⟨K37, hle27, H, ht2⟩ := H.freezeBox (n := 8) (ls := textsL ge2) ((rt_s (rt_s (rt_s (rt_s (rt_s (rt_s (rt_s (rt_s (RL.z)))))))))) (by simp only [maxLen]; omega); replace h4 := h4.sat hle27; replace hvs := hvs.sat hle27; replace hf0 := hf0.sat hle27; replace hin29 := hin29.sat hle27; replace hin32 := hin32.sat hle27; replace hf1 := hf1.sat hle27; replace hK := hle27.trans hK)
     | (go_at_call 103; have tk_ := tk28; clear tk_ tk28; have tk62 : True := trivial; refine (enum_hp _ ge2 8 8 _ _ _ _ _ H rfl (by omega) ht2).mono ?_; clear H; rintro e x19 ⟨K38, B38, c38, rfl, hle38, H, hf2⟩; replace h4 := h4.sat hle38; replace hvs := hvs.sat hle38; replace hf0 := hf0.sat hle38; replace hin29 := hin29.sat hle38; replace hin32 := hin32.sat hle38; replace hf1 := hf1.sat hle38; replace ht2 := ht2.sat hle38; replace hK := hle38.trans hK)
     | (go_at_call 101; have tk_ := tk29; clear tk_ tk29; have tk30 : True := trivial; refine (field_hp _ _ _ _ _ _ _ H).mono ?_; clear H; rintro e x20 ⟨rfl, H⟩)
     | (go_at_call 101; have tk_ := tk30; clear tk_ tk30; have tk31 : True := trivial; refine (field_hp _ _ _ _ _ _ _ H).mono ?_; clear H; rintro e x21 ⟨rfl, H⟩)
     | (go_at_call 101; have tk_ := tk31; clear tk_ tk31; have tk32 : True := trivial; refine (field_hp _ _ _ _ _ _ _ H).mono ?_; clear H; rintro e x22 ⟨rfl, H⟩)
     | (go_at_call 101; have tk_ := tk32; clear tk_ tk32; have tk33 : True := trivial; refine (field_hp _ _ _ _ _ _ _ H).mono ?_; clear H; rintro e x23 ⟨rfl, H⟩)
     | (go_at_call 101; have tk_ := tk33; clear tk_ tk33; have tk34 : True := trivial; refine (field_hp _ _ _ _ _ _ _ H).mono ?_; clear H; rintro e x24 ⟨rfl, H⟩)
     | (go_at_call 101; have tk_ := tk34; clear tk_ tk34; have tk38 : True := trivial; refine (field_hp _ _ _ _ _ _ _ H).mono ?_; clear H; rintro e x25 ⟨rfl, H⟩)
     | (refine buildSlice_hp (by rfl) 36 52 6 _ (by rfl) (some 45) (by rfl) Tryz.underlying36 [.bool false, .bool false, .string ⟨#[]⟩, .string ⟨#[110, 97, 109, 101]⟩, .slice none 0 0, .string ⟨#[83, 116, 114, 105, 110, 103]⟩, .string ⟨#[33]⟩, .slice none 0 0, .int .i64 0, .int .i64 0, .bool false, .bool false, .string ⟨#[]⟩, .string ⟨#[100, 101, 115, 99, 114, 105, 112, 116, 105, 111, 110]⟩, .slice none 0 0, .string ⟨#[83, 116, 114, 105, 110, 103]⟩, .string ⟨#[]⟩, .slice none 0 0, .int .i64 0, .int .i64 0, .bool false, .bool false, .string ⟨#[]⟩, .string ⟨#[97, 114, 103, 115]⟩, .slice none 0 0, .string ⟨#[95, 95, 73, 110, 112, 117, 116, 86, 97, 108, 117, 101]⟩, .string ⟨#[33, 93, 33]⟩, .slice none 0 0, .int .i64 0, .int .i64 0, .bool false, .bool false, .string ⟨#[]⟩, .string ⟨#[116, 121, 112, 101]⟩, .slice none 0 0, .string ⟨#[95, 95, 84, 121, 112, 101]⟩, .string ⟨#[33]⟩, .slice none 0 0, .int .i64 0, .int .i64 0, .bool false, .bool false, .string ⟨#[]⟩, .string ⟨#[105, 115, 68, 101, 112, 114, 101, 99, 97, 116, 101, 100]⟩, .slice none 0 0, .string ⟨#[66, 111, 111, 108, 101, 97, 110]⟩, .string ⟨#[33]⟩, .slice none 0 0, .int .i64 0, .int .i64 0, .bool false, .bool false, .string ⟨#[]⟩, .string ⟨#[100, 101, 112, 114, 101, 99, 97, 116, 105, 111, 110, 82, 101, 97, 115, 111, 110]⟩, .slice none 0 0, .string ⟨#[83, 116, 114, 105, 110, 103]⟩, .string ⟨#[]⟩, .slice none 0 0, .int .i64 0, .int .i64 0] (by kernel_rfl) H ?_; clear H; intro w35 g45 H; obtain ⟨K45, hle36, H, hf3⟩ := H.freezeBox (n := 6) (ls := fieldsL gf3) ((rf_f (rf_f (rf_f (rf_f (rf_f (rf_f (RL.z)))))))) (by simp only [maxLen]; omega); replace h4 := h4.sat hle36; replace hvs := hvs.sat hle36; replace hf0 := hf0.sat hle36; replace hin29 := hin29.sat hle36; replace hin32 := hin32.sat hle36; replace hf1 := hf1.sat hle36; replace ht2 := ht2.sat hle36; replace hf2 := hf2.sat hle36; replace hK := hle36.trans hK)
     | (go_at_call 100; have tk_ := tk37; clear tk_ tk37; have tk44 : True := trivial; refine (object_hp _ _ _ _ _ _ _ _ H).mono ?_; clear H; rintro e x26 ⟨rfl, H⟩)
     | (go_at_call 101; have tk_ := tk38; clear tk_ tk38; have tk39 : True := trivial; refine (field_hp _ _ _ _ _ _ _ H).mono ?_; clear H; rintro e x27 ⟨rfl, H⟩)
     | (go_at_call 101; have tk_ := tk39; clear tk_ tk39; have tk40 : True := trivial; refine (field_hp _ _ _ _ _ _ _ H).mono ?_; clear H; rintro e x28 ⟨rfl, H⟩)
     | (go_at_call 101; have tk_ := tk40; clear tk_ tk40; have tk41 : True := trivial; refine (field_hp _ _ _ _ _ _ _ H).mono ?_; clear H; rintro e x29 ⟨rfl, H⟩)
     | (go_at_call 101; have tk_ := tk41; clear tk_ tk41; have tk45 : True := trivial; refine (field_hp _ _ _ _ _ _ _ H).mono ?_; clear H; rintro e x30 ⟨rfl, H⟩)
     | (refine buildSlice_hp (by rfl) 36 52 4 _ (by rfl) (some 51) (by rfl) Tryz.underlying36 [.bool false, .bool false, .string ⟨#[]⟩, .string ⟨#[110, 97, 109, 101]⟩, .slice none 0 0, .string ⟨#[83, 116, 114, 105, 110, 103]⟩, .string ⟨#[33]⟩, .slice none 0 0, .int .i64 0, .int .i64 0, .bool false, .bool false, .string ⟨#[]⟩, .string ⟨#[100, 101, 115, 99, 114, 105, 112, 116, 105, 111, 110]⟩, .slice none 0 0, .string ⟨#[83, 116, 114, 105, 110, 103]⟩, .string ⟨#[]⟩, .slice none 0 0, .int .i64 0, .int .i64 0, .bool false, .bool false, .string ⟨#[]⟩, .string ⟨#[116, 121, 112, 101]⟩, .slice none 0 0, .string ⟨#[95, 95, 84, 121, 112, 101]⟩, .string ⟨#[33]⟩, .slice none 0 0, .int .i64 0, .int .i64 0, .bool false, .bool false, .string ⟨#[]⟩, .string ⟨#[100, 101, 102, 97, 117, 108, 116, 86, 97, 108, 117, 101]⟩, .slice none 0 0, .string ⟨#[83, 116, 114, 105, 110, 103]⟩, .string ⟨#[]⟩, .slice none 0 0, .int .i64 0, .int .i64 0] (by kernel_rfl) H ?_; clear H; intro w42 g51 H; obtain ⟨K51, hle43, H, hf4⟩ := H.freezeBox (n := 4) (ls := fieldsL gf4) ((rf_f (rf_f (rf_f (rf_f (RL.z)))))) (by simp only [maxLen]; omega); replace h4 := h4.sat hle43; replace hvs := hvs.sat hle43; replace hf0 := hf0.sat hle43; replace hin29 := hin29.sat hle43; replace hin32 := hin32.sat hle43; replace hf1 := hf1.sat hle43; replace ht2 := ht2.sat hle43; replace hf2 := hf2.sat hle43; replace hf3 := hf3.sat hle43; replace hK := hle43.trans hK)
     | (go_at_call 100; have tk_ := tk44; clear tk_ tk44; have tk51 : True := trivial; refine (object_hp _ _ _ _ _ _ _ _ H).mono ?_; clear H; rintro e x31 ⟨rfl, H⟩)
     | (go_at_call 101; have tk_ := tk45; clear tk_ tk45; have tk46 : True := trivial; refine (field_hp _ _ _ _ _ _ _ H).mono ?_; clear H; rintro e x32 ⟨rfl, H⟩)
     | (go_at_call 101; have tk_ := tk46; clear tk_ tk46; have tk47 : True := trivial; refine (field_hp _ _ _ _ _ _ _ H).mono ?_; clear H; rintro e x33 ⟨rfl, H⟩)
     | (go_at_call 101; have tk_ := tk47; clear tk_ tk47; have tk48 : True := trivial; refine (field_hp _ _ _ _ _ _ _ H).mono ?_; clear H; rintro e x34 ⟨rfl, H⟩)
     | (go_at_call 101; have tk_ := tk48; clear tk_ tk48; have tk52 : True := trivial; refine (field_hp _ _ _ _ _ _ _ H).mono ?_; clear H; rintro e x35 ⟨rfl, H⟩)
     | (refine buildSlice_hp (by rfl) 36 52 4 _ (by rfl) (some 57) (by rfl) Tryz.underlying36 [.bool false, .bool false, .string ⟨#[]⟩, .string ⟨#[110, 97, 109, 101]⟩, .slice none 0 0, .string ⟨#[83, 116, 114, 105, 110, 103]⟩, .string ⟨#[33]⟩, .slice none 0 0, .int .i64 0, .int .i64 0, .bool false, .bool false, .string ⟨#[]⟩, .string ⟨#[100, 101, 115, 99, 114, 105, 112, 116, 105, 111, 110]⟩, .slice none 0 0, .string ⟨#[83, 116, 114, 105, 110, 103]⟩, .string ⟨#[]⟩, .slice none 0 0, .int .i64 0, .int .i64 0, .bool false, .bool false, .string ⟨#[]⟩, .string ⟨#[105, 115, 68, 101, 112, 114, 101, 99, 97, 116, 101, 100]⟩, .slice none 0 0, .string ⟨#[66, 111, 111, 108, 101, 97, 110]⟩, .string ⟨#[33]⟩, .slice none 0 0, .int .i64 0, .int .i64 0, .bool false, .bool false, .string ⟨#[]⟩, .string ⟨#[100, 101, 112, 114, 101, 99, 97, 116, 105, 111, 110, 82, 101, 97, 115, 111, 110]⟩, .slice none 0 0, .string ⟨#[83, 116, 114, 105, 110, 103]⟩, .string ⟨#[]⟩, .slice none 0 0, .int .i64 0, .int .i64 0] (by kernel_rfl) H ?_; clear H; intro w49 g57 H; obtain ⟨K57, hle50, H, hf5⟩ := H.freezeBox (n := 4) (ls := fieldsL gf5) ((rf_f (rf_f (rf_f (rf_f (RL.z)))))) (by simp only [maxLen]; omega); replace h4 := h4.sat hle50; replace hvs := hvs.sat hle50; replace hf0 := hf0.sat hle50; replace hin29 := hin29.sat hle50; replace hin32 := hin32.sat hle50; replace hf1 := hf1.sat hle50; replace ht2 := ht2.sat hle50; replace hf2 := hf2.sat hle50; replace hf3 := hf3.sat hle50; replace hf4 := hf4.sat hle50; replace hK := hle50.trans hK)
     | (go_at_call 100; have tk_ := tk51; clear tk_ tk51; have tk59 : True := trivial; refine (object_hp _ _ _ _ _ _ _ _ H).mono ?_; clear H; rintro e x36 ⟨rfl, H⟩)
     | (go_at_call 101; have tk_ := tk52; clear tk_ tk52; have tk53 : True := trivial; refine (field_hp _ _ _ _ _ _ _ H).mono ?_; clear H; rintro e x37 ⟨rfl, H⟩)
     | (go_at_call 101; have tk_ := tk53; clear tk_ tk53; have tk54 : True := trivial; refine (field_hp _ _ _ _ _ _ _ H).mono ?_; clear H; rintro e x38 ⟨rfl, H⟩)
     | (go_at_call 101; have tk_ := tk54; clear tk_ tk54; have tk55 : True := trivial; refine (field_hp _ _ _ _ _ _ _ H).mono ?_; clear H; rintro e x39 ⟨rfl, H⟩)
     | (go_at_call 101; have tk_ := tk55; clear tk_ tk55; have tk56 : True := trivial; refine (field_hp _ _ _ _ _ _ _ H).mono ?_; clear H; rintro e x40 ⟨rfl, H⟩)
     | (go_at_call 101; have tk_ := tk56; clear tk_ tk56; refine (field_hp _ _ _ _ _ _ _ H).mono ?_; clear H; rintro e x41 ⟨rfl, H⟩)
     | (refine buildSlice_hp (by rfl) 36 52 5 _ (by rfl) (some 64) (by rfl) Tryz.underlying36 [.bool false, .bool false, .string ⟨#[]⟩, .string ⟨#[110, 97, 109, 101]⟩, .slice none 0 0, .string ⟨#[83, 116, 114, 105, 110, 103]⟩, .string ⟨#[33]⟩, .slice none 0 0, .int .i64 0, .int .i64 0, .bool false, .bool false, .string ⟨#[]⟩, .string ⟨#[100, 101, 115, 99, 114, 105, 112, 116, 105, 111, 110]⟩, .slice none 0 0, .string ⟨#[83, 116, 114, 105, 110, 103]⟩, .string ⟨#[]⟩, .slice none 0 0, .int .i64 0, .int .i64 0, .bool false, .bool false, .string ⟨#[]⟩, .string ⟨#[108, 111, 99, 97, 116, 105, 111, 110, 115]⟩, .slice none 0 0, .string ⟨#[95, 95, 68, 105, 114, 101, 99, 116, 105, 118, 101, 76, 111, 99, 97, 116, 105, 111, 110]⟩, .string ⟨#[33, 93, 33]⟩, .slice none 0 0, .int .i64 0, .int .i64 0, .bool false, .bool false, .string ⟨#[]⟩, .string ⟨#[97, 114, 103, 115]⟩, .slice none 0 0, .string ⟨#[95, 95, 73, 110, 112, 117, 116, 86, 97, 108, 117, 101]⟩, .string ⟨#[33, 93, 33]⟩, .slice none 0 0, .int .i64 0, .int .i64 0, .bool false, .bool false, .string ⟨#[]⟩, .string ⟨#[105, 115, 82, 101, 112, 101, 97, 116, 97, 98, 108, 101]⟩, .slice none 0 0, .string ⟨#[66, 111, 111, 108, 101, 97, 110]⟩, .string ⟨#[33]⟩, .slice none 0 0, .int .i64 0, .int .i64 0] (by kernel_rfl) H ?_; clear H; intro w57 g64 H; obtain ⟨K64, hle58, H, hf6⟩ := H.freezeBox (n := 5) (ls := fieldsL gf6) ((rf_f (rf_f (rf_f (rf_f (rf_f (RL.z))))))) (by simp only [maxLen]; omega); replace h4 := h4.sat hle58; replace hvs := hvs.sat hle58; replace hf0 := hf0.sat hle58; replace hin29 := hin29.sat hle58; replace hin32 := hin32.sat hle58; replace hf1 := hf1.sat hle58; replace ht2 := ht2.sat hle58; replace hf2 := hf2.sat hle58; replace hf3 := hf3.sat hle58; replace hf4 := hf4.sat hle58; replace hf5 := hf5.sat hle58; replace hK := hle58.trans hK)
     | (go_at_call 100; have tk_ := tk59; clear tk_ tk59; refine (object_hp _ _ _ _ _ _ _ _ H).mono ?_; clear H; rintro e x42 ⟨rfl, H⟩)
     | (refine buildSlice_hp (by rfl) 27 9 19 _ (by rfl) (some 66) (by rfl) Tryz.underlying27 [.string ⟨#[81, 85, 69, 82, 89]⟩, .string ⟨#[77, 85, 84, 65, 84, 73, 79, 78]⟩, .string ⟨#[83, 85, 66, 83, 67, 82, 73, 80, 84, 73, 79, 78]⟩, .string ⟨#[70, 73, 69, 76, 68]⟩, .string ⟨#[70, 82, 65, 71, 77, 69, 78, 84, 95, 68, 69, 70, 73, 78, 73, 84, 73, 79, 78]⟩, .string ⟨#[70, 82, 65, 71, 77, 69, 78, 84, 95, 83, 80, 82, 69, 65, 68]⟩, .string ⟨#[73, 78, 76, 73, 78, 69, 95, 70, 82, 65, 71, 77, 69, 78, 84]⟩, .string ⟨#[86, 65, 82, 73, 65, 66, 76, 69, 95, 68, 69, 70, 73, 78, 73, 84, 73, 79, 78]⟩, .string ⟨#[83, 67, 72, 69, 77, 65]⟩, .string ⟨#[83, 67, 65, 76, 65, 82]⟩, .string ⟨#[79, 66, 74, 69, 67, 84]⟩, .string ⟨#[70, 73, 69, 76, 68, 95, 68, 69, 70, 73, 78, 73, 84, 73, 79, 78]⟩, .string ⟨#[65, 82, 71, 85, 77, 69, 78, 84, 95, 68, 69, 70, 73, 78, 73, 84, 73, 79, 78]⟩, .string ⟨#[73, 78, 84, 69, 82, 70, 65, 67, 69]⟩, .string ⟨#[85, 78, 73, 79, 78]⟩, .string ⟨#[69, 78, 85, 77]⟩, .string ⟨#[69, 78, 85, 77, 95, 86, 65, 76, 85, 69]⟩, .string ⟨#[73, 78, 80, 85, 84, 95, 79, 66, 74, 69, 67, 84]⟩, .string ⟨#[73, 78, 80, 85, 84, 95, 70, 73, 69, 76, 68, 95, 68, 69, 70, 73, 78, 73, 84, 73, 79, 78]⟩] (by kernel_rfl) H ?_; clear H; intro w60 g66 H; obtain ⟨K66, hle61, H, ht7⟩ := H.freezeBox (n := 19) (ls := textsL ge7) ((rt_s (rt_s (rt_s (rt_s (rt_s (rt_s (rt_s (rt_s (rt_s (rt_s (rt_s (rt_s (rt_s (rt_s (rt_s (rt_s (rt_s (rt_s (rt_s (RL.z))))))))))))))))))))) (by simp only [maxLen]; omega); replace h4 := h4.sat hle61; replace hvs := hvs.sat hle61; replace hf0 := hf0.sat hle61; replace hin29 := hin29.sat hle61; replace hin32 := hin32.sat hle61; replace hf1 := hf1.sat hle61; replace ht2 := ht2.sat hle61; replace hf2 := hf2.sat hle61; replace hf3 := hf3.sat hle61; replace hf4 := hf4.sat hle61; replace hf5 := hf5.sat hle61; replace hf6 := hf6.sat hle61; replace hK := hle61.trans hK)
     | (go_at_call 103; have tk_ := tk62; clear tk_ tk62; refine (enum_hp _ ge7 19 19 _ _ _ _ _ H rfl (by omega) ht7).mono ?_; clear H; rintro e x43 ⟨K67, B67, c67, rfl, hle67, H, hf7⟩; replace h4 := h4.sat hle67; replace hvs := hvs.sat hle67; replace hf0 := hf0.sat hle67; replace hin29 := hin29.sat hle67; replace hin32 := hin32.sat hle67; replace hf1 := hf1.sat hle67; replace ht2 := ht2.sat hle67; replace hf2 := hf2.sat hle67; replace hf3 := hf3.sat hle67; replace hf4 := hf4.sat hle67; replace hf5 := hf5.sat hle67; replace hf6 := hf6.sat hle67; replace ht7 := ht7.sat hle67; replace hK := hle67.trans hK)
     | (refine buildSlice_hp (by rfl) 22 43 8 _ (by rfl) (some 68) (by rfl) Tryz.underlying22 [.int .i64 3, .bool false, .bool false, .bool false, .string ⟨#[]⟩, .string ⟨#[95, 95, 83, 99, 104, 101, 109, 97]⟩, .slice none 0 0, .slice none 0 0, .slice (some ⟨g23, 0, none⟩) 6 6, .slice none 0 0, .slice none 0 0, .slice none 0 0, .slice none 0 0, .bool false, .slice none 0 0, .int .i64 0, .int .i64 0, .int .i64 3, .bool false, .bool false, .bool false, .string ⟨#[]⟩, .string ⟨#[95, 95, 84, 121, 112, 101]⟩, .slice none 0 0, .slice none 0 0, .slice (some ⟨g35, 0, none⟩) 10 10, .slice none 0 0, .slice none 0 0, .slice none 0 0, .slice none 0 0, .bool false, .slice none 0 0, .int .i64 0, .int .i64 0, .int .i64 6, .bool false, .bool false, .bool false, .string ⟨#[]⟩, .string ⟨#[95, 95, 84, 121, 112, 101, 75, 105, 110, 100]⟩, .slice none 0 0, .slice none 0 0, .slice none 0 0, .slice none 0 0, .slice none 0 0, .slice B38 8 c38, .slice none 0 0, .bool false, .slice none 0 0, .int .i64 0, .int .i64 0, .int .i64 3, .bool false, .bool false, .bool false, .string ⟨#[]⟩, .string ⟨#[95, 95, 70, 105, 101, 108, 100]⟩, .slice none 0 0, .slice none 0 0, .slice (some ⟨g45, 0, none⟩) 6 6, .slice none 0 0, .slice none 0 0, .slice none 0 0, .slice none 0 0, .bool false, .slice none 0 0, .int .i64 0, .int .i64 0, .int .i64 3, .bool false, .bool false, .bool false, .string ⟨#[]⟩, .string ⟨#[95, 95, 73, 110, 112, 117, 116, 86, 97, 108, 117, 101]⟩, .slice none 0 0, .slice none 0 0, .slice (some ⟨g51, 0, none⟩) 4 4, .slice none 0 0, .slice none 0 0, .slice none 0 0, .slice none 0 0, .bool false, .slice none 0 0, .int .i64 0, .int .i64 0, .int .i64 3, .bool false, .bool false, .bool false, .string ⟨#[]⟩, .string ⟨#[95, 95, 69, 110, 117, 109, 86, 97, 108, 117, 101]⟩, .slice none 0 0, .slice none 0 0, .slice (some ⟨g57, 0, none⟩) 4 4, .slice none 0 0, .slice none 0 0, .slice none 0 0, .slice none 0 0, .bool false, .slice none 0 0, .int .i64 0, .int .i64 0, .int .i64 3, .bool false, .bool false, .bool false, .string ⟨#[]⟩, .string ⟨#[95, 95, 68, 105, 114, 101, 99, 116, 105, 118, 101]⟩, .slice none 0 0, .slice none 0 0, .slice (some ⟨g64, 0, none⟩) 5 5, .slice none 0 0, .slice none 0 0, .slice none 0 0, .slice none 0 0, .bool false, .slice none 0 0, .int .i64 0, .int .i64 0, .int .i64 6, .bool false, .bool false, .bool false, .string ⟨#[]⟩, .string ⟨#[95, 95, 68, 105, 114, 101, 99, 116, 105, 118, 101, 76, 111, 99, 97, 116, 105, 111, 110]⟩, .slice none 0 0, .slice none 0 0, .slice none 0 0, .slice none 0 0, .slice none 0 0, .slice B67 19 c67, .slice none 0 0, .bool false, .slice none 0 0, .int .i64 0, .int .i64 0] (by kernel_rfl) H ?_; clear H; intro w63 g68 H)
     | (at_builtin; refine append_hp (by rfl) _ _ 22 (by rfl) 43 k0 _ 17 272 Tryz.underlying22 hk0 k0z k0s k0b (by rfl) (by decide) H 1 (.slice Av 5 cv) (5) (vs) (by rfl) (by first | rfl | simp [Act.eval, Act.put]) (some ⟨g68, 0, none⟩) 8 8 [.int .i64 3, .bool false, .bool false, .bool false, .string ⟨#[]⟩, .string ⟨#[95, 95, 83, 99, 104, 101, 109, 97]⟩, .slice none 0 0, .slice none 0 0, .slice (some ⟨g23, 0, none⟩) 6 6, .slice none 0 0, .slice none 0 0, .slice none 0 0, .slice none 0 0, .bool false, .slice none 0 0, .int .i64 0, .int .i64 0, .int .i64 3, .bool false, .bool false, .bool false, .string ⟨#[]⟩, .string ⟨#[95, 95, 84, 121, 112, 101]⟩, .slice none 0 0, .slice none 0 0, .slice (some ⟨g35, 0, none⟩) 10 10, .slice none 0 0, .slice none 0 0, .slice none 0 0, .slice none 0 0, .bool false, .slice none 0 0, .int .i64 0, .int .i64 0, .int .i64 6, .bool false, .bool false, .bool false, .string ⟨#[]⟩, .string ⟨#[95, 95, 84, 121, 112, 101, 75, 105, 110, 100]⟩, .slice none 0 0, .slice none 0 0, .slice none 0 0, .slice none 0 0, .slice none 0 0, .slice B38 8 c38, .slice none 0 0, .bool false, .slice none 0 0, .int .i64 0, .int .i64 0, .int .i64 3, .bool false, .bool false, .bool false, .string ⟨#[]⟩, .string ⟨#[95, 95, 70, 105, 101, 108, 100]⟩, .slice none 0 0, .slice none 0 0, .slice (some ⟨g45, 0, none⟩) 6 6, .slice none 0 0, .slice none 0 0, .slice none 0 0, .slice none 0 0, .bool false, .slice none 0 0, .int .i64 0, .int .i64 0, .int .i64 3, .bool false, .bool false, .bool false, .string ⟨#[]⟩, .string ⟨#[95, 95, 73, 110, 112, 117, 116, 86, 97, 108, 117, 101]⟩, .slice none 0 0, .slice none 0 0, .slice (some ⟨g51, 0, none⟩) 4 4, .slice none 0 0, .slice none 0 0, .slice none 0 0, .slice none 0 0, .bool false, .slice none 0 0, .int .i64 0, .int .i64 0, .int .i64 3, .bool false, .bool false, .bool false, .string ⟨#[]⟩, .string ⟨#[95, 95, 69, 110, 117, 109, 86, 97, 108, 117, 101]⟩, .slice none 0 0, .slice none 0 0, .slice (some ⟨g57, 0, none⟩) 4 4, .slice none 0 0, .slice none 0 0, .slice none 0 0, .slice none 0 0, .bool false, .slice none 0 0, .int .i64 0, .int .i64 0, .int .i64 3, .bool false, .bool false, .bool false, .string ⟨#[]⟩, .string ⟨#[95, 95, 68, 105, 114, 101, 99, 116, 105, 118, 101]⟩, .slice none 0 0, .slice none 0 0, .slice (some ⟨g64, 0, none⟩) 5 5, .slice none 0 0, .slice none 0 0, .slice none 0 0, .slice none 0 0, .bool false, .slice none 0 0, .int .i64 0, .int .i64 0, .int .i64 6, .bool false, .bool false, .bool false, .string ⟨#[]⟩, .string ⟨#[95, 95, 68, 105, 114, 101, 99, 116, 105, 118, 101, 76, 111, 99, 97, 116, 105, 111, 110]⟩, .slice none 0 0, .slice none 0 0, .slice none 0 0, .slice none 0 0, .slice none 0 0, .slice B67 19 c67, .slice none 0 0, .bool false, .slice none 0 0, .int .i64 0, .int .i64 0] (by first | rfl | simp [Act.eval, Act.put]) (by rfl) (H.rd (i := 0) rfl) (by simp [Value.oneCell']) (by simp only [maxLen]; omega) (by omega) ?_; clear H; intro V2 w9 H; replace H : Hp w0 w9 K67 (.box g68 [.int .i64 3, .bool false, .bool false, .bool false, .string ⟨#[]⟩, .string ⟨#[95, 95, 83, 99, 104, 101, 109, 97]⟩, .slice none 0 0, .slice none 0 0, .slice (some ⟨g23, 0, none⟩) 6 6, .slice none 0 0, .slice none 0 0, .slice none 0 0, .slice none 0 0, .bool false, .slice none 0 0, .int .i64 0, .int .i64 0, .int .i64 3, .bool false, .bool false, .bool false, .string ⟨#[]⟩, .string ⟨#[95, 95, 84, 121, 112, 101]⟩, .slice none 0 0, .slice none 0 0, .slice (some ⟨g35, 0, none⟩) 10 10, .slice none 0 0, .slice none 0 0, .slice none 0 0, .slice none 0 0, .bool false, .slice none 0 0, .int .i64 0, .int .i64 0, .int .i64 6, .bool false, .bool false, .bool false, .string ⟨#[]⟩, .string ⟨#[95, 95, 84, 121, 112, 101, 75, 105, 110, 100]⟩, .slice none 0 0, .slice none 0 0, .slice none 0 0, .slice none 0 0, .slice none 0 0, .slice B38 8 c38, .slice none 0 0, .bool false, .slice none 0 0, .int .i64 0, .int .i64 0, .int .i64 3, .bool false, .bool false, .bool false, .string ⟨#[]⟩, .string ⟨#[95, 95, 70, 105, 101, 108, 100]⟩, .slice none 0 0, .slice none 0 0, .slice (some ⟨g45, 0, none⟩) 6 6, .slice none 0 0, .slice none 0 0, .slice none 0 0, .slice none 0 0, .bool false, .slice none 0 0, .int .i64 0, .int .i64 0, .int .i64 3, .bool false, .bool false, .bool false, .string ⟨#[]⟩, .string ⟨#[95, 95, 73, 110, 112, 117, 116, 86, 97, 108, 117, 101]⟩, .slice none 0 0, .slice none 0 0, .slice (some ⟨g51, 0, none⟩) 4 4, .slice none 0 0, .slice none 0 0, .slice none 0 0, .slice none 0 0, .bool false, .slice none 0 0, .int .i64 0, .int .i64 0, .int .i64 3, .bool false, .bool false, .bool false, .string ⟨#[]⟩, .string ⟨#[95, 95, 69, 110, 117, 109, 86, 97, 108, 117, 101]⟩, .slice none 0 0, .slice none 0 0, .slice (some ⟨g57, 0, none⟩) 4 4, .slice none 0 0, .slice none 0 0, .slice none 0 0, .slice none 0 0, .bool false, .slice none 0 0, .int .i64 0, .int .i64 0, .int .i64 3, .bool false, .bool false, .bool false, .string ⟨#[]⟩, .string ⟨#[95, 95, 68, 105, 114, 101, 99, 116, 105, 118, 101]⟩, .slice none 0 0, .slice none 0 0, .slice (some ⟨g64, 0, none⟩) 5 5, .slice none 0 0, .slice none 0 0, .slice none 0 0, .slice none 0 0, .bool false, .slice none 0 0, .int .i64 0, .int .i64 0, .int .i64 6, .bool false, .bool false, .bool false, .string ⟨#[]⟩, .string ⟨#[95, 95, 68, 105, 114, 101, 99, 116, 105, 118, 101, 76, 111, 99, 97, 116, 105, 111, 110]⟩, .slice none 0 0, .slice none 0 0, .slice none 0 0, .slice none 0 0, .slice none 0 0, .slice B67 19 c67, .slice none 0 0, .bool false, .slice none 0 0, .int .i64 0, .int .i64 0] 43 :: .row 43 17 (V2) (5 + 8) (vs ++ [.int .i64 3, .bool false, .bool false, .bool false, .string ⟨#[]⟩, .string ⟨#[95, 95, 83, 99, 104, 101, 109, 97]⟩, .slice none 0 0, .slice none 0 0, .slice (some ⟨g23, 0, none⟩) 6 6, .slice none 0 0, .slice none 0 0, .slice none 0 0, .slice none 0 0, .bool false, .slice none 0 0, .int .i64 0, .int .i64 0, .int .i64 3, .bool false, .bool false, .bool false, .string ⟨#[]⟩, .string ⟨#[95, 95, 84, 121, 112, 101]⟩, .slice none 0 0, .slice none 0 0, .slice (some ⟨g35, 0, none⟩) 10 10, .slice none 0 0, .slice none 0 0, .slice none 0 0, .slice none 0 0, .bool false, .slice none 0 0, .int .i64 0, .int .i64 0, .int .i64 6, .bool false, .bool false, .bool false, .string ⟨#[]⟩, .string ⟨#[95, 95, 84, 121, 112, 101, 75, 105, 110, 100]⟩, .slice none 0 0, .slice none 0 0, .slice none 0 0, .slice none 0 0, .slice none 0 0, .slice B38 8 c38, .slice none 0 0, .bool false, .slice none 0 0, .int .i64 0, .int .i64 0, .int .i64 3, .bool false, .bool false, .bool false, .string ⟨#[]⟩, .string ⟨#[95, 95, 70, 105, 101, 108, 100]⟩, .slice none 0 0, .slice none 0 0, .slice (some ⟨g45, 0, none⟩) 6 6, .slice none 0 0, .slice none 0 0, .slice none 0 0, .slice none 0 0, .bool false, .slice none 0 0, .int .i64 0, .int .i64 0, .int .i64 3, .bool false, .bool false, .bool false, .string ⟨#[]⟩, .string ⟨#[95, 95, 73, 110, 112, 117, 116, 86, 97, 108, 117, 101]⟩, .slice none 0 0, .slice none 0 0, .slice (some ⟨g51, 0, none⟩) 4 4, .slice none 0 0, .slice none 0 0, .slice none 0 0, .slice none 0 0, .bool false, .slice none 0 0, .int .i64 0, .int .i64 0, .int .i64 3, .bool false, .bool false, .bool false, .string ⟨#[]⟩, .string ⟨#[95, 95, 69, 110, 117, 109, 86, 97, 108, 117, 101]⟩, .slice none 0 0, .slice none 0 0, .slice (some ⟨g57, 0, none⟩) 4 4, .slice none 0 0, .slice none 0 0, .slice none 0 0, .slice none 0 0, .bool false, .slice none 0 0, .int .i64 0, .int .i64 0, .int .i64 3, .bool false, .bool false, .bool false, .string ⟨#[]⟩, .string ⟨#[95, 95, 68, 105, 114, 101, 99, 116, 105, 118, 101]⟩, .slice none 0 0, .slice none 0 0, .slice (some ⟨g64, 0, none⟩) 5 5, .slice none 0 0, .slice none 0 0, .slice none 0 0, .slice none 0 0, .bool false, .slice none 0 0, .int .i64 0, .int .i64 0, .int .i64 6, .bool false, .bool false, .bool false, .string ⟨#[]⟩, .string ⟨#[95, 95, 68, 105, 114, 101, 99, 116, 105, 118, 101, 76, 111, 99, 97, 116, 105, 111, 110]⟩, .slice none 0 0, .slice none 0 0, .slice none 0 0, .slice none 0 0, .slice none 0 0, .slice B67 19 c67, .slice none 0 0, .bool false, .slice none 0 0, .int .i64 0, .int .i64 0]) :: M) := H; obtain ⟨V2A, V2c, rfl, V2l, V2m⟩ := H.slice (i := 1) rfl))
    replace H := H.sub (List.Sublist.cons _ (List.Sublist.cons_cons _ (List.Sublist.refl _)))
    have hall := hvs.app (rd_ob (s := [95, 95, 83, 99, 104, 101, 109, 97]) (l := gf0) (rd_ob (s := [95, 95, 84, 121, 112, 101]) (l := gf1) (rd_en (s := [95, 95, 84, 121, 112, 101, 75, 105, 110, 100]) (l := ge2) (rd_ob (s := [95, 95, 70, 105, 101, 108, 100]) (l := gf3) (rd_ob (s := [95, 95, 73, 110, 112, 117, 116, 86, 97, 108, 117, 101]) (l := gf4) (rd_ob (s := [95, 95, 69, 110, 117, 109, 86, 97, 108, 117, 101]) (l := gf5) (rd_ob (s := [95, 95, 68, 105, 114, 101, 99, 116, 105, 118, 101]) (l := gf6) (rd_en (s := [95, 95, 68, 105, 114, 101, 99, 116, 105, 118, 101, 76, 111, 99, 97, 116, 105, 111, 110]) (l := ge7) rd_nil hf7) hf6) hf5) hf4) hf3) hf2) hf1) hf0)
    have hlen : givenT.length = 13 := rfl
    obtain ⟨K', hle, H, hv⟩ := H.freezeRow hall
    go_ret
    exact ⟨K', _, _, rfl, hle.trans hK, H, hv_of hv⟩
end Go.Proofs.YtbpgkkoeehopjaaGreat.hp
