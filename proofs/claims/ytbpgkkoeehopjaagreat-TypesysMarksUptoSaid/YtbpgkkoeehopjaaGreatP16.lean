/- Part 16 of 17 of a proof: see the last part. -/
import Derived.Test.YtbpgkkoeehopjaaGreatP8
import Derived.Test.YtbpgkkoeehopjaaGreatP9
import Derived.Test.YtbpgkkoeehopjaaGreatP11
import Derived.Test.YtbpgkkoeehopjaaGreatP12
import Derived.Test.YtbpgkkoeehopjaaGreatP13
import Derived.Test.YtbpgkkoeehopjaaGreatP15
import Derived.Maps.RangeRun
import Derived.Deep.QuietTactic
import Derived.BigQuiet
import Derived.Shelf.SlSortCmp.Whole1
import Derived.KernelRfl
import Derived.Shelf.SlSortCmp.NoneTotal
import Derived.Laws.DeepStrings4
set_option linter.unusedVariables false
set_option linter.unusedSimpArgs false
namespace Go.Proofs.YtbpgkkoeehopjaaGreat.hp
open Go.RowKit Go.Proofs.YtbpgkkoeehopjaaGreat.words Go.Proofs.YtbpgkkoeehopjaaGreat.enc Go.Proofs.YtbpgkkoeehopjaaGreat.tree Go.Proofs.YtbpgkkoeehopjaaGreat.gram Go.Proofs.YtbpgkkoeehopjaaGreat.lex Go.Proofs.YtbpgkkoeehopjaaGreat.rd Go.Proofs.YtbpgkkoeehopjaaGreat.dec Go.Proofs.YtbpgkkoeehopjaaGreat.dat Go.Proofs.YtbpgkkoeehopjaaGreat.held
section
variable {P : Program} {w0 w K K' : World} {M : List Ent} {ops : Array Oper} {rest : List Oper} {o : Oper} {a : Act} {Q : Exit → Act → World → Prop} {i b r t kt et : Nat}
theorem Hp.objSet (H : Hp w0 w K M) {o : Obj} (hi : M[i]? = some (.obj b o)) (o' : Obj) : Hp w0 (ChangeMaps.setBlock w b o') K (M.set i (.obj b o')) := by
 have hb : w.heap[b]? = some o := H.ok _ (List.mem_of_getElem? hi)
 have hlt := (Array.getElem?_eq_some_iff.1 hb).1
 refine H.setAt hi ⟨rfl, rfl, rfl, by simp [ChangeMaps.setBlock], fun k hk hne => ?_⟩ ?_ (.inl rfl)
 · have hkb : b ≠ k := fun e => hne (by subst e; rfl)
   simp [ChangeMaps.setBlock, hkb]
 · simp [Ent.ok, ChangeMaps.setBlock, hlt]
theorem Hp.allocObj (H : Hp w0 w K M) (o : Obj) : Hp w0 (w.alloc o) K (.obj w.heap.size o :: M) :=
 H.cons (grown_of ((Below.refl _ _).alloc (Nat.le_refl _) _) none) (heap_alloc_new w _) (fun g h => by simp only [Ent.blk, Option.some.injEq] at h; omega)
abbrev iter (r : Nat) (b : Nat) (n : Nat) (seen : Array Nat) : Ent := .obj r (.mapIter (some b) n seen n)
abbrev iter0 (r : Nat) : Ent := .obj r (.mapIter none 0 #[] 0)
theorem range_hp (hgd : o.guard = none) (t : TypeId) (x : Operand) (ho : o.op = .range t x) (ht : P.underlying t = some (.map kt et)) (b : Nat) (l : List (Value × Value)) (hb : w.heap[b]? = some (mobj l)) (hx : a.eval x = .map (some b)) (dst : Option Tmp) (hdst : o.dst = dst) (H : Hp w0 w K M)
  (h : ∀ w' r, Hp w0 w' K (iter r b l.length #[] :: M) → wpList P ops Q rest (a.put dst (.pointer (some ⟨r, 0, none⟩))) w') : wpList P ops Q (o :: rest) a w := by
 subst hdst
 refine wpList_plain hgd fun _ hK => ?_
 have hrun := run_range_map (P := P) w t kt et b _ _ ht hb
 unfold Oper.wp execOp
 simp only [ho, hx, Sem.run_bind, hrun, Result.andThen_ok, Sem.run_pure]
 exact hK _ _ (h _ _ (H.allocObj _))
theorem range_nil_hp (hgd : o.guard = none) (t : TypeId) (x : Operand) (ho : o.op = .range t x) (ht : P.underlying t = some (.map kt et)) (hx : a.eval x = .map none) (dst : Option Tmp) (hdst : o.dst = dst) (H : Hp w0 w K M)
  (h : ∀ w' r, Hp w0 w' K (iter0 r :: M) → wpList P ops Q rest (a.put dst (.pointer (some ⟨r, 0, none⟩))) w') : wpList P ops Q (o :: rest) a w := by
 subst hdst
 refine wpList_plain hgd fun _ hK => ?_
 have hrun := run_range_nilMap (P := P) w t kt et ht
 unfold Oper.wp execOp
 simp only [ho, hx, Sem.run_bind, hrun, Result.andThen_ok, Sem.run_pure]
 exact hK _ _ (h _ _ (H.allocObj _))
theorem next_nil_hp (hgd : o.guard = none) (x : Operand) (ho : o.op = .next x false) (hx : a.eval x = .pointer (some ⟨r, 0, none⟩)) (H : Hp w0 w K M) (i : Nat) (hi : M[i]? = some (iter0 r))
  (h : wpList P ops Q rest (a.put o.dst (.tuple #[.bool false])) w) : wpList P ops Q (o :: rest) a w := by
 refine wpList_plain hgd fun _ hK => ?_
 have hr : w.heap[r]? = some (.mapIter none 0 #[] 0) := H.ok _ (List.mem_of_getElem? hi)
 have hrun : (Instr.next (.pointer (some ⟨r, 0, none⟩)) false o.type).run P w = .ok (.tuple #[.bool false]) w := by
  simp only [Instr.next, getObj, Sem.run_bind, Sem.run, hr, Result.andThen]
  rfl
 unfold Oper.wp execOp
 simp only [ho, hx, Sem.run_bind, hrun, Result.andThen_ok, Sem.run_pure]
 exact hK _ _ h
theorem ments_born (l : List (Value × Value)) : (ments l).map (·.born) = List.range l.length := by
 unfold ments
 rw [List.map_map]
 apply List.ext_getElem?
 intro j
 rcases Nat.lt_or_ge j l.length with h | h
 · simp [h, List.getElem?_range, List.getElem?_eq_getElem]
 · simp [h]
theorem ments_mem {l : List (Value × Value)} {e : MapEntry} (h : e ∈ ments l) : ∃ p, l[e.born]? = some p ∧ e.key = p.1 ∧ e.val = p.2 := by
 unfold ments at h
 rw [List.mem_map] at h
 obtain ⟨⟨p, k⟩, hp, rfl⟩ := h
 rw [List.mem_zipIdx_iff_getElem?] at hp
 exact ⟨p, hp, rfl, rfl⟩
theorem next_hp (hgd : o.guard = none) (x : Operand) (ho : o.op = .next x false) (hx : a.eval x = .pointer (some ⟨r, 0, none⟩)) (H : Hp w0 w K M) (i : Nat) (b : Nat) (l : List (Value × Value)) (seen : Array Nat) (hi : M[i]? = some (iter r b l.length seen)) (hb : w.heap[b]? = some (mobj l))
  (h1 : (∀ k, k < l.length → k ∈ seen) → wpList P ops Q rest (a.put o.dst (.tuple #[.bool false])) w)
  (h2 : ∀ k p w', l[k]? = some p → k ∉ seen → Hp w0 w' K (M.set i (iter r b l.length (seen.push k))) → wpList P ops Q rest (a.put o.dst (.tuple #[.bool true, p.1, p.2])) w') : wpList P ops Q (o :: rest) a w := by
 refine wpList_plain hgd fun _ hK => ?_
 have hr : w.heap[r]? = some (.mapIter (some b) l.length seen l.length) := H.ok _ (List.mem_of_getElem? hi)
 have hold : ∀ x ∈ (ments l).toArray.toList, x.born < l.length := fun x hx => by
  obtain ⟨p, hp, _⟩ := ments_mem (show x ∈ ments l from hx)
  exact (List.getElem?_eq_some_iff.1 hp).1
 rcases run_next_at (P := P) w o.type r b l.length l.length seen (ments l).toArray l.length hr hb hold (Nat.le_refl _) with ⟨h0, hrun⟩ | ⟨e, he, w1, hw1, hrun⟩
 · unfold Oper.wp execOp
   simp only [ho, hx, Sem.run_bind, hrun, Result.andThen_ok, Sem.run_pure]
   refine hK _ _ (h1 fun k hk => ?_)
   refine Classical.byContradiction fun hn => ?_
   have hlen : (leftOf (ments l).toArray seen) = #[] := Array.eq_empty_of_size_eq_zero h0
   unfold leftOf at hlen
   rw [Array.filter_eq_empty_iff] at hlen
   obtain ⟨p, hp⟩ : ∃ p, l[k]? = some p := ⟨_, List.getElem?_eq_getElem hk⟩
   have := hlen { key := p.1, val := p.2, born := k } (by
    simp only [List.mem_toArray, ments, List.mem_map]
    exact ⟨(p, k), List.mem_zipIdx_iff_getElem?.2 hp, rfl⟩)
   simp at this
   exact hn this
 · obtain ⟨hm, hc⟩ := mem_left he
   obtain ⟨p, hp, hk, hv⟩ := ments_mem (show e ∈ ments l from hm)
   unfold Oper.wp execOp
   simp only [ho, hx, Sem.run_bind, hrun, Result.andThen_ok, Sem.run_pure, hk, hv]
   refine hK _ _ (h2 e.born p _ hp (fun hin => ?_) ?_)
   · have := Array.contains_iff_mem.2 hin
     rw [this] at hc
     cases hc
   · rcases hw1 with rfl | rfl
     · exact H.objSet hi _
     · exact H.drew1.objSet hi _
theorem entry_hp (hgd : o.guard = none) (x : Operand) (ho : o.op = .entry x) (hx : a.eval x = .pointer (some ⟨r, 0, none⟩)) (H : Hp w0 w K M) (i : Nat) (b : Nat) (l : List (Value × Value)) (seen : Array Nat) (k : Nat) (p : Value × Value) (hi : M[i]? = some (iter r b l.length (seen.push k))) (hb : w.heap[b]? = some (mobj l)) (hp : l[k]? = some p)
  (h : wpList P ops Q rest (a.put o.dst (.tuple #[p.1, p.2])) w) : wpList P ops Q (o :: rest) a w := by
 refine wpList_plain hgd fun _ hK => ?_
 have hr : w.heap[r]? = some (.mapIter (some b) l.length (seen.push k) l.length) := H.ok _ (List.mem_of_getElem? hi)
 have hrun := run_entry_at (P := P) w r b l.length seen (ments l).toArray l.length { key := p.1, val := p.2, born := k } hr hb (by
  simp only [ments, List.mem_map]
  exact ⟨(p, k), List.mem_zipIdx_iff_getElem?.2 hp, rfl⟩) (by
  show ((ments l).map (·.born)).Nodup
  rw [ments_born]; exact List.nodup_range)
 unfold Oper.wp execOp
 simp only [ho, hx, Sem.run_bind, hrun, Result.andThen_ok, Sem.run_pure]
 exact hK _ _ h
end
open Go.Proofs.YtbpgkkoeehopjaaGreat.ty
set_option maxRecDepth 100000
attribute [local go_sem ↓] Go.wp_at_zero Go.wp_at_succ
theorem nodup_lt : ∀ (n : Nat) (l : List Nat), l.Nodup → (∀ x ∈ l, x < n) → l.length ≤ n
 | 0, l, _, h => by
  cases l with
  | nil => exact Nat.le_refl _
  | cons a r => exact absurd (h a (List.mem_cons_self ..)) (Nat.not_lt_zero _)
 | n + 1, l, hn, h => by
  have h1 : (l.erase n).length ≤ n := nodup_lt n (l.erase n) (hn.erase n) (fun x hx => by
   have hm := (List.Nodup.mem_erase_iff hn).1 hx
   have := h x hm.2
   have := hm.1
   omega)
  have h2 : l.length ≤ (l.erase n).length + 1 := by
   rw [List.length_erase]; split <;> omega
  omega
def seenN (w : World) (r : Nat) : Nat := match w.heap[r]? with | some (.mapIter _ _ s _) => s.size | _ => 0
theorem seen_iter {w0 w K : World} {M : List Ent} {r b n : Nat} {s : Array Nat} (H : Hp w0 w K (iter r b n s :: M)) : seenN w r = s.size := by
 have h : w.heap[r]? = some (.mapIter (some b) n s n) := H.ok _ (List.mem_cons_self ..)
 unfold seenN; rw [h]
def SeenOk (n : Nat) (s : Array Nat) : Prop := s.toList.Nodup ∧ ∀ k ∈ s.toList, k < n
theorem SeenOk.push {n : Nat} {s : Array Nat} {k : Nat} (h : SeenOk n s) (hk : k < n) (hn : k ∉ s) : SeenOk n (s.push k) := by
 refine ⟨?_, ?_⟩
 · rw [Array.toList_push, List.nodup_append]
   refine ⟨h.1, by simp, fun a ha b hb he => ?_⟩
   obtain rfl := List.mem_singleton.1 hb
   subst he
   exact hn (by simpa using ha)
 · intro x hx
   rw [Array.toList_push] at hx
   rcases List.mem_append.1 hx with hx | hx
   · exact h.2 x hx
   · obtain rfl := List.mem_singleton.1 hx; exact hk
theorem SeenOk.le {n : Nat} {s : Array Nat} (h : SeenOk n s) : s.size ≤ n := by
 have := nodup_lt n s.toList h.1 h.2
 simpa using this
theorem lookup_run {P : Program} {w : World} {ops : Array Oper} {rest : List Oper} {o : Oper} {a : Act} {Q : Exit → Act → World → Prop} (hgd : o.guard = none) (m x : Operand) (t : TypeId) (c : Bool) (ho : o.op = .lookup t m x c) {mv xv r : Value} (hm : a.eval m = mv) (hx : a.eval x = xv) (hrun : (Instr.lookup t mv xv c).run P w = .ok r w)
  (h : wpList P ops Q rest (a.put o.dst r) w) : wpList P ops Q (o :: rest) a w := by
 refine wpList_plain hgd fun _ hK => ?_
 unfold Oper.wp execOp
 simp only [ho, hm, hx, Sem.run_bind, hrun, Result.andThen_ok, Sem.run_pure]
 exact hK _ _ h
theorem kents_at {κ : Type} {kv : κ → Value} {l : List (κ × Value)} {k : Nat} {p : Value × Value} (h : (kents kv l)[k]? = some p) : ∃ q, l[k]? = some q ∧ p = (kv q.1, q.2) := by
 unfold kents at h
 rw [List.getElem?_map] at h
 cases hq : l[k]? with
 | none => rw [hq] at h; cases h
 | some q => rw [hq] at h; injection h with h; exact ⟨q, rfl, h.symm⟩
end Go.Proofs.YtbpgkkoeehopjaaGreat.hp
namespace Go.Proofs
open Go.Shelf
def Tryz.laysSlF6_f67_ren : Go.Shelf.Ren := ⟨fun | 6 => 67 | 15 => 118 | 14 => 117 | 28 => 163 | 29 => 164 | 20 => 155 | 21 => 156 | 22 => 157 | 23 => 158 | 24 => 159 | 25 => 160 | 26 => 161 | 27 => 162 | 46 => 181 | 47 => 182 | 48 => 183 | 49 => 184 | 50 => 185 | 57 => 199 | n => n, fun | 22 => 27 | 24 => 9 | 25 => 104 | 3 => 3 | 39 => 168 | 0 => 0 | 53 => 216 | 55 => 218 | 4 => 4 | 46 => 210 | 45 => 209 | 50 => 93 | 5 => 5 | 9 => 9 | 66 => 236 | 70 => 240 | 76 => 249 | 77 => 250 | n => n, fun | n => n⟩
theorem Tryz.laysSlF6_f67 : Go.Proofs.SlLaysF.n6 Tryz.prog Tryz.laysSlF6_f67_ren := {
 mixed := by kernel_rfl
 f6 := ⟨Tryz.f67.name, by decide, Tryz.func67.trans (congrArg some (by kernel_rfl))⟩
 f14 := ⟨Tryz.f117.name, by decide, Tryz.func117.trans (congrArg some (by kernel_rfl))⟩
 f15 := Tryz.func118.trans (congrArg some (by kernel_rfl))
 f20 := ⟨Tryz.f155.name, by decide, Tryz.func155.trans (congrArg some (by kernel_rfl))⟩
 f21 := ⟨Tryz.f156.name, by decide, Tryz.func156.trans (congrArg some (by kernel_rfl))⟩
 f22 := ⟨Tryz.f157.name, by decide, Tryz.func157.trans (congrArg some (by kernel_rfl))⟩
 f23 := ⟨Tryz.f158.name, by decide, Tryz.func158.trans (congrArg some (by kernel_rfl))⟩
 f24 := ⟨Tryz.f159.name, by decide, Tryz.func159.trans (congrArg some (by kernel_rfl))⟩
 f25 := ⟨Tryz.f160.name, by decide, Tryz.func160.trans (congrArg some (by kernel_rfl))⟩
 f26 := ⟨Tryz.f161.name, by decide, Tryz.func161.trans (congrArg some (by kernel_rfl))⟩
 f27 := ⟨Tryz.f162.name, by decide, Tryz.func162.trans (congrArg some (by kernel_rfl))⟩
 f28 := Tryz.func163.trans (congrArg some (by kernel_rfl))
 f29 := Tryz.func164.trans (congrArg some (by kernel_rfl))
 f46 := ⟨Tryz.f181.name, by decide, Tryz.func181.trans (congrArg some (by kernel_rfl))⟩
 f47 := Tryz.func182.trans (congrArg some (by kernel_rfl))
 f48 := Tryz.func183.trans (congrArg some (by kernel_rfl))
 f49 := ⟨Tryz.f184.name, by decide, Tryz.func184.trans (congrArg some (by kernel_rfl))⟩
 f50 := ⟨Tryz.f185.name, by decide, Tryz.func185.trans (congrArg some (by kernel_rfl))⟩
 f57 := ⟨Tryz.f199.name, by decide, Tryz.func199.trans (congrArg some (by kernel_rfl))⟩
 t0 := Tryz.underlying0
 a0 := Tryz.isAgg0
 z0 := Tryz.sizeOf0
 v0 := Tryz.zeroValue0
 t3 := Tryz.underlying3
 a3 := Tryz.isAgg3
 z3 := Tryz.sizeOf3
 v3 := Tryz.zeroValue3
 t4 := Tryz.underlying4
 a4 := Tryz.isAgg4
 z4 := Tryz.sizeOf4
 v4 := Tryz.zeroValue4
 t5 := Tryz.underlying5
 a5 := Tryz.isAgg5
 z5 := Tryz.sizeOf5
 v5 := Tryz.zeroValue5
 t9 := Tryz.underlying9
 a9 := Tryz.isAgg9
 z9 := Tryz.sizeOf9
 v9 := Tryz.zeroValue9
 t22 := Tryz.underlying27
 a22 := Tryz.isAgg27
 z22 := Tryz.sizeOf27
 v22 := Tryz.zeroValue27
 a24 := Tryz.isAgg9
 z24 := Tryz.sizeOf9
 t25 := Tryz.underlying104
 a25 := Tryz.isAgg104
 z25 := Tryz.sizeOf104
 v25 := Tryz.zeroValue104
 t39 := Tryz.underlying168
 a39 := Tryz.isAgg168
 z39 := Tryz.sizeOf168
 v39 := Tryz.zeroValue168
 t45 := Tryz.underlying209
 a45 := Tryz.isAgg209
 z45 := Tryz.sizeOf209
 v45 := Tryz.zeroValue209
 t46 := Tryz.underlying210
 a46 := Tryz.isAgg210
 z46 := Tryz.sizeOf210
 v46 := Tryz.zeroValue210
 t50 := Tryz.underlying93
 a50 := Tryz.isAgg93
 z50 := Tryz.sizeOf93
 v50 := Tryz.zeroValue93
 t53 := Tryz.underlying216
 a53 := Tryz.isAgg216
 z53 := Tryz.sizeOf216
 v53 := Tryz.zeroValue216
 t55 := Tryz.underlying218
 a55 := Tryz.isAgg218
 z55 := Tryz.sizeOf218
 v55 := Tryz.zeroValue218
 t66 := Tryz.underlying236
 a66 := Tryz.isAgg236
 z66 := Tryz.sizeOf236
 v66 := Tryz.zeroValue236
 t70 := Tryz.underlying240
 a70 := Tryz.isAgg240
 z70 := Tryz.sizeOf240
 v70 := Tryz.zeroValue240
 t76 := Tryz.underlying249
 a76 := Tryz.isAgg249
 z76 := Tryz.sizeOf249
 v76 := Tryz.zeroValue249
 t77 := Tryz.underlying250
 a77 := Tryz.isAgg250
 z77 := Tryz.sizeOf250
 v77 := Tryz.zeroValue250 }
open Go.RowKit Go.Lib Go.Sort in
theorem Tryz.slices_SortFunc {α : Type} [Inhabited α] (enc : α → Value) (h1 : OneCell enc) (cf : α → α → Int) (hO : SWO (ltOf cf)) (g : Nat) (cb : Array Value) (blk off cap : Nat) (d : Array α) (w : World) (eg : ∀ args w, (callFunc g args).run Tryz.prog w = .ok (.enter g args) w) (hcmp : CmpLays1 Tryz.prog g cb enc cf blk off d.size w) (hH : Holds enc w blk off d) (hblk : blk < w.heap.size) (hsz : d.size < 4611686018427387904) :
  Calls Tryz.prog 67 #[.slice (some ⟨blk, off, none⟩) d.size cap, .func (.func g) #[] cb] w fun e w' =>
   e = .returned (.tuple #[]) ∧ ∃ d' n os, PermIn 0 d.size d d' ∧ SortedIn (ltOf cf) 0 d.size d' ∧ w' = sortWorld enc w blk off n d' os := Any.slices_SortFunc Tryz.laysSlF6_f67 enc h1 cf hO g cb blk off cap d w eg hcmp hH hblk hsz
end Go.Proofs
namespace Go.Proofs.YtbpgkkoeehopjaaGreat.hp
open Go.RowKit Go.Proofs.YtbpgkkoeehopjaaGreat.words Go.Proofs.YtbpgkkoeehopjaaGreat.enc Go.Proofs.YtbpgkkoeehopjaaGreat.tree Go.Proofs.YtbpgkkoeehopjaaGreat.gram Go.Proofs.YtbpgkkoeehopjaaGreat.lex Go.Proofs.YtbpgkkoeehopjaaGreat.rd Go.Proofs.YtbpgkkoeehopjaaGreat.dec Go.Proofs.YtbpgkkoeehopjaaGreat.dat Go.Proofs.YtbpgkkoeehopjaaGreat.held Go.Proofs.YtbpgkkoeehopjaaGreat.ty
section
variable {w0 w K : World} {M : List Ent} {enc : Txt → Value}
theorem grow_old (w : World) (os : Array Obj) {k : Nat} (h : k < w.heap.size) : (Go.Sort.grow w os).heap[k]? = w.heap[k]? := by
 show (w.heap ++ os)[k]? = _
 rw [Array.getElem?_append_left h]
theorem sort_old (w : World) (blk off n : Nat) (d : Array Txt) (os : Array Obj) {k : Nat} (h : k < w.heap.size) (hb : k ≠ blk) : (sortWorld enc w blk off n d os).heap[k]? = w.heap[k]? := by
 unfold sortWorld
 rw [grow_old _ _ (by simpa using h)]
 show ((w.heap).modify blk _)[k]? = _
 rw [Array.getElem?_modify, if_neg (Ne.symm hb)]
theorem sort_size (w : World) (blk off n : Nat) (d : Array Txt) (os : Array Obj) : w.heap.size ≤ (sortWorld enc w blk off n d os).heap.size := by
 unfold sortWorld
 show _ ≤ ((Go.Sort.putRow enc (Go.Sort.ahead w n) blk off d).heap ++ os).size
 rw [Array.size_append]
 have := Go.Sort.size_putRow enc (Go.Sort.ahead w n) blk off d
 have h2 : (Go.Sort.ahead w n).heap.size = w.heap.size := rfl
 omega
theorem sort_grown (w : World) (blk off n : Nat) (d : Array Txt) (os : Array Obj) : w.grownBy (sortWorld enc w blk off n d os) (some blk) :=
 ⟨rfl, rfl, rfl, sort_size w blk off n d os, fun k hk hne => sort_old w blk off n d os hk (fun e => hne (by rw [e]))⟩
theorem put_take (d : Array Txt) (cur : Array Value) (h : d.size ≤ cur.size) : (Go.Sort.putCells enc 0 d cur).toList.take d.size = d.toList.map enc := by
 apply List.ext_getElem?
 intro j
 rw [List.getElem?_take, List.getElem?_map, Array.getElem?_toList, Array.getElem?_toList]
 unfold Go.Sort.putCells
 split
 · rename_i hj
   have hj : j < d.size := hj
   have hj2 : j < cur.size := by omega
   rw [Array.getElem?_mapIdx, Array.getElem?_eq_getElem hj2, Array.getElem?_eq_getElem hj]
   simp only [Option.map_some, Nat.zero_le, Nat.zero_add, hj, and_self, if_true, Nat.sub_zero]
   rw [getElem!_pos d j hj]
 · rename_i hj
   have hj : ¬ j < d.size := hj
   rw [Array.getElem?_eq_none (by omega)]; rfl
theorem Hp.sorted {m c blk : Nat} {vs : List Value} (H : Hp w0 w K (.row 9 1 (.slice (some ⟨blk, 0, none⟩) m c) m vs :: M)) (n : Nat) (d : Array Txt) (os : Array Obj) (hd : d.size = m) :
  Hp w0 (sortWorld enc w blk 0 n d os) K (.row 9 1 (.slice (some ⟨blk, 0, none⟩) m c) m (d.toList.map enc) :: M) := by
 have ho : w.ownsRow 0 9 1 (.slice (some ⟨blk, 0, none⟩) m c) m vs := H.ok _ (List.mem_cons_self ..)
 refine H.setAt (i := 0) rfl (sort_grown w blk 0 n d os) ?_ (.inl rfl)
 rcases ho.2 with ⟨h, _⟩ | ⟨g', c', cur, he, hb0, hb, h1, h2, h3, h4⟩
 · cases h
 · injection he with e1 _ e3
   injection e1 with e1
   injection e1 with e1
   subst e1 e3
   have hlt := (Array.getElem?_eq_some_iff.1 hb).1
   refine ⟨by rw [List.length_map, Array.length_toList, hd, Nat.mul_one], .inr ⟨blk, c, Go.Sort.putCells enc 0 d cur, rfl, hb0, ?_, h1, h2, ?_, ?_⟩⟩
   · unfold sortWorld
     rw [grow_old _ _ (by simpa using hlt)]
     show ((w.heap).modify blk _)[blk]? = _
     rw [Array.getElem?_modify, if_pos rfl, hb]
     rfl
   · unfold Go.Sort.putCells; simpa using h3
   · rw [Nat.mul_one, ← hd]
     exact put_take d cur (by rw [h3]; omega)
theorem swo_num (f : Txt → Int) : Go.Sort.SWO (ltOf fun x y => f x - f y) := by
 refine ⟨fun x => ?_, fun x y z h1 h2 => ?_, fun x y z h1 h2 => ?_⟩
 · simp [ltOf]
 · simp only [ltOf, decide_eq_true_eq] at *; omega
 · simp only [ltOf, decide_eq_false_iff_not] at *; omega
theorem sort_hp {m c blk g : Nat} {cb : Array Value} {l : List Txt} (f : Txt → Int) (H : Hp w0 w K (.row 9 1 (.slice (some ⟨blk, 0, none⟩) m c) m (l.map ks) :: M)) (hl : l.length = m) (hm : m ≤ 20000000)
  (eg : ∀ args w, (callFunc g args).run Tryz.prog w = .ok (.enter g args) w)
  (hcmp : ∀ W, W.heap.size ≥ w.heap.size → (∀ k, k < w.heap.size → k ≠ blk → W.heap[k]? = w.heap[k]?) → ∀ x y : Txt, Calls Tryz.prog g (#[ks x, ks y] ++ cb) W fun e w' => e = .returned (.int .i64 (f x - f y)) ∧ w' = W) :
  Calls Tryz.prog 67 #[.slice (some ⟨blk, 0, none⟩) m c, .func (.func g) #[] cb] w fun e w' => e = .returned (.tuple #[]) ∧ ∃ l' : List Txt, l'.Perm l ∧ l'.Pairwise (fun a b => f a ≤ f b) ∧ Hp w0 w' K (.row 9 1 (.slice (some ⟨blk, 0, none⟩) m c) m (l'.map ks) :: M) := by
 have hds : l.toArray.size = m := by simpa using hl
 have hblk : blk < w.heap.size := H.lt (i := 0) rfl rfl
 have hH : Go.Sort.Holds ks w blk 0 l.toArray := by
  intro j hj
  rw [hds] at hj
  have hjl : j < l.length := by omega
  rw [Nat.zero_add]
  refine ⟨H.rowCell (i := 0) rfl ?_, H.rowFrozen (i := 0) rfl j⟩
  rw [List.getElem?_map, List.getElem?_eq_getElem hjl, getElem!_pos l.toArray j (by simpa using hjl)]
  rfl
 have hc : CmpLays1 Tryz.prog g cb ks (fun x y => f x - f y) blk 0 l.toArray.size w := by
  intro n os dk hdk x y
  refine (hcmp (sortWorld ks w blk 0 n dk os) (sort_size ..) (fun k hk hb => sort_old w blk 0 n dk os hk hb) x y).mono ?_
  rintro e w' ⟨he, rfl⟩
  exact ⟨he, 0, #[], by simp [Go.Sort.grow_empty, World.drewN]⟩
 have h := Tryz.slices_SortFunc ks (fun _ => rfl) (fun x y => f x - f y) (swo_num f) g cb blk 0 c l.toArray w eg hc hH hblk (by rw [hds]; omega)
 rw [hds] at h
 refine h.mono ?_
 rintro e w' ⟨he, d', n, os, hp, hs, rfl⟩
 have hd' : d'.size = m := hp.1.trans hds
 have hperm : d'.toList.Perm l := by
  have := hp.2.2
  have e1 : (d'.extract 0 m).toList = d'.toList := by rw [← hd', Array.extract_size]
  have e2 : (l.toArray.extract 0 m).toList = l := by rw [← hds, Array.extract_size]
  rw [e1, e2] at this
  exact this
 refine ⟨he, d'.toList, hperm, ?_, H.sorted n d' os hd'⟩
 rw [List.pairwise_iff_getElem]
 intro i j hi hj hij
 have hi' : i < d'.size := by simpa using hi
 have hj' : j < d'.size := by simpa using hj
 have := hs i j (Nat.zero_le _) hij (by omega)
 simp only [ltOf, decide_eq_false_iff_not] at this
 rw [getElem!_pos d' j hj', getElem!_pos d' i hi'] at this
 simp only [Array.getElem_toList]
 omega
theorem sort_none (v : Value) (c : Nat) (p : Option Addr) (w : World) : Calls Tryz.prog 67 #[.slice p 0 c, v] w fun e w' => e = .returned (.tuple #[]) ∧ w' = w :=
 AnyF.slices_SortFunc_none { Tryz.laysSlF6_f67 with } p c v w
end
set_option maxRecDepth 100000
attribute [local go_sem ↓] Go.wp_at_zero Go.wp_at_succ
theorem rl_texts {K : World} : ∀ l : List Txt, RL K (textsL l) (l.map ks)
 | [] => RL.z
 | x :: r => .lit (rl_texts r)
def keyAt (S : List (Txt × Value)) (k : Nat) : Txt := ((S[k]?).map (·.1)).getD []
theorem keys_range (S : List (Txt × Value)) : (List.range S.length).map (keyAt S) = S.map (·.1) := by
 apply List.ext_getElem?
 intro j
 rw [List.getElem?_map, List.getElem?_map]
 rcases Nat.lt_or_ge j S.length with h | h
 · rw [List.getElem?_range h, List.getElem?_eq_getElem h]
   simp [keyAt, List.getElem?_eq_getElem h]
 · rw [List.getElem?_eq_none (by simpa using h), List.getElem?_eq_none h]; rfl
theorem seen_perm {n : Nat} {s : Array Nat} (h : SeenOk n s) (hall : ∀ k, k < n → k ∈ s) : s.toList.Perm (List.range n) :=
 (List.perm_ext_iff_of_nodup h.1 List.nodup_range).2 fun k => by
   rw [List.mem_range]
   exact ⟨fun hk => h.2 k hk, fun hk => by simpa using hall k hk⟩
def numV (q : Txt × Value) : Nat := match q.2 with | .int _ n => n.toNat | _ => 0
theorem sok_len {f : Nat → Option Txt} {s : List (Txt × Value)} {B : Nat} (h : SOk f s) (hB : ∀ n x, f n = some x → n < B) : s.length ≤ B := by
 have hk : List.Pairwise (fun q q' : Txt × Value => q.1 ≠ q'.1) s := by
  have := h.1
  unfold List.Nodup at this
  rw [List.pairwise_map] at this
  exact this
 have hn : (s.map numV).Nodup := by
  unfold List.Nodup
  rw [List.pairwise_map]
  refine List.Pairwise.imp_of_mem (fun {q q'} hq hq' hne he => ?_) hk
  obtain ⟨n, h1, h2⟩ := h.2 q hq
  obtain ⟨n', h1', h2'⟩ := h.2 q' hq'
  simp only [numV, h1, h1', Int.toNat_natCast] at he
  subst he
  rw [h2] at h2'
  injection h2' with h2'
  exact hne h2'
 have := nodup_lt B (s.map numV) hn (fun x hx => by
  obtain ⟨q, hq, rfl⟩ := List.mem_map.1 hx
  obtain ⟨n, h1, h2⟩ := h.2 q hq
  simp only [numV, h1, Int.toNat_natCast]
  exact hB n _ h2)
 simpa using this
theorem sort_none' {n : Nat} (h : n = 0) (v : Value) (c : Nat) (p : Option Addr) (w : World) : Calls Tryz.prog 67 #[.slice p n c, v] w fun e w' => e = .returned (.tuple #[]) ∧ w' = w := by
 subst h; exact sort_none v c p w
theorem pos1_hp (f : Txt → Int) (mv : Value) (gb : Nat) (W : World) (hc : W.cell? ⟨gb, 0, none⟩ = some mv) (hl : ∀ x, (Instr.lookup 87 mv (.string (str x)) false).run Tryz.prog W = .ok (.int .i64 (f x)) W) (hf : ∀ x, 0 ≤ f x ∧ f x ≤ 20000000) (x y : Txt) :
  Calls Tryz.prog 68 #[ks x, ks y, .pointer (some ⟨gb, 0, none⟩)] W fun e w' => e = .returned (.int .i64 (f x - f y)) ∧ w' = W := by
 have hx := hl x
 have hy := hl y
 have bx := hf x
 have hby := hf y
 have hw : IntKind.i64.wrap (f x - f y) = f x - f y := by simp [IntKind.wrap, IntKind.bits, IntKind.signed]; omega
 go_enter Tryz.func68, Tryz.ntmps68
 go_wp2_with (first
  | ((with_reducible show wpList _ _ _ (_ :: _) _ _); refine lookup_run (by rfl) (.tmp 6) (.tmp 7) 87 false (by rfl) (by first | rfl | simp [Act.eval, Act.put]) (by first | rfl | simp [Act.eval, Act.put]) hx ?_)
  | ((with_reducible show wpList _ _ _ (_ :: _) _ _); refine lookup_run (by rfl) (.tmp 9) (.tmp 10) 87 false (by rfl) (by first | rfl | simp [Act.eval, Act.put]) (by first | rfl | simp [Act.eval, Act.put]) hy ?_))
 go_ret
 exact ⟨by first | rfl | (rw [hw]; rfl) | simp [hw], rfl⟩
def PosP (D : TysD) (x : Txt) (w0 K : World) (M : List Ent) (e : Ending) (w' : World) : Prop :=
 ∃ K' l v, e = .returned v ∧ Sat K' K ∧ Hp w0 w' K' M ∧ RD K' (.list l.length (textsL l)) v ∧ l.Perm ((setOf D.objects x).map (·.1)) ∧ l.Pairwise (fun a b => numAt (setOf D.objects x) a ≤ numAt (setOf D.objects x) b)
set_option maxHeartbeats 16000000 in
theorem Possible_t (v : Value) (x : Txt) (D : TysD) (w0 w K : World) (M : List Ent) (H : Hp w0 w K M) (hv : Tp K v D) (hW : TyW D) :
  Calls Tryz.prog 27 #[v, .string (str x)] w (PosP D x w0 K M) := by
 have hK := Sat.refl K
 obtain ⟨k0, hk0, k0z, k0s, k0b⟩ := info_parts string_info
 have hSO := setOf_ok hW.o x
 have hfb : ∀ y, 0 ≤ numAt (setOf D.objects x) y ∧ numAt (setOf D.objects x) y ≤ 20000000 := by
  intro y
  have hN := hW.nT
  unfold numAt
  rcases sok_find hSO y with ⟨h, _⟩ | ⟨n, h, hn, _⟩
  · rw [h]; exact ⟨by simp, by simp⟩
  · rw [h]
    have := nmAt_le hn
    exact ⟨by simp, by simp only; omega⟩
 have hnv := numAt_val hSO
 have hSL : (setOf D.objects x).length ≤ 3002000 := sok_len hSO (fun n y hy => Nat.lt_of_lt_of_le (nmAt_le hy) hW.nT)
 obtain ⟨S, hS0⟩ : ∃ S, setOf D.objects x = S := ⟨_, rfl⟩
 have HS := hide hS0
 rw [hS0] at hfb hnv hSL
 clear hSO
 go_enter Tryz.func27, Tryz.ntmps27
 go_upto_region 1 with (fail)
 have h1 := fun OB go w ho => run_lookup_k (P := Tryz.prog) (w := w) (t := 89) (kt := 9) (et := 87) (l := ovals OB) (b := go) Tryz.underlying89 (keys_s Tryz.underlying9) (.map none) (zero_map w) ho x false
 have hmv : ∀ (K5 : World) (ga gd gf go : Nat) (sch : List Value) (VT VD : Value) (OB : List (Txt × Nat × List (Txt × Value))) (g9 : Nat), Tys K5 g9 D ga gd gf go sch VT VD OB → ∃ mv, (∀ w, Km w go (kents ks (ovals OB)) → (Instr.lookup 89 (.map (some go)) (.string (str x)) false).run Tryz.prog w = .ok mv w) ∧ ((mv = .map none ∧ S = []) ∨ ∃ b, mv = .map (some b) ∧ Km K5 b (kents ks S)) := by
  intro K5 ga gd gf go sch VT VD OB g9 T
  rcases oset x OB with ⟨hf, hS⟩ | ⟨p, hp, hf, hS⟩
  · exact ⟨.map none, fun w ho => by rw [h1 OB go w ho, hf]; rfl, .inl ⟨rfl, by rw [← HS.out, T.om, hS]⟩⟩
  · exact ⟨.map (some p.2.1), fun w ho => by rw [h1 OB go w ho, hf]; rfl, .inr ⟨_, rfl, by rw [← HS.out, T.om, hS]; exact T.sets p hp⟩⟩
 clear h1
 go_upto_region 3 with (first
  | (go_at_call 64; refine (all_t _ D _ _ K _ H hv).mono ?_; clear H; rintro e w5 ⟨K5, g9, rfl, hle, H, hT5⟩; replace hK := hle.trans hK; obtain ⟨ga, gd, gf, go, sch, VT, VD, OB, T⟩ := hT5; have h22 := H.kcell T.a.box T.a.c22)
  | ((with_reducible show wpList _ _ _ (_ :: _) _ _); obtain ⟨mv, hlk, hmk⟩ := hmv _ _ _ _ _ _ _ _ _ _ T; refine lookup_run (by rfl) (.tmp 12) (.tmp 13) 89 false (by rfl) (by first | rfl | simp [Act.eval, Act.put]) (by first | rfl | simp [Act.eval, Act.put]) (hlk _ (H.kmap T.objects)) ?_)
  | ((with_reducible show wpList _ _ _ (_ :: _) _ _); refine alloc_hp (by rfl) 87 (by rfl) [.map none] (by kernel_rfl) (some 5) (by rfl) H ?_; clear H; intro w6 g5 H hg5; clear hg5)
  | ((with_reducible show wpList _ _ _ (_ :: _) _ _); refine store_hp (by rfl) 87 (.tmp 5) (.tmp 14) (by rfl) g5 0 (by first | rfl | simp [Act.eval, Act.put]) mv (by first | rfl | simp [Act.eval, Act.put]) [mv] (by rcases hmk with ⟨rfl, _⟩ | ⟨b, rfl, _⟩ <;> rfl) (by rcases hmk with ⟨rfl, _⟩ | ⟨b, rfl, _⟩ <;> simp [Value.oneCell']) (by kernel_rfl) H 0 [.map none] [mv] 87 (by rfl) (Nat.le_of_ble_eq_true (by rfl)) (by rfl) ?_; clear H; intro w7 H; replace H : Hp w0 w7 K5 (.box g5 [mv] 87 :: M) := H; have hc5 : (w7).cell? ⟨g5, 0, none⟩ = some mv := H.cell (i := 0) rfl rfl))
 rcases hmk with ⟨rfl, hSn⟩ | ⟨b, rfl, hSk⟩
 · go_wp2_with (first
    | ((with_reducible show wpList _ _ _ (_ :: _) _ _); refine range_nil_hp (by rfl) 87 (.tmp 15) (by rfl) Tryz.underlying87 (by first | rfl | simp [Act.eval, Act.put]) (some 16) (by rfl) H ?_; clear H; intro w8 r H))
   try simp only [Act.put, List.getElem_toArray, List.getElem_cons_zero, List.getElem_cons_succ, List.setIfInBounds_toArray, List.set_cons_zero, List.set_cons_succ]
   go_loopw [6, 17] (fun o _ wr => o = .slice none 0 0 ∧ Hp w0 wr K5 (iter0 r :: .box g5 [.map none] 87 :: M)) (fun _ _ _ => 0)
   case atStart => exact ⟨rfl, H⟩
   case round =>
    clear H
    obtain ⟨rfl, H⟩ := hrel
    go_upto_region 7 with (first
     | ((with_reducible show wpList _ _ _ (_ :: _) _ _); refine next_nil_hp (by rfl) (.tmp 16) (by rfl) (by first | rfl | simp [Act.eval, Act.put]) H 0 (by rfl) ?_))
    have hsn := sort_none (.func (.func 68) #[] #[.pointer (some ⟨g5, 0, none⟩)]) 0 none wr
    go_wp2_with (first
     | (go_at_call 67; refine hsn.mono ?_; clear hsn; rintro e w9 ⟨rfl, rfl⟩))
    replace H := Hp.tail (Hp.tail H)
    go_ret
    exact ⟨K5, [], _, rfl, hK, H, RD.z, by rw [HS.out, hSn]; exact List.Perm.nil, List.Pairwise.nil⟩
 · obtain ⟨n, hn⟩ : ∃ n, (kents ks S).length = n := ⟨_, rfl⟩
   have hSl : S.length = n := by rw [← hn]; unfold kents; rw [List.length_map]
   go_wp2_with (first
    | ((with_reducible show wpList _ _ _ (_ :: _) _ _); refine range_hp (by rfl) 87 (.tmp 15) (by rfl) Tryz.underlying87 b (kents ks S) (H.kmap hSk) (by first | rfl | simp [Act.eval, Act.put]) (some 16) (by rfl) H ?_; clear H; intro w8 r H))
   try simp only [Act.put, List.getElem_toArray, List.getElem_cons_zero, List.getElem_cons_succ, List.setIfInBounds_toArray, List.set_cons_zero, List.set_cons_succ]
   rw [hn] at H
   have heg : ∀ args w, (callFunc 68 args).run Tryz.prog w = .ok (.enter 68 args) w := enters_of Tryz.func68 (by kernel_rfl) rfl
   go_loopw [6, 17] (fun o _ wr => ∃ s : Array Nat, SeenOk n s ∧ Hp w0 wr K5 (.row 9 1 o s.size ((s.toList.map (keyAt S)).map ks) :: iter r b n s :: .box g5 [.map (some b)] 87 :: M)) (fun _ _ wr => n - seenN wr r)
   case atStart => exact ⟨#[], ⟨List.nodup_nil, fun _ h => by cases h⟩, H.nilRow 9 1⟩
   case round =>
    clear H
    obtain ⟨s, hs, H, hrow⟩ : ∃ (s : Array Nat) (hs : SeenOk n s) (H : Hp w0 wr K5 (.row 9 1 _ s.size ((s.toList.map (keyAt S)).map ks) :: iter r b n s :: .box g5 [.map (some b)] 87 :: M)), True := by
     obtain ⟨s, hs, H⟩ := hrel
     exact ⟨s, hs, H, trivial⟩
    obtain ⟨Av, cv, hov, hcv1, hcv2⟩ := H.slice (i := 0) rfl
    subst hov
    have hsn := seen_iter H.tail
    have hsle := hs.le
    have H0 : Hp w0 wr K5 (.row 9 1 (.slice Av s.size cv) s.size ((s.toList.map (keyAt S)).map ks) :: iter r b (kents ks S).length s :: .box g5 [.map (some b)] 87 :: M) := by rw [hn]; exact H
    go_wp2_with (first
     | ((with_reducible show wpList _ _ _ (_ :: _) _ _); refine next_hp (by rfl) (.tmp 16) (by rfl) (by first | rfl | simp [Act.eval, Act.put]) H0 1 b (kents ks S) s (by rfl) (H.kmap hSk) ?_ ?_))
    · intro hall
      have hperm : (s.toList.map (keyAt S)).Perm (S.map (·.1)) := by
       rw [← keys_range, hSl]
       exact (seen_perm hs (fun k hk => by simpa using hall k hk)).map (keyAt S)
      have hLl : (s.toList.map (keyAt S)).length = s.size := by simp
      by_cases h0 : s.size = 0
      · have hsn := sort_none' h0 (.func (.func 68) #[] #[.pointer (some ⟨g5, 0, none⟩)]) cv Av wr
        have he : s.toList.map (keyAt S) = [] := List.eq_nil_of_length_eq_zero (by rw [hLl, h0])
        have he := hide he
        clear h0 hall
        go_wp2_with (first
         | (go_at_call 67; refine hsn.mono ?_; clear hsn; rintro e w9 ⟨rfl, rfl⟩))
        obtain ⟨K6, hle6, H, hr⟩ := Hp.freezeRow H (rl_texts (s.toList.map (keyAt S)))
        replace H := Hp.tail (Hp.tail H)
        go_ret
        exact ⟨K6, s.toList.map (keyAt S), _, rfl, hle6.trans hK, H, by rw [hLl]; exact hr, by rw [HS.out]; exact hperm, by rw [he.out]; exact List.Pairwise.nil⟩
      · obtain ⟨blk, cb, hbv, -, -, -⟩ := H.rowAt (i := 0) rfl (by omega)
        injection hbv with e1 _ e3
        subst e1 e3
        have hg5 : g5 ≠ blk := fun e => (List.pairwise_cons.1 H.nd).1 _ (List.mem_cons_of_mem _ (List.mem_cons_self ..)) blk rfl (by rw [← e]; rfl)
        have hbb : b ≠ blk := fun e => by
         have hF := (H.fr _ (List.mem_cons_self ..) blk rfl).2
         have := hF _ (e ▸ hSk)
         cases this
        have hltg := H.lt (i := 2) rfl rfl
        have hltb := (Array.getElem?_eq_some_iff.1 (H.kmap hSk)).1
        have hcb := H.cell (i := 2) (j := 0) rfl rfl
        have hsort := sort_hp (cb := #[.pointer (some ⟨g5, 0, none⟩)]) (numAt S) H hLl (by omega) heg (fun W _ hW x y => pos1_hp (numAt S) (.map (some b)) g5 W ((World.cell?_of_block (hW g5 hltg hg5)).trans hcb) (fun z => (run_lookup_k (w := W) Tryz.underlying87 (keys_s Tryz.underlying9) (.int .i64 0) (zero_int W) ((hW b hltb hbb).trans (H.kmap hSk)) z false).trans (by rw [if_neg Bool.false_ne_true, hnv])) hfb x y)
        clear hbb hg5 hltg hltb hcb
        go_wp2_with (first
         | (go_at_call 67; refine hsort.mono ?_; clear hsort H H0; rintro e w9 ⟨rfl, L, hLp, hLs, H⟩))
        have hLL : L.length = s.size := hLp.length_eq.trans hLl
        obtain ⟨K6, hle6, H, hr⟩ := Hp.freezeRow H (rl_texts L)
        replace H := Hp.tail (Hp.tail H)
        go_ret
        exact ⟨K6, L, _, rfl, hle6.trans hK, H, by rw [hLL]; exact hr, by rw [HS.out]; exact hLp.trans hperm, by rw [HS.out]; exact hLs⟩
    · intro k x1 x2 w9 hkx hks H9
      obtain ⟨q, hq, he⟩ := kents_at hkx
      injection he with e1 e2
      subst e1 e2
      have hkn : k < n := by rw [← hn]; exact (List.getElem?_eq_some_iff.1 hkx).1
      have hsp := hs.push hkn hks
      have hspl := hsp.le
      have hkey : keyAt S k = q.1 := by simp [keyAt, hq]
      have H7 : Hp w0 w9 K5 (.row 9 1 (.slice Av s.size cv) s.size ((s.toList.map (keyAt S)).map ks) :: iter r b (kents ks S).length (s.push k) :: .box g5 [.map (some b)] 87 :: M) := by rw [hn, List.map_map]; exact H9
      clear H H0 H9
      have H := H7
      rw [hn] at H
      go_wp2_with (first
       | (refine buildSlice_hp (by rfl) 27 9 1 _ (by rfl) (some 23) (by rfl) Tryz.underlying27 [.string (str q.1)] (by kernel_rfl) H ?_; clear H; intro w1 g23 H)
       | (at_builtin; refine append_hp (by rfl) _ _ 27 (by rfl) 9 k0 _ 1 16 Tryz.underlying27 hk0 k0z k0s k0b (by rfl) (by decide) H 1 (.slice Av s.size cv) (s.size) (((s.toList.map (keyAt S)).map ks)) (by rfl) (by first | rfl | simp [Act.eval, Act.put]) (some ⟨g23, 0, none⟩) 1 1 [.string (str q.1)] (by first | rfl | simp [Act.eval, Act.put]) (by rfl) (H.rd (i := 0) rfl) (by simp [Value.oneCell']) (by simp only [maxLen]; omega) (by omega) ?_; clear H; intro V2 w2 H; replace H : Hp w0 w2 K5 (.box g23 [.string (str q.1)] 9 :: .row 9 1 (V2) (s.size + 1) (((s.toList.map (keyAt S)).map ks) ++ [.string (str q.1)]) :: (iter r b n (s.push k) :: .box g5 [.map (some b)] 87 :: M)) := H; obtain ⟨V2A, V2c, rfl, V2l, V2m⟩ := H.slice (i := 1) rfl)
       | ((with_reducible show wpList _ _ _ (_ :: _) _ _); refine entry_hp (by rfl) (.tmp 16) (by rfl) (by first | rfl | simp [Act.eval, Act.put]) H7 1 b (kents ks S) s k (ks q.1, q.2) (by rfl) (H7.kmap hSk) hkx ?_))
      replace H := H.sub (List.Sublist.cons _ (List.Sublist.cons_cons _ (List.Sublist.refl _)))
      have hsn6 := seen_iter H.tail
      go_roundw
      case rel =>
       refine ⟨s.push k, hsp, ?_⟩
       rw [Array.size_push, Array.toList_push, List.map_append, List.map_append]
       simp only [List.map_cons, List.map_nil, hkey]
       exact H
      case measure =>
       rw [hsn6, hsn]
       rw [Array.size_push] at hspl ⊢
       omega
def zeroF : FieldD := ⟨noteZ, [], [], ([], []), [], 0, 0⟩
theorem at_range {w : World} {B O : Nat} {vs : List Value} (h : At w ⟨B, O, none⟩ vs) : w.rangeAt B O vs := fun k u hu => by
 cases k with
 | zero => exact h.1 u hu
 | succ k => exact h.2 k u hu
theorem read_b (src : Txt) (defs : List DefD) (hp : ParsedOk src defs) (w0 w K : World) (M : List Ent) (H : Hp w0 w K M) :
  Calls Tryz.prog 13 #[.string (str src)] w fun e w' => ∃ K' A c, e = .returned (.slice A defs.length c) ∧ Sat K' K ∧ Hp w0 w' K' M ∧ RD K' (.list defs.length (defsL defs)) (.slice A defs.length c) := read_hp H hp rfl
theorem own_len {l : List Txt} {x : Txt} (h : l.Perm [x]) : l = [x] := List.perm_singleton.1 h
def buildSrc : Txt := List.append [101, 120, 116, 101, 110, 100, 32, 116, 121, 112, 101, 32, 81, 117, 101, 114, 121, 123, 98, 58, 91, 73, 110, 116, 33, 93, 33, 125, 32, 116, 121, 112, 101, 32, 81, 117, 101, 114, 121] [123, 97, 58, 73, 110, 116, 125, 32, 116, 121, 112, 101, 32, 81, 117, 101, 114, 121, 123, 99, 58, 73, 110, 116, 125, 32, 117, 110, 105, 111, 110, 32, 85, 61, 81, 117, 101, 114, 121]
def buildToks : List TokD := (tokensF buildSrc).getD []
def buildDefs : List DefD := (defsGo buildToks 100 50 100 0).getD []
theorem build_parsed : ParsedOk buildSrc buildDefs :=
 ⟨of_decide_eq_true (by kernel_rfl), buildToks, 40, 40, 3000, 100, 50, by kernel_rfl, of_decide_eq_true (by kernel_rfl), by omega, by kernel_rfl, by omega, by kernel_rfl⟩
theorem build_N : defsN buildDefs ≤ 1000 := of_decide_eq_true (by kernel_rfl)
def queryT : Txt := [81, 117, 101, 114, 121]
def uT : Txt := [85]
def D0 : TysD := buildD buildDefs
theorem D0_W : TyW D0 := buildD_W buildDefs (by have := build_N; omega)
theorem D0_root : rootNm D0.schema.roots 1 = queryT := by kernel_rfl
def Q0 : DefD := (lookD D0.types queryT).getD zeroD
def F0 : FieldD := Q0.fields.getD 0 zeroF
def F1 : FieldD := Q0.fields.getD 1 zeroF
theorem D0_look : lookD D0.types queryT = some Q0 := by kernel_rfl
theorem Q0_fields : Q0.fields = [F0, F1] := by kernel_rfl
theorem Q0_len : Q0.fields.length = 2 := by rw [Q0_fields]; rfl
theorem D0_set : (setOf D0.objects uT).map (·.1) = [queryT] := by kernel_rfl
theorem D0_in : withinD D0 queryT uT = true := by kernel_rfl
theorem D0_out : withinD D0 uT queryT = false := by kernel_rfl
set_option maxHeartbeats 16000000 in
theorem builds_hp (w0 w K : World) (M : List Ent) (H : Hp w0 w K M) :
  Calls Tryz.prog 24 #[] w fun e w' => ∃ K', e = .returned (.bool true) ∧ Sat K' K ∧ Hp w0 w' K' M := by
 have hK := Sat.refl K
 have hq : ((str queryT).toList == [81, 117, 101, 114, 121]) = true := by kernel_rfl
 have hn0 : ((str F0.name).toList == [97]) = true := by kernel_rfl
 have hn1 : ((str F1.ty.2).toList == [33, 93, 33]) = true := by kernel_rfl
 go_enter Tryz.func24, Tryz.ntmps24
 go_upto_region 4 with (first
  | (go_at_call 13; refine (read_b buildSrc buildDefs build_parsed _ _ _ _ H).mono ?_; clear H; rintro e w1 ⟨K1, Ad, cd, rfl, hle1, H, hd⟩; replace hK := hle1.trans hK)
  | (go_at_call 14; refine (Build_hp buildDefs _ cd Ad _ _ _ _ H rfl hd (by have := build_N; omega)).mono ?_; clear H; rintro e w2 ⟨K2, g, rfl, hle2, H, hT⟩; replace hd := hd.sat hle2; replace hK := hle2.trans hK)
  | (go_at_call 17; refine (Root_t (.pointer (some ⟨g, 0, none⟩)) 1 D0 _ _ _ _ H hT.tp D0_W).mono ?_; clear H; rintro e w3 ⟨K3, rfl, hle3, H⟩; replace hd := hd.sat hle3; replace hT := hT.sat hle3; replace hK := hle3.trans hK; rw [D0_root]))
 go_upto_region 5 with (first
  | (go_at_call 19; refine (Type_t (.pointer (some ⟨g, 0, none⟩)) queryT D0 _ _ _ _ H hT.tp D0_W).mono ?_; clear H; rintro e w4 ⟨K4, v4, rfl, hle4, H, cs4, rfl, hd4⟩; replace hd := hd.sat hle4; replace hT := hT.sat hle4; replace hK := hle4.trans hK; simp only [D0_look, Option.getD_some] at hd4; rw [D0_look]; obtain ⟨B6, e6, B7, e7, B8, e8, B9, e9, B10, e10, B11, e11, B12, e12, B14, e14, hcs4, -, -, df, -, -, -, -, -⟩ := def_cells hd4; rw [Q0_len] at hcs4 df; rw [Q0_fields] at df; obtain ⟨ad0, xs0, hB8, hx0, -, hat0⟩ := elem_k (m := 10) (f := fieldL) (k := 0) (fun _ => rfl) df rfl (by omega); subst hB8; obtain ⟨bf, of, hbo⟩ := slice_plain (m := 10) (f := fieldL) (fun _ => rfl) df (by simp) (by omega); subst hbo; obtain ⟨ad1, xs1, hB9, hx1, -, hat1⟩ := elem_k (m := 10) (f := fieldL) (k := 1) (fun _ => rfl) df rfl (by omega); injection hB9 with hB9; subst hB9; obtain rfl : cs4 = #[.int .i64 Q0.kind, .bool Q0.ext, .bool Q0.note.has, .bool Q0.note.block, .string (str Q0.note.text), .string (str Q0.name), .slice B6 Q0.ifaces.length e6, .slice B7 Q0.dirs.length e7, .slice (some ⟨bf, of, none⟩) 2 e8, .slice B9 Q0.inputs.length e9, .slice B10 Q0.members.length e10, .slice B11 Q0.values.length e11, .slice B12 Q0.roots.length e12, .bool Q0.rep, .slice B14 Q0.places.length e14, .int .i64 Q0.line, .int .i64 Q0.col] := Array.toList_inj.1 hcs4)
  | ((with_reducible refine isL ?_); first
   | (refine al z43 2 H ?_; clear H; intro w5 g2 H)
   | (refine sA 2 0 H ?_; clear H; intro w7 H)))
 obtain ⟨Af0, cf0, Ag0, cg0, hx0e, -, -⟩ := fieldD_cells hx0
 obtain ⟨Af1, cf1, Ag1, cg1, hx1e, -, -⟩ := fieldD_cells hx1
 subst hx0e hx1e
 rw [plain_add] at hat0 hat1
 have f0 := H.sat.cell ((at_range hat0) 3 _ rfl)
 have f1 := H.sat.cell ((at_range hat1) 6 _ rfl)
 simp only [Nat.zero_mul, Nat.add_zero, Nat.one_mul] at f0 f1
 clear hd4 hcs4 df hx0 hx1 hat0 hat1
 have := H.c 0 8
 go_upto_region 8 with (first
  | (go_at_call 27; refine (Possible_t (.pointer (some ⟨g, 0, none⟩)) uT D0 _ _ _ _ H hT.tp D0_W).mono ?_; clear H; rintro e w7 ⟨K7, l7, v7, rfl, hle7, H, hl7, hp7, -⟩; replace hd := hd.sat hle7; replace hT := hT.sat hle7; replace hK := hle7.trans hK; rw [D0_set] at hp7; obtain rfl := own_len hp7; replace hl7 : RD K7 (.list 1 (textsL [queryT])) v7 := hl7; obtain ⟨A7, c7, hv7, -, -⟩ := slice_of hl7; subst hv7; obtain ⟨ad7, xs7, hA7, hx7, -, hat7⟩ := elem_k (m := 1) (f := fun x => [str' x]) (l := [queryT]) (k := 0) (fun _ => rfl) hl7 rfl (by omega); subst hA7; obtain ⟨b7, o7, hbo7⟩ := slice_plain (m := 1) (f := fun x => [str' x]) (l := [queryT]) (fun _ => rfl) hl7 (by simp) (by omega); subst hbo7; have := H.c 0 8))
 have x7 : xs7 = [.string (str queryT)] := by
  obtain ⟨r0, e0, h0⟩ := DatL.lit_inv hx7
  rw [e0, h0.nil_inv]
 subst x7
 rw [plain_add] at hat7
 have f7 := H.sat.cell ((at_range hat7) 0 _ rfl)
 simp only [Nat.zero_mul, Nat.add_zero] at f7
 clear hl7 hx7 hat7 hp7 f0 f1
 have mk1 := True.intro
 go_wp2_with (first
  | (go_at_call 37; clear mk1; refine (Within_t (.pointer (some ⟨g, 0, none⟩)) queryT uT D0 _ _ _ _ H hT.tp D0_W).mono ?_; clear H; rintro e w8 ⟨K8, rfl, hle8, H⟩; replace hT := hT.sat hle8; replace hK := hle8.trans hK; rw [D0_in])
  | (go_at_call 37; refine (Within_t (.pointer (some ⟨g, 0, none⟩)) uT queryT D0 _ _ _ _ H hT.tp D0_W).mono ?_; clear H; rintro e w9 ⟨K9, rfl, hle9, H⟩; replace hT := hT.sat hle9; replace hK := hle9.trans hK; rw [D0_out]))
 go_ret
 exact ⟨_, rfl, hK, H.tail⟩
end Go.Proofs.YtbpgkkoeehopjaaGreat.hp
namespace Go.Proofs.YtbpgkkoeehopjaaGreat.ty
open Go.RowKit Go.Proofs.YtbpgkkoeehopjaaGreat.lex Go.Proofs.YtbpgkkoeehopjaaGreat.gram Go.Proofs.YtbpgkkoeehopjaaGreat.rd Go.Proofs.YtbpgkkoeehopjaaGreat.tree Go.Proofs.YtbpgkkoeehopjaaGreat.dat Go.Proofs.YtbpgkkoeehopjaaGreat.hp
def implB (t : Txt) (d : DefD) : Bool := (d.kind == 3) && d.ifaces.any fun n => decide (n.name = t)
def defOf (ts : List DefD) (t : Txt) : Option DefD := (numOf ts t).bind fun i => ts[i]?
def memS (ts : List DefD) (ms : List NamedD) (s : List (Txt × Value)) : List (Txt × Value) := ms.zipIdx.foldl (fun s q => if kindOf ts q.1.name = 3 then setAdd s q.1.name q.2 else s) s
def setL (ts : List DefD) (t : Txt) : List (Txt × Value) :=
 if kindOf ts t = 3 then [(t, .int .i64 (((numOf ts t).getD 0 : Nat) : Int))]
 else if kindOf ts t = 4 then (ts.zipIdx.filter fun p => implB t p.1).map fun p => (p.1.name, .int .i64 ((p.2 : Nat) : Int))
 else if kindOf ts t = 5 then memS ts (((defOf ts t).map (·.members)).getD []) []
 else []
end Go.Proofs.YtbpgkkoeehopjaaGreat.ty
namespace Go.Proofs.YtbpgkkoeehopjaaGreat.hp
open Go.RowKit Go.Proofs.YtbpgkkoeehopjaaGreat.lex Go.Proofs.YtbpgkkoeehopjaaGreat.gram Go.Proofs.YtbpgkkoeehopjaaGreat.rd Go.Proofs.YtbpgkkoeehopjaaGreat.tree Go.Proofs.YtbpgkkoeehopjaaGreat.dat Go.Proofs.YtbpgkkoeehopjaaGreat.ty
theorem lookD_def (ts : List DefD) (x : Txt) : lookD ts x = defOf ts x := rfl
theorem kind_def (ts : List DefD) (x : Txt) : kindOf ts x = ((defOf ts x).map (·.kind)).getD 0 := rfl
theorem def_name {ts : List DefD} {x : Txt} {d : DefD} (h : defOf ts x = some d) : d.name = x ∧ ∃ i, ts[i]? = some d ∧ numOf ts x = some i := by
 unfold defOf at h
 cases hi : numOf ts x with
 | none => rw [hi] at h; cases h
 | some i =>
  rw [hi] at h
  obtain ⟨e, he, hn⟩ := numOf_some hi
  have : ts[i]? = some d := h
  rw [this] at he
  injection he with he
  subst he
  exact ⟨hn, i, this, rfl⟩
def KOk (ts : List DefD) : Prop := ∀ d ∈ ts, 2 ≤ d.kind ∧ d.kind ≤ 7
theorem given_kinds : KOk givenT := by
 have : (givenT.all fun d => decide (2 ≤ d.kind ∧ d.kind ≤ 7)) = true := by kernel_rfl
 exact fun d hd => of_decide_eq_true (List.all_eq_true.1 this d hd)
theorem types_kinds (l : List DefD) : KOk (typesOf l) := by
 have h1 : ∀ (ts : List DefD) (d : DefD), (2 ≤ d.kind ∧ d.kind ≤ 7) → KOk ts → KOk (addD ts d) := fun ts d hd h e he => by
  unfold addD at he
  split at he
  · exact h e he
  · rcases List.mem_append.1 he with he | he
    · exact h e he
    · obtain rfl := List.mem_singleton.1 he; exact hd
 have hb : KOk (bare l).1 := by
  refine foldl_keep (Q := fun p : List DefD × List DefD => KOk p.1) (fun p d h => ?_) l ([], []) (fun _ h => by cases h)
  unfold step1
  split
  · exact h
  · split
    · rename_i hi
      dsimp only
      split
      · exact h
      · exact h1 _ _ ⟨hi.1, hi.2.1⟩ h
    · exact h
 have ht : KOk (types1 l) := foldl_mem (Q := KOk) givenT _ (fun ts d hd h => h1 ts d (given_kinds d hd) h) hb
 refine foldl_keep (Q := KOk) (fun ts d h => ?_) l _ ht
 unfold ty.step2
 split
 · exact h
 · split
   · exact h
   · split
     · rename_i e he _
       intro x hx
       rcases List.mem_or_eq_of_mem_set hx with hx | rfl
       · exact h x hx
       · exact h e (List.mem_of_getElem? he)
     · exact h
theorem kind_nz {ts : List DefD} (hk : KOk ts) (x : Txt) : (defOf ts x).isSome = decide (kindOf ts x ≠ 0) := by
 rw [kind_def]
 cases h : defOf ts x with
 | none => rfl
 | some d =>
  obtain ⟨_, i, hi, _⟩ := def_name h
  have := hk d (List.mem_of_getElem? hi)
  simp only [Option.isSome_some, Option.map_some, Option.getD_some]
  symm
  rw [decide_eq_true_eq]; omega
section
variable {ts : List DefD} (hn : (namesD ts).Nodup)
include hn
end
section
variable (defs : List DefD)
theorem buildD_types : (buildD defs).types = typesOf defs := rfl
theorem within_self (a : Txt) : withinD (buildD defs) a a = decide (kindOf (buildD defs).types a ≠ 0) := by
 unfold withinD
 by_cases h : kindOf (buildD defs).types a = 0
 · rw [if_pos (.inl h)]; simp [h]
 · rw [if_neg (by omega), if_pos rfl]; simp [h]
end
open Go.Proofs.YtbpgkkoeehopjaaGreat.words Go.Proofs.YtbpgkkoeehopjaaGreat.enc Go.Proofs.YtbpgkkoeehopjaaGreat.dec Go.Proofs.YtbpgkkoeehopjaaGreat.held
set_option maxRecDepth 100000
set_option maxHeartbeats 40000000
attribute [local go_sem ↓] Go.wp_at_zero Go.wp_at_succ
section
variable {w0 w K : World} {M : List Ent}
theorem Type_k (v : Value) (x : Txt) (D : TysD) (H : Hp w0 w K M) (hv : Tp K v D) (hW : TyW D) {o : Bool} {d : DefD} (h1 : (lookD D.types x).isSome = o) (h2 : (lookD D.types x).getD zeroD = d) :
  Calls Tryz.prog 19 #[v, .string (str x)] w fun e w' => ∃ K' cs, e = .returned (.tuple #[.agg cs, .bool o]) ∧ Sat K' K ∧ Hp w0 w' K' M ∧ RL K' (defL d) cs.toList := by
 refine (Type_t v x D w0 w K M H hv hW).mono ?_
 rintro e w' ⟨K', v', rfl, hle, H, cs, rfl, hd⟩
 rw [h1]
 rw [h2] at hd
 exact ⟨K', cs, rfl, hle, H, hd⟩
end
end Go.Proofs.YtbpgkkoeehopjaaGreat.hp
namespace Go.Proofs.YtbpgkkoeehopjaaGreat.hp
open Go.RowKit Go.Proofs.YtbpgkkoeehopjaaGreat.words Go.Proofs.YtbpgkkoeehopjaaGreat.enc Go.Proofs.YtbpgkkoeehopjaaGreat.tree Go.Proofs.YtbpgkkoeehopjaaGreat.gram Go.Proofs.YtbpgkkoeehopjaaGreat.lex Go.Proofs.YtbpgkkoeehopjaaGreat.rd Go.Proofs.YtbpgkkoeehopjaaGreat.dec Go.Proofs.YtbpgkkoeehopjaaGreat.dat Go.Proofs.YtbpgkkoeehopjaaGreat.held Go.Proofs.YtbpgkkoeehopjaaGreat.ty
set_option maxRecDepth 100000
attribute [local go_sem ↓] Go.wp_at_zero Go.wp_at_succ
def lastB (m : Txt) : Int := match m.getLast? with | none => 0 | some b => (b.toNat : Int)
theorem str_empty (m : Txt) : (str m).toList.isEmpty = m.isEmpty := by
 have e : (str []).toList = [] := by kernel_rfl
 have h := str_toList m []
 rw [e] at h
 cases m with
 | nil => rw [e]
 | cons a r =>
  rw [decide_eq_false (by simp)] at h
  cases hx : (str (a :: r)).toList with
  | nil => rw [hx] at h; simp at h
  | cons x y => rfl
theorem str_at (l : Txt) (i : Nat) (h : i < (str l).size) (h2 : i < l.length) : (str l)[i] = l[i] := by
 rfl
theorem lastB_snoc (m : Txt) (b : UInt8) : lastB (m ++ [b]) = (b.toNat : Int) := by simp [lastB]
theorem last_nil (n : Txt) (w0 w K : World) (M : List Ent) (H : Hp w0 w K M) :
  Calls Tryz.prog 89 #[.agg #[.string (str n), .string (str [])]] w fun e w' => e = .returned (.int .u8 (lastB [])) ∧ Hp w0 w' K M := by
 have he : (str []).toList.isEmpty = true := str_empty []
 go_enter Tryz.func89, Tryz.ntmps89
 go_wp2_with (first
  | (refine box_hp (by rfl) 50 (.tmp 0) (by rfl) [.string (str n), .string (str [])] _ (by rfl) (by rfl) (some 1) (by rfl) H ?_; clear H; intro w1 g1 H hg2; clear hg2; have := H.c 0 1))
 replace H := H.sub (List.Sublist.cons _ (List.Sublist.refl _))
 go_ret
 exact ⟨rfl, H⟩
theorem last_cons (n m : Txt) (b : UInt8) (w0 w K : World) (M : List Ent) (H : Hp w0 w K M) (h63 : m.length + 1 ≤ maxLen) :
  Calls Tryz.prog 89 #[.agg #[.string (str n), .string (str (m ++ [b]))]] w fun e w' => e = .returned (.int .u8 (lastB (m ++ [b]))) ∧ Hp w0 w' K M := by
 have hsz := str_size (m ++ [b])
 have he : (str (m ++ [b])).toList.isEmpty = false := by rw [str_empty]; simp
 have hlen : (m ++ [b]).length = m.length + 1 := by simp
 rw [hlen] at hsz
 have hix := str_at (m ++ [b]) m.length (by omega) (by omega)
 have hg : (m ++ [b])[m.length]'(by omega) = b := by simp
 rw [lastB_snoc]
 simp only [maxLen] at h63
 go_enter Tryz.func89, Tryz.ntmps89
 have hwr : wrap64 (((m.length + 1 : Nat) : Int) - 1) = (m.length : Int) := by simp [wrap64]; omega
 go_wp2_with (first
  | (refine box_hp (by rfl) 50 (.tmp 0) (by rfl) [.string (str n), .string (str (m ++ [b]))] _ (by rfl) (by rfl) (some 1) (by rfl) H ?_; clear H; intro w3 g1 H hg4; clear hg4; have := H.c 0 1))
 replace H := H.sub (List.Sublist.cons _ (List.Sublist.refl _))
 go_ret
 have hb := hix.trans hg
 exact ⟨congrArg (fun z : UInt8 => Ending.returned (.int .u8 (z.toNat : Int))) hb, H⟩
theorem last_hp (n m : Txt) (w0 w K : World) (M : List Ent) (H : Hp w0 w K M) (h63 : m.length ≤ maxLen) :
  Calls Tryz.prog 89 #[.agg #[.string (str n), .string (str m)]] w fun e w' => e = .returned (.int .u8 (lastB m)) ∧ Hp w0 w' K M := by
 rcases List.eq_nil_or_concat m with rfl | ⟨l, b, rfl⟩
 · exact last_nil n w0 w K M H
 · rw [List.concat_eq_append] at h63 ⊢
   exact last_cons n l b w0 w K M H (by simpa using h63)
theorem str_cut (m : Txt) (b : UInt8) : (str (m ++ [b])).extract 0 m.length = str m := by
 have h : ((str (m ++ [b])).extract 0 m.length).data = (str m).data := by
  rw [ByteArray.data_extract]
  apply Array.toList_inj.1
  simp [str]
 exact ByteArray.ext h
theorem less_hp (n m : Txt) (b : UInt8) (w0 w K : World) (M : List Ent) (H : Hp w0 w K M) (h63 : m.length + 1 ≤ maxLen) :
  Calls Tryz.prog 90 #[.agg #[.string (str n), .string (str (m ++ [b]))]] w fun e w' => e = .returned (.agg #[.string (str n), .string (str m)]) ∧ Hp w0 w' K M := by
 have hsz := str_size (m ++ [b])
 have hlen : (m ++ [b]).length = m.length + 1 := by simp
 rw [hlen] at hsz
 have hcut := str_cut m b
 simp only [maxLen] at h63
 have hwr : wrap64 (((m.length + 1 : Nat) : Int) - 1) = (m.length : Int) := by simp [wrap64]; omega
 go_enter Tryz.func90, Tryz.ntmps90
 have hw2 : IntKind.i64.wrap (m.length : Int) = (m.length : Int) := by simp [IntKind.wrap, IntKind.bits, IntKind.signed]; omega
 have hle : (m.length : Int) ≤ ((m.length : Int) + 1) := by omega
 go_upto_region 1 with (first
  | (refine box_hp (by rfl) 50 (.tmp 0) (by rfl) [.string (str n), .string (str (m ++ [b]))] _ (by rfl) (by rfl) (some 1) (by rfl) H ?_; clear H; intro w5 g1 H hg6; clear hg6)
  | ((with_reducible refine isL ?_); first
   | (refine al z50 2 H ?_; clear H; intro w7 g2 H)))
 refine still_hp 10 (by kernel_rfl) (by kernel_rfl) H ?_
 clear H
 intro w9 H
 have := H.c 1 0
 have := H.c 1 1
 simp only [List.take_succ_cons, List.take_zero, List.drop_succ_cons, List.drop_zero]
 repeat still_step
 refine wpStill_nil ?_
 replace H : Hp _ _ _ (_ :: _ :: M) := H
 have := H.c 1 0
 have := H.c 1 1
 go_wp2_with (first
  | ((with_reducible refine isL ?_); first
   | (refine sA 2 0 H ?_; clear H; intro w10 H; have := H.c 1 0; have := H.c 1 1)))
 refine bodyPost_ret (v := .agg #[.string (str n), .string (str m)]) (results_cell_row rfl _ _ g2 50 _ (0, 0) _ (by rfl) (H.blkAt (i := 0) rfl) Tryz.underlying50 rfl (by kernel_rfl)) rfl ?_
 replace H := H.sub (List.Sublist.cons _ (List.Sublist.cons _ (List.Sublist.refl _)))
 exact ⟨rfl, H⟩
theorem last_split {m : Txt} {k : Nat} (h : lastB m = (k : Int)) (hk : 0 < k) : ∃ l b, m = l ++ [b] ∧ b.toNat = k := by
 rcases List.eq_nil_or_concat m with rfl | ⟨l, b, rfl⟩
 · simp [lastB] at h; omega
 · rw [List.concat_eq_append] at h ⊢
   rw [lastB_snoc] at h
   exact ⟨l, b, rfl, by omega⟩
def itemR (n m : Txt) : (Txt × Txt) × Bool :=
 if lastB (if lastB m = 33 then m.dropLast else m) = 93 then ((n, (if lastB m = 33 then m.dropLast else m).dropLast), true) else (([], []), false)
def bareR (n m : Txt) : (Txt × Txt) × Bool := if lastB m = 33 then ((n, m.dropLast), true) else ((n, m), false)
def refB (r : (Txt × Txt) × Bool) : Value := .tuple #[.agg #[.string (str r.1.1), .string (str r.1.2)], .bool r.2]
theorem Bare_hp (n m : Txt) (w0 w K : World) (M : List Ent) (H : Hp w0 w K M) (h63 : m.length ≤ 20000000) :
  Calls Tryz.prog 51 #[.agg #[.string (str n), .string (str m)]] w fun e w' => e = .returned (refB (bareR n m)) ∧ Hp w0 w' K M := by
 have hl : m.length ≤ maxLen := by simp only [maxLen]; omega
 by_cases h : lastB m = 33
 · obtain ⟨l, b, rfl, hb⟩ := last_split (k := 33) h (by omega)
   have hl2 : l.length + 1 ≤ maxLen := by simpa using hl
   have HR := hide (show refB (bareR n (l ++ [b])) = .tuple #[.agg #[.string (str n), .string (str l)], .bool true] by unfold bareR; rw [if_pos h]; simp [refB])
   go_enter Tryz.func51, Tryz.ntmps51
   go_upto_region 3 with (first
    | (refine box_hp (by rfl) 50 (.tmp 0) (by rfl) [.string (str n), .string (str (l ++ [b]))] _ (by rfl) (by rfl) (some 1) (by rfl) H ?_; clear H; intro w1 g1 H hg2; clear hg2)
    | (go_at_call 89; refine (last_hp n (l ++ [b]) _ _ _ _ H hl).mono ?_; clear H; rintro e w5 ⟨rfl, H⟩; rw [h])
    | ((with_reducible refine isL ?_); first
     | (refine al z50 2 H ?_; clear H; intro w3 g2 H)
     | (refine ld 1 1 2 Tryz.underlying50 H ?_)))
   go_wp2_with (first
    | (go_at_call 90; refine (less_hp n l b _ _ _ _ H hl2).mono ?_; clear H; rintro e w6 ⟨rfl, H⟩)
    | ((with_reducible refine isL ?_); first
     | (refine ld 1 1 2 Tryz.underlying50 H ?_)
     | (refine sA 2 0 H ?_; clear H; intro w7 H)))
   refine bodyPost_ret (results_box2 rfl _ _ g2 50 _ (0, 0) _ (by rfl) (H.blkAt (i := 0) rfl) Tryz.underlying50 rfl (by kernel_rfl)) rfl ?_
   replace H := H.sub (List.Sublist.cons _ (List.Sublist.cons _ (List.Sublist.refl _)))
   exact ⟨by rw [HR.out]; rfl, H⟩
 · have HR := hide (show refB (bareR n m) = .tuple #[.agg #[.string (str n), .string (str m)], .bool false] by unfold bareR; rw [if_neg h]; rfl)
   obtain ⟨q, hq⟩ : ∃ q, lastB m = q := ⟨_, rfl⟩
   rw [hq] at h
   have hb : (q == 33) = false := by simp [h]
   have hb2 : (q != 33) = true := by simp [h]
   go_enter Tryz.func51, Tryz.ntmps51
   go_wp2_with (first
    | (refine box_hp (by rfl) 50 (.tmp 0) (by rfl) [.string (str n), .string (str m)] _ (by rfl) (by rfl) (some 1) (by rfl) H ?_; clear H; intro w8 g1 H hg9; clear hg9)
    | (go_at_call 89; refine (last_hp n m _ _ _ _ H hl).mono ?_; clear H; rintro e w5 ⟨rfl, H⟩; rw [hq])
    | ((with_reducible refine isL ?_); first
     | (refine al z50 2 H ?_; clear H; intro w10 g2 H)
     | (refine ld 1 1 2 Tryz.underlying50 H ?_)
     | (refine ld 1 1 2 Tryz.underlying50 H ?_)
     | (refine sA 2 0 H ?_; clear H; intro w13 H)))
   refine bodyPost_ret (results_box2 rfl _ _ g2 50 _ (0, 0) _ (by rfl) (H.blkAt (i := 0) rfl) Tryz.underlying50 rfl (by kernel_rfl)) rfl ?_
   replace H := H.sub (List.Sublist.cons _ (List.Sublist.cons _ (List.Sublist.refl _)))
   exact ⟨by rw [HR.out]; rfl, H⟩
def fitsF (D : TysD) (a b : Txt) : Nat → Txt → Txt → Bool
 | 0, _, _ => false
 | k + 1, x, y =>
  if x = [] ∧ y = [] then withinD D a b
  else if (lastB y = 33 ∧ lastB x = 33) ∨ (lastB y = 93 ∧ lastB x = 93) then fitsF D a b k x.dropLast y.dropLast
  else if lastB y ≠ 33 ∧ lastB x = 33 then fitsF D a b k x.dropLast y
  else false
def fitsD (D : TysD) (a x b y : Txt) : Bool := fitsF D a b (x.length + y.length + 1) x y
def wlen (w : World) (g : Nat) : Nat := match w.cell? ⟨g, 1, none⟩ with | some (.string s) => s.size | _ => 0
theorem wlen_is {w : World} {g : Nat} {m : Txt} (h : w.cell? ⟨g, 1, none⟩ = some (.string (str m))) : wlen w g = m.length := by unfold wlen; rw [h]; exact str_size m
set_option maxHeartbeats 16000000 in
theorem Fits_t (v : Value) (a x b y : Txt) (D : TysD) (w0 w K : World) (M : List Ent) (H : Hp w0 w K M) (hv : Tp K v D) (hW : TyW D) (hxl : x.length ≤ 20000000) (hyl : y.length ≤ 20000000) :
  Calls Tryz.prog 49 #[v, .agg #[.string (str a), .string (str x)], .agg #[.string (str b), .string (str y)]] w fun e w' => ∃ K', e = .returned (.bool (fitsD D a x b y)) ∧ Sat K' K ∧ Hp w0 w' K' M := by
 obtain ⟨r, hr⟩ : ∃ r, fitsD D a x b y = r := ⟨_, rfl⟩
 rw [hr]
 unfold fitsD at hr
 go_enter Tryz.func49, Tryz.ntmps49
 go_wp2_with (first
  | ((with_reducible show wpList _ _ _ (_ :: _) _ _); refine box_hp (by rfl) 50 (.tmp 1) (by rfl) [.string (str a), .string (str x)] _ (by rfl) (by rfl) (some 4) (by rfl) H ?_; clear H; intro w1 g4 H hg1; clear hg1)
  | ((with_reducible show wpList _ _ _ (_ :: _) _ _); refine box_hp (by rfl) 50 (.tmp 2) (by rfl) [.string (str b), .string (str y)] _ (by rfl) (by rfl) (some 5) (by rfl) H ?_; clear H; intro w2 g5 H hg2; clear hg2))
 try simp only [Act.put, List.getElem_toArray, List.getElem_cons_zero, List.getElem_cons_succ, List.setIfInBounds_toArray, List.set_cons_zero, List.set_cons_succ]
 go_loopw [9] (fun _ wr => ∃ (k : Nat) (p q : Txt), p.length + q.length < k ∧ p.length ≤ 20000000 ∧ q.length ≤ 20000000 ∧ fitsF D a b k p q = r ∧ Hp w0 wr K (.box g5 [.string (str b), .string (str q)] 50 :: .box g4 [.string (str a), .string (str p)] 50 :: M)) (fun _ wr => wlen wr g4 + wlen wr g5)
 case atStart => exact ⟨_, x, y, Nat.lt_succ_self _, hxl, hyl, hr, H⟩
 case round =>
  clear H hr
  obtain ⟨k, p, q, hpq, hpl, hql, hr, H⟩ := hrel
  have hw4 := wlen_is (H.cell (i := 1) (j := 1) rfl rfl)
  have hw5 := wlen_is (H.cell (i := 0) (j := 1) rfl rfl)
  have hpe := str_empty p
  have hqe := str_empty q
  have hpm : p.length ≤ maxLen := by simp only [maxLen]; omega
  have hqm : q.length ≤ maxLen := by simp only [maxLen]; omega
  cases k with
  | zero => omega
  | succ k =>
   have HR := hide (show fitsF D a b (k + 1) p q = _ from rfl)
   by_cases hnil : p = [] ∧ q = []
   · obtain ⟨rfl, rfl⟩ := hnil
     have hr2 : withinD D a b = r := by rw [← hr]; unfold fitsF; rw [if_pos ⟨rfl, rfl⟩]
     clear hr HR
     have c1 : (wr).cell? ⟨g4, 1, none⟩ = some (.string (str [])) := H.cell (i := 1) rfl rfl
     have c2 : (wr).cell? ⟨g5, 1, none⟩ = some (.string (str [])) := H.cell (i := 0) rfl rfl
     go_upto_region 9 with (fail)
     have := H.c 1 0
     have := H.c 0 0
     go_wp2_with (first
      | (go_at_call 37; refine (Within_t v a b D _ _ _ _ H hv hW).mono ?_; clear H; rintro e w9 ⟨K9, rfl, hle9, H⟩; rw [hr2]; have := H.c 1 0; have := H.c 0 0))
     replace H := Hp.tail (Hp.tail H)
     go_ret
     exact ⟨K9, rfl, hle9, H⟩
   · have HR2 := hide (HR.out.trans (if_neg hnil))
     clear HR
     obtain ⟨lx, hlx⟩ : ∃ z, lastB p = z := ⟨_, rfl⟩
     obtain ⟨ly, hly⟩ : ∃ z, lastB q = z := ⟨_, rfl⟩
     rw [hr, hlx, hly] at HR2
     have c1 : (wr).cell? ⟨g4, 1, none⟩ = some (.string (str p)) := H.cell (i := 1) rfl rfl
     have c2 : (wr).cell? ⟨g5, 1, none⟩ = some (.string (str q)) := H.cell (i := 0) rfl rfl
     have hgo : (str p).toList.isEmpty = false ∨ ((str p).toList.isEmpty = true ∧ (str q).toList.isEmpty = false) := by
      rw [hpe, hqe]
      cases p with
      | cons _ _ => exact .inl rfl
      | nil =>
       cases q with
       | cons _ _ => exact .inr ⟨rfl, rfl⟩
       | nil => exact absurd ⟨rfl, rfl⟩ hnil
     clear hnil hpe hqe hr
     have hat : ∀ (Qz : Prop), Qz → Qz := fun _ h => h
     rcases hgo with hpe | ⟨hpe, hqe⟩
     all_goals
      go_upto_region 2 with (fail)
      refine held.begin_ (fun w' => w'.cell? ⟨g4, 0, none⟩ = some (.string (str a)) ∧ w'.cell? ⟨g4, 1, none⟩ = some (.string (str p)) ∧ w'.cell? ⟨g5, 0, none⟩ = some (.string (str b)) ∧ w'.cell? ⟨g5, 1, none⟩ = some (.string (str q))) [] (by kernel_rfl) ?_
      replace H := H.drew1
      obtain ⟨w2, hq3⟩ : ∃ x, (wr).drew = x := ⟨_, rfl⟩
      rw [hq3] at H ⊢
      clear hq3
      have hS4 : w2.cell? ⟨g4, 0, none⟩ = some (.string (str a)) ∧ w2.cell? ⟨g4, 1, none⟩ = some (.string (str p)) ∧ w2.cell? ⟨g5, 0, none⟩ = some (.string (str b)) ∧ w2.cell? ⟨g5, 1, none⟩ = some (.string (str q)) := ⟨H.cell (i := 1) rfl rfl, H.cell (i := 1) rfl rfl, H.cell (i := 0) rfl rfl, H.cell (i := 0) rfl rfl⟩
      refine tk 0 hS4 ?_
      refine tk 2 hS4 ?_
      refine held.step (i := 1) (by kernel_rfl) rfl (fun Kq hKq => ?_)
      go_simp
      refine (last_hp a p _ _ _ _ H hpm).mono ?_
      clear H
      rintro e w5 ⟨rfl, H⟩
      rw [hlx]
      replace H : Hp _ _ _ (_ :: _ :: M) := H
      try go_simp
      have hS5 : w5.cell? ⟨g4, 0, none⟩ = some (.string (str a)) ∧ w5.cell? ⟨g4, 1, none⟩ = some (.string (str p)) ∧ w5.cell? ⟨g5, 0, none⟩ = some (.string (str b)) ∧ w5.cell? ⟨g5, 1, none⟩ = some (.string (str q)) := ⟨H.cell (i := 1) rfl rfl, H.cell (i := 1) rfl rfl, H.cell (i := 0) rfl rfl, H.cell (i := 0) rfl rfl⟩
      refine hKq.out _ _ (fun _ => hS5) (fun _ => ?_)
      clear hKq Kq
      refine held.step (i := 3) (by kernel_rfl) rfl (fun Kq hKq => ?_)
      go_simp
      refine (last_hp b q _ _ _ _ H hqm).mono ?_
      clear H
      rintro e w6 ⟨rfl, H⟩
      rw [hly]
      replace H : Hp _ _ _ (_ :: _ :: M) := H
      try go_simp
      have hS6 : w6.cell? ⟨g4, 0, none⟩ = some (.string (str a)) ∧ w6.cell? ⟨g4, 1, none⟩ = some (.string (str p)) ∧ w6.cell? ⟨g5, 0, none⟩ = some (.string (str b)) ∧ w6.cell? ⟨g5, 1, none⟩ = some (.string (str q)) := ⟨H.cell (i := 1) rfl rfl, H.cell (i := 1) rfl rfl, H.cell (i := 0) rfl rfl, H.cell (i := 0) rfl rfl⟩
      refine hKq.out _ _ (fun _ => hS6) (fun _ => ?_)
      clear hKq Kq
      refine tk 4 hS6 ?_
      refine tk 5 hS6 ?_
      refine held.done (by kernel_rfl) ?_ _
      go_upto_region 4 with (fail)
      clear c1 c2
      by_cases hcc : (ly = 33 ∧ lx = 33) ∨ (ly = 93 ∧ lx = 93)
      · have hc0 := hcc
        rcases hcc with ⟨rfl, rfl⟩ | ⟨rfl, rfl⟩
        all_goals
         first | obtain ⟨p', b1, rfl, hb1⟩ := last_split (k := 33) hlx (by omega) | obtain ⟨p', b1, rfl, hb1⟩ := last_split (k := 93) hlx (by omega)
         first | obtain ⟨q', b2, rfl, hb2⟩ := last_split (k := 33) hly (by omega) | obtain ⟨q', b2, rfl, hb2⟩ := last_split (k := 93) hly (by omega)
         have hlp : p'.length + 1 ≤ maxLen := by simpa using hpm
         have hlq : q'.length + 1 ≤ maxLen := by simpa using hqm
         go_upto_region 6 with (fail)
         refine held.begin_ (fun w' => w'.cell? ⟨g4, 0, none⟩ = some (.string (str a)) ∧ w'.cell? ⟨g4, 1, none⟩ = some (.string (str (p' ++ [b1]))) ∧ w'.cell? ⟨g5, 0, none⟩ = some (.string (str b)) ∧ w'.cell? ⟨g5, 1, none⟩ = some (.string (str (q' ++ [b2])))) [4,5] (by kernel_rfl) ?_
         replace H := H.drew1
         obtain ⟨w7, hq8⟩ : ∃ x, (w6).drew = x := ⟨_, rfl⟩
         rw [hq8] at H ⊢
         clear hq8
         have hS9 : w7.cell? ⟨g4, 0, none⟩ = some (.string (str a)) ∧ w7.cell? ⟨g4, 1, none⟩ = some (.string (str (p' ++ [b1]))) ∧ w7.cell? ⟨g5, 0, none⟩ = some (.string (str b)) ∧ w7.cell? ⟨g5, 1, none⟩ = some (.string (str (q' ++ [b2]))) := ⟨H.cell (i := 1) rfl rfl, H.cell (i := 1) rfl rfl, H.cell (i := 0) rfl rfl, H.cell (i := 0) rfl rfl⟩
         refine tk 0 hS9 ?_
         refine tk 2 hS9 ?_
         refine held.step (i := 1) (by kernel_rfl) rfl (fun Kq hKq => ?_)
         go_simp
         refine (less_hp a p' b1 _ _ _ _ H hlp).mono ?_
         clear H
         rintro e w7 ⟨rfl, H⟩
         replace H : Hp _ _ _ (_ :: _ :: M) := H
         try go_simp
         have hS10 : w7.cell? ⟨g4, 0, none⟩ = some (.string (str a)) ∧ w7.cell? ⟨g4, 1, none⟩ = some (.string (str (p' ++ [b1]))) ∧ w7.cell? ⟨g5, 0, none⟩ = some (.string (str b)) ∧ w7.cell? ⟨g5, 1, none⟩ = some (.string (str (q' ++ [b2]))) := ⟨H.cell (i := 1) rfl rfl, H.cell (i := 1) rfl rfl, H.cell (i := 0) rfl rfl, H.cell (i := 0) rfl rfl⟩
         refine hKq.out _ _ (fun _ => hS10) (fun _ => ?_)
         clear hKq Kq
         refine held.step (i := 3) (by kernel_rfl) rfl (fun Kq hKq => ?_)
         go_simp
         refine (less_hp b q' b2 _ _ _ _ H hlq).mono ?_
         clear H
         rintro e w8 ⟨rfl, H⟩
         replace H : Hp _ _ _ (_ :: _ :: M) := H
         try go_simp
         have hS11 : w8.cell? ⟨g4, 0, none⟩ = some (.string (str a)) ∧ w8.cell? ⟨g4, 1, none⟩ = some (.string (str (p' ++ [b1]))) ∧ w8.cell? ⟨g5, 0, none⟩ = some (.string (str b)) ∧ w8.cell? ⟨g5, 1, none⟩ = some (.string (str (q' ++ [b2]))) := ⟨H.cell (i := 1) rfl rfl, H.cell (i := 1) rfl rfl, H.cell (i := 0) rfl rfl, H.cell (i := 0) rfl rfl⟩
         refine hKq.out _ _ (fun _ => hS11) (fun _ => ?_)
         clear hKq Kq
         refine held.step (i := 4) (by kernel_rfl) rfl (fun Kq hKq => ?_)
         refine step_store_hp (by rfl) 50 (.tmp 4) (.tmp 35) (by rfl) g4 0 (by first | rfl | simp [Act.eval, Act.put]) (.agg #[.string (str a), .string (str p')]) (by first | rfl | simp [Act.eval, Act.put]) [.string (str a), .string (str p')] (by rfl) (by simp [Value.oneCell']) (by kernel_rfl) H 1 [.string (str a), .string (str (p' ++ [b1]))] [.string (str a), .string (str p')] 50 (by rfl) (Nat.le_of_ble_eq_true (by rfl)) (by rfl) ?_
         clear H
         intro w12 H
         replace H : Hp _ _ _ (_ :: _ :: M) := H
         refine hKq.out _ _ (fun h => absurd (by simp) h) (fun _ => ?_)
         clear hKq Kq
         try simp only [Act.put, List.getElem_toArray, List.getElem_cons_zero, List.getElem_cons_succ, List.setIfInBounds_toArray, List.set_cons_zero, List.set_cons_succ]
         refine held.step (i := 5) (by kernel_rfl) rfl (fun Kq hKq => ?_)
         refine step_store_hp (by rfl) 50 (.tmp 5) (.tmp 37) (by rfl) g5 0 (by first | rfl | simp [Act.eval, Act.put]) (.agg #[.string (str b), .string (str q')]) (by first | rfl | simp [Act.eval, Act.put]) [.string (str b), .string (str q')] (by rfl) (by simp [Value.oneCell']) (by kernel_rfl) H 0 [.string (str b), .string (str (q' ++ [b2]))] [.string (str b), .string (str q')] 50 (by rfl) (Nat.le_of_ble_eq_true (by rfl)) (by rfl) ?_
         clear H
         intro w13 H
         refine hKq.out _ _ (fun h => absurd (by simp) h) (fun _ => ?_)
         clear hKq Kq
         refine held.done (by kernel_rfl) ?_ _
         simp only [Act.put, List.getElem_toArray, List.getElem_cons_zero, List.getElem_cons_succ, List.setIfInBounds_toArray, List.set_cons_zero, List.set_cons_succ]
         replace H : Hp _ _ _ (_ :: _ :: M) := H
         go_wp2_with fail
         go_roundw
         case rel => exact ⟨k, p', q', by simp at hpq; omega, by simp at hpl ⊢; omega, by simp at hql ⊢; omega, by rw [HR2.out]; rw [if_pos hc0]; simp, H⟩
         case measure =>
          have e4 := wlen_is (H.cell (i := 1) (j := 1) rfl rfl)
          have e5 := wlen_is (H.cell (i := 0) (j := 1) rfl rfl)
          rw [hw4, hw5, e4, e5]
          simp
          try omega
      · have hc1 := fun h => hcc (.inl h)
        have hc2 := fun h => hcc (.inr h)
        clear hcc
        have HR3 := hide (HR2.out.trans (if_neg (by rintro (h | h); exact hc1 h; exact hc2 h)))
        by_cases hc3 : ly ≠ 33 ∧ lx = 33
        · obtain ⟨hy3, rfl⟩ := hc3
          have HR4 := hide (HR3.out.trans (if_pos ⟨hy3, rfl⟩))
          obtain ⟨p', b1, rfl, hb1⟩ := last_split (k := 33) hlx (by omega)
          have hlp : p'.length + 1 ≤ maxLen := by simpa using hpm
          have f1 : (ly == 33) = false := by simp [hy3]
          have f2 : (ly != 33) = true := by simp [hy3]
          clear hc1 hc2 hy3
          cases hly9 : (ly == 93)
          all_goals
           go_upto_region 8 with (fail)
           go_wp2_with (first
            | (go_at_call 90; refine (less_hp a p' b1 _ _ _ _ H hlp).mono ?_; clear H; rintro e w7 ⟨rfl, H⟩)
            | ((with_reducible refine isL ?_); first
             | (refine ld 4 1 2 Tryz.underlying50 H ?_)
             | (refine sA 4 1 H ?_; clear H; intro w15 H)))
           go_roundw
           case rel => exact ⟨_, _, _, _, _, _, _, _, _, _, _, _, _, _, _, _, _, _, _, _, _, _, _, _, _, _, _, _, _, _, _, _, _, _, _, _, _, _, _, _, _, ⟨k, p', q, by simp at hpq; omega, by simp at hpl ⊢; omega, hql, by rw [HR4.out]; simp, H⟩, rfl⟩
           case measure =>
            have e4 := wlen_is (H.cell (i := 1) (j := 1) rfl rfl)
            have e5 := wlen_is (H.cell (i := 0) (j := 1) rfl rfl)
            rw [hw4, hw5, e4, e5]
            simp
        · have hrf := HR3.out.trans (if_neg hc3)
          subst hrf
          have f1 : ((ly == 33) && (lx == 33)) = false := by
           rw [Bool.and_eq_false_iff]; by_cases h : ly = 33
           · exact .inr (by simp; exact fun e => hc1 ⟨h, e⟩)
           · exact .inl (by simp [h])
          have hx3 : lx ≠ 33 := fun e => by
           by_cases h : ly = 33
           · exact hc1 ⟨h, e⟩
           · exact hc3 ⟨h, e⟩
          have f2 : (lx == 33) = false := by simp [hx3]
          have f5 : (ly != 33) = !(ly == 33) := rfl
          cases hly9 : (ly == 93)
          rotate_left
          · have f3 : (lx == 93) = false := by
             have : ly = 93 := by simpa using hly9
             simp; exact fun e => hc2 ⟨this, e⟩
            cases hly3 : (ly == 33) with
            | true => exact absurd (show (33 : Int) = 93 by have h1 : ly = 93 := by simpa using hly9
                                                            have h2 : ly = 33 := by simpa using hly3
                                                            omega) (by omega)
            | false =>
             rw [hly3] at f5
             clear hc1 hc2 hc3 f1 hx3 HR2 HR3
             go_wp2_with fail
             replace H := Hp.tail (Hp.tail H)
             go_ret
             exact ⟨K, rfl, Sat.refl K, H⟩
          · cases hly3 : (ly == 33)
            all_goals
             rw [hly3] at f5
             clear hc1 hc2 hc3 f1 hx3 HR2 HR3
             go_wp2_with fail
             replace H := Hp.tail (Hp.tail H)
             go_ret
             exact ⟨K, rfl, Sat.refl K, H⟩
theorem less_eq (n m l : Txt) (b : UInt8) (hm : m = l ++ [b]) (w0 w K : World) (M : List Ent) (H : Hp w0 w K M) (h63 : m.length ≤ maxLen) :
  Calls Tryz.prog 90 #[.agg #[.string (str n), .string (str m)]] w fun e w' => e = .returned (.agg #[.string (str n), .string (str l)]) ∧ Hp w0 w' K M := by
 subst hm; exact less_hp n l b w0 w K M H (by simpa using h63)
set_option maxHeartbeats 4000000 in
theorem Item_hp (n m : Txt) (w0 w K : World) (M : List Ent) (H : Hp w0 w K M) (h63 : m.length ≤ 20000000) :
  Calls Tryz.prog 50 #[.agg #[.string (str n), .string (str m)]] w fun e w' => e = .returned (refB (itemR n m)) ∧ Hp w0 w' K M := by
 have hl : m.length ≤ maxLen := by simp only [maxLen]; omega
 by_cases h : lastB m = 33
 · obtain ⟨l, b, hm, hb⟩ := last_split (k := 33) h (by omega)
   have hl3 : l.length ≤ maxLen := by have := congrArg List.length hm; simp at this; omega
   have hm1 : (if lastB m = 33 then m.dropLast else m) = l := by rw [if_pos h, hm]; simp
   by_cases h2 : lastB l = 93
   · obtain ⟨r, b2, hl2, hb2⟩ := last_split (k := 93) h2 (by omega)
     have HR := hide (show refB (itemR n m) = .tuple #[.agg #[.string (str n), .string (str r)], .bool true] by unfold itemR; rw [hm1, if_pos h2, hl2]; simp [refB])
     have Hm := hide hm
     have Hl := hide hl2
     have Hh := hide h
     have Hh2 := hide h2
     clear hm1 hm hl2 h h2 hb hb2
     go_enter Tryz.func50, Tryz.ntmps50
     go_upto_region 2 with (first
      | (refine box_hp (by rfl) 50 (.tmp 0) (by rfl) [.string (str n), .string (str m)] _ (by rfl) (by rfl) (some 1) (by rfl) H ?_; clear H; intro w1 g1 H hg2; clear hg2)
      | (go_at_call 89; refine (last_hp n m _ _ _ _ H hl).mono ?_; clear H; rintro e w5 ⟨rfl, H⟩; rw [Hh.out])
      | ((with_reducible refine isL ?_); first
       | (refine al z50 2 H ?_; clear H; intro w3 g2 H)
       | (refine ld 1 1 2 Tryz.underlying50 H ?_)))
     go_upto_region 3 with (first
      | (go_at_call 90; refine (less_eq n m l b Hm.out _ _ _ _ H hl).mono ?_; clear H; rintro e w6 ⟨rfl, H⟩)
      | ((with_reducible refine isL ?_); first
       | (refine ld 1 1 2 Tryz.underlying50 H ?_)
       | (refine sA 1 1 H ?_; clear H; intro w7 H)))
     go_upto_region 5 with (first
      | (go_at_call 89; refine (last_hp n l _ _ _ _ H hl3).mono ?_; clear H; rintro e w7 ⟨rfl, H⟩; rw [Hh2.out])
      | ((with_reducible refine isL ?_); first
       | (refine ld 1 1 2 Tryz.underlying50 H ?_)))
     go_wp2_with (first
      | (go_at_call 90; refine (less_eq n l r b2 Hl.out _ _ _ _ H hl3).mono ?_; clear H; rintro e w8 ⟨rfl, H⟩)
      | ((with_reducible refine isL ?_); first
       | (refine ld 1 1 2 Tryz.underlying50 H ?_)
       | (refine sA 2 0 H ?_; clear H; intro w10 H)))
     refine bodyPost_ret (results_box2 rfl _ _ g2 50 _ (0, 0) _ (by rfl) (H.blkAt (i := 0) rfl) Tryz.underlying50 rfl (by kernel_rfl)) rfl ?_
     replace H := H.sub (List.Sublist.cons _ (List.Sublist.cons _ (List.Sublist.refl _)))
     exact ⟨by rw [HR.out]; rfl, H⟩
   · have HR := hide (show refB (itemR n m) = .tuple #[.agg #[.string ⟨#[]⟩, .string ⟨#[]⟩], .bool false] by unfold itemR; rw [hm1, if_neg h2]; rfl)
     have Hm := hide hm
     have Hh := hide h
     obtain ⟨q, hq⟩ : ∃ q, lastB l = q := ⟨_, rfl⟩
     rw [hq] at h2
     have hb2 : (q != 93) = true := by simp [h2]
     have hb3 : (q == 93) = false := by simp [h2]
     have Hq := hide hq
     clear hm1 hm h hb hq h2
     go_enter Tryz.func50, Tryz.ntmps50
     go_upto_region 2 with (first
      | (refine box_hp (by rfl) 50 (.tmp 0) (by rfl) [.string (str n), .string (str m)] _ (by rfl) (by rfl) (some 1) (by rfl) H ?_; clear H; intro w11 g1 H hg12; clear hg12)
      | (go_at_call 89; refine (last_hp n m _ _ _ _ H hl).mono ?_; clear H; rintro e w5 ⟨rfl, H⟩; rw [Hh.out])
      | ((with_reducible refine isL ?_); first
       | (refine al z50 2 H ?_; clear H; intro w13 g2 H)
       | (refine ld 1 1 2 Tryz.underlying50 H ?_)))
     go_upto_region 3 with (first
      | (go_at_call 90; refine (less_eq n m l b Hm.out _ _ _ _ H hl).mono ?_; clear H; rintro e w6 ⟨rfl, H⟩)
      | ((with_reducible refine isL ?_); first
       | (refine ld 1 1 2 Tryz.underlying50 H ?_)
       | (refine sA 1 1 H ?_; clear H; intro w17 H)))
     go_wp2_with (first
      | (go_at_call 89; refine (last_hp n l _ _ _ _ H hl3).mono ?_; clear H; rintro e w7 ⟨rfl, H⟩; rw [Hq.out])
      | ((with_reducible refine isL ?_); first
       | (refine ld 1 1 2 Tryz.underlying50 H ?_)
       | (refine sA 2 0 H ?_; clear H; intro w19 H)))
     refine bodyPost_ret (results_box2 rfl _ _ g2 50 _ (0, 0) _ (by rfl) (H.blkAt (i := 0) rfl) Tryz.underlying50 rfl (by kernel_rfl)) rfl ?_
     replace H := H.sub (List.Sublist.cons _ (List.Sublist.cons _ (List.Sublist.refl _)))
     exact ⟨by rw [HR.out]; rfl, H⟩
 · have hm1 : (if lastB m = 33 then m.dropLast else m) = m := if_neg h
   by_cases h2 : lastB m = 93
   · obtain ⟨r, b2, hl2, hb2⟩ := last_split (k := 93) h2 (by omega)
     have HR := hide (show refB (itemR n m) = .tuple #[.agg #[.string (str n), .string (str r)], .bool true] by unfold itemR; rw [hm1, if_pos h2, hl2]; simp [refB])
     have Hl := hide hl2
     have Hh2 := hide h2
     clear hm1 hl2 h h2 hb2
     go_enter Tryz.func50, Tryz.ntmps50
     go_upto_region 3 with (first
      | (refine box_hp (by rfl) 50 (.tmp 0) (by rfl) [.string (str n), .string (str m)] _ (by rfl) (by rfl) (some 1) (by rfl) H ?_; clear H; intro w20 g1 H hg21; clear hg21)
      | (go_at_call 89; refine (last_hp n m _ _ _ _ H hl).mono ?_; clear H; rintro e w5 ⟨rfl, H⟩; rw [Hh2.out])
      | ((with_reducible refine isL ?_); first
       | (refine al z50 2 H ?_; clear H; intro w22 g2 H)
       | (refine ld 1 1 2 Tryz.underlying50 H ?_)))
     go_upto_region 5 with (first
      | (go_at_call 89; refine (last_hp n m _ _ _ _ H hl).mono ?_; clear H; rintro e w7 ⟨rfl, H⟩; rw [Hh2.out])
      | ((with_reducible refine isL ?_); first
       | (refine ld 1 1 2 Tryz.underlying50 H ?_)))
     go_wp2_with (first
      | (go_at_call 90; refine (less_eq n m r b2 Hl.out _ _ _ _ H hl).mono ?_; clear H; rintro e w8 ⟨rfl, H⟩)
      | ((with_reducible refine isL ?_); first
       | (refine ld 1 1 2 Tryz.underlying50 H ?_)
       | (refine sA 2 0 H ?_; clear H; intro w27 H)))
     refine bodyPost_ret (results_box2 rfl _ _ g2 50 _ (0, 0) _ (by rfl) (H.blkAt (i := 0) rfl) Tryz.underlying50 rfl (by kernel_rfl)) rfl ?_
     replace H := H.sub (List.Sublist.cons _ (List.Sublist.cons _ (List.Sublist.refl _)))
     exact ⟨by rw [HR.out]; rfl, H⟩
   · have HR := hide (show refB (itemR n m) = .tuple #[.agg #[.string ⟨#[]⟩, .string ⟨#[]⟩], .bool false] by unfold itemR; rw [hm1, if_neg h2]; rfl)
     obtain ⟨q, hq⟩ : ∃ q, lastB m = q := ⟨_, rfl⟩
     rw [hq] at h h2
     have hb1 : (q == 33) = false := by simp [h]
     have hb2 : (q != 93) = true := by simp [h2]
     have hb3 : (q == 93) = false := by simp [h2]
     have Hq := hide hq
     clear hm1 h h2 hq
     go_enter Tryz.func50, Tryz.ntmps50
     go_upto_region 3 with (first
      | (refine box_hp (by rfl) 50 (.tmp 0) (by rfl) [.string (str n), .string (str m)] _ (by rfl) (by rfl) (some 1) (by rfl) H ?_; clear H; intro w28 g1 H hg29; clear hg29)
      | (go_at_call 89; refine (last_hp n m _ _ _ _ H hl).mono ?_; clear H; rintro e w5 ⟨rfl, H⟩; rw [Hq.out])
      | ((with_reducible refine isL ?_); first
       | (refine al z50 2 H ?_; clear H; intro w30 g2 H)
       | (refine ld 1 1 2 Tryz.underlying50 H ?_)))
     go_wp2_with (first
      | (go_at_call 89; refine (last_hp n m _ _ _ _ H hl).mono ?_; clear H; rintro e w7 ⟨rfl, H⟩; rw [Hq.out])
      | ((with_reducible refine isL ?_); first
       | (refine ld 1 1 2 Tryz.underlying50 H ?_)
       | (refine sA 2 0 H ?_; clear H; intro w34 H)))
     refine bodyPost_ret (results_box2 rfl _ _ g2 50 _ (0, 0) _ (by rfl) (H.blkAt (i := 0) rfl) Tryz.underlying50 rfl (by kernel_rfl)) rfl ?_
     replace H := H.sub (List.Sublist.cons _ (List.Sublist.cons _ (List.Sublist.refl _)))
     exact ⟨by rw [HR.out]; rfl, H⟩
end Go.Proofs.YtbpgkkoeehopjaaGreat.hp
namespace Go.Proofs.YtbpgkkoeehopjaaGreat.hp
open Go.RowKit Go.Proofs.YtbpgkkoeehopjaaGreat.lex Go.Proofs.YtbpgkkoeehopjaaGreat.gram Go.Proofs.YtbpgkkoeehopjaaGreat.rd Go.Proofs.YtbpgkkoeehopjaaGreat.tree Go.Proofs.YtbpgkkoeehopjaaGreat.dat Go.Proofs.YtbpgkkoeehopjaaGreat.ty
theorem fitsF_fuel (D : TysD) (a b : Txt) : ∀ (k m : Nat) (x y : Txt), x.length + y.length < k → x.length + y.length < m → fitsF D a b k x y = fitsF D a b m x y
 | 0, m, x, y, h, _ => by omega
 | k + 1, 0, x, y, _, h => by omega
 | k + 1, m + 1, x, y, h1, h2 => by
  rw [fitsF, fitsF]
  split
  · rfl
  · split
    · rename_i h
      have hx : x ≠ [] := by rintro rfl; simp [lastB] at h
      have hx1 : 0 < x.length := List.length_pos_iff.2 hx
      exact fitsF_fuel D a b k m _ _ (by simp only [List.length_dropLast]; omega) (by simp only [List.length_dropLast]; omega)
    · split
      · rename_i h
        have hx : x ≠ [] := by rintro rfl; simp [lastB] at h
        have hx1 : 0 < x.length := List.length_pos_iff.2 hx
        exact fitsF_fuel D a b k m _ _ (by simp only [List.length_dropLast]; omega) (by simp only [List.length_dropLast]; omega)
      · rfl
section
variable (D : TysD) (a b x y : Txt)
theorem fits_nil : fitsD D a [] b [] = withinD D a b := by unfold fitsD; rw [fitsF, if_pos ⟨rfl, rfl⟩]
theorem fits_list : fitsD D a (x ++ [93]) b (y ++ [93]) = fitsD D a x b y := by
 unfold fitsD
 rw [fitsF, if_neg (by simp), if_pos (.inr ⟨by rw [lastB_snoc]; rfl, by rw [lastB_snoc]; rfl⟩), List.dropLast_concat, List.dropLast_concat]
 exact fitsF_fuel D a b _ _ x y (by simp; omega) (by omega)
theorem fits_both : fitsD D a (x ++ [33]) b (y ++ [33]) = fitsD D a x b y := by
 unfold fitsD
 rw [fitsF, if_neg (by simp), if_pos (.inl ⟨by rw [lastB_snoc]; rfl, by rw [lastB_snoc]; rfl⟩), List.dropLast_concat, List.dropLast_concat]
 exact fitsF_fuel D a b _ _ x y (by simp; omega) (by omega)
theorem fits_left : fitsD D a (x ++ [33]) b (y ++ [93]) = fitsD D a x b (y ++ [93]) := by
 unfold fitsD
 have e1 : lastB (x ++ [33]) = 33 := by rw [lastB_snoc]; rfl
 have e2 : lastB (y ++ [93]) = 93 := by rw [lastB_snoc]; rfl
 rw [fitsF, if_neg (by simp), if_neg (by rw [e1, e2]; decide), if_pos ⟨by rw [e2]; decide, e1⟩, List.dropLast_concat]
 exact fitsF_fuel D a b _ _ x (y ++ [93]) (by simp) (by omega)
theorem fits_right : fitsD D a (x ++ [93]) b (y ++ [33]) = false := by
 unfold fitsD
 have e1 : lastB (x ++ [93]) = 93 := by rw [lastB_snoc]; rfl
 have e2 : lastB (y ++ [33]) = 33 := by rw [lastB_snoc]; rfl
 rw [fitsF, if_neg (by simp), if_neg (by rw [e1, e2]; decide), if_neg (by rw [e1, e2]; decide)]
end
def wrapStep (s : Txt) (m : Bool) : Txt := if m = true ∧ (s = [] ∨ lastB s = 93) then s ++ [33] else s ++ [93]
def wrapD (l : List Bool) : Txt := l.foldl wrapStep []
theorem wrap_len : ∀ (l : List Bool) (s : Txt), (l.foldl wrapStep s).length = s.length + l.length
 | [], s => rfl
 | m :: r, s => by
  rw [List.foldl_cons, wrap_len r]
  unfold wrapStep
  split <;> simp <;> omega
theorem wrap_fits (D : TysD) (a : Txt) (l : List Bool) : fitsD D a (wrapD l) a (wrapD l) = withinD D a a := by
 unfold wrapD
 have key : ∀ (l : List Bool) (s : Txt), fitsD D a s a s = withinD D a a → fitsD D a (l.foldl wrapStep s) a (l.foldl wrapStep s) = withinD D a a := by
  intro l
  induction l with
  | nil => intro s h; exact h
  | cons m r ih =>
   intro s h
   rw [List.foldl_cons]
   refine ih _ ?_
   unfold wrapStep
   split
   · rw [fits_both]; exact h
   · rw [fits_list]; exact h
 exact key l [] (fits_nil D a a)
theorem item_bang (n x : Txt) : itemR n ((x ++ [93]) ++ [33]) = ((n, x), true) := by
 have e1 : lastB ((x ++ [93]) ++ [33]) = 33 := by rw [lastB_snoc]; rfl
 have e2 : lastB (x ++ [93]) = 93 := by rw [lastB_snoc]; rfl
 unfold itemR
 rw [e1, if_pos rfl, List.dropLast_concat, if_pos e2, List.dropLast_concat]
theorem item_list (n x : Txt) : itemR n (x ++ [93]) = ((n, x), true) := by
 have e2 : lastB (x ++ [93]) = 93 := by rw [lastB_snoc]; rfl
 have e3 : (if lastB (x ++ [93]) = 33 then (x ++ [93]).dropLast else x ++ [93]) = x ++ [93] := if_neg (by rw [e2]; decide)
 unfold itemR
 rw [e3, if_pos e2, List.dropLast_concat]
theorem bare_bang (n x : Txt) : bareR n (x ++ [33]) = ((n, x), true) := by
 have e1 : lastB (x ++ [33]) = 33 := by rw [lastB_snoc]; rfl
 unfold bareR
 rw [if_pos e1, List.dropLast_concat]
theorem bare_list (n x : Txt) : bareR n (x ++ [93]) = ((n, x ++ [93]), false) := by
 have e1 : lastB (x ++ [93]) = 93 := by rw [lastB_snoc]; rfl
 unfold bareR
 rw [if_neg (by rw [e1]; decide)]
end Go.Proofs.YtbpgkkoeehopjaaGreat.hp
