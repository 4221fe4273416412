/- Part 13 of 17 of a proof: see the last part. -/
import Derived.Test.YtbpgkkoeehopjaaGreatP6
import Derived.Test.YtbpgkkoeehopjaaGreatP12
import Derived.Deep.QuietTactic
import Derived.BigQuiet
set_option linter.unusedVariables false
set_option linter.unusedSimpArgs false
namespace Go.Proofs.YtbpgkkoeehopjaaGreat.hp
open Go.RowKit Go.Proofs.YtbpgkkoeehopjaaGreat.words Go.Proofs.YtbpgkkoeehopjaaGreat.tree Go.Proofs.YtbpgkkoeehopjaaGreat.dat Go.Proofs.YtbpgkkoeehopjaaGreat.held
section
variable {P : Program} {w0 K0 : World} {M : List Ent} {Q : Exit → Act → World → Prop} {l : List Oper} {a0 : Act} {R : Tmp → World → Value → Prop}
def Has (l : List Oper) (listed : Array Bool) (t : Tmp) : Prop := ∃ j o, l[j]? = some o ∧ o.dst = some t ∧ listed.getD j false = true
structure Inv (w0 K0 : World) (M : List Ent) (l : List Oper) (a0 : Act) (R : Tmp → World → Value → Prop) (listed : Array Bool) (a : Act) (w K : World) : Prop where
 le : Sat K K0
 hp : Hp w0 w K M
 defers : a.defers = a0.defers
 size : a.tmps.size = a0.tmps.size
 has : ∀ t, Has l listed t → R t K (a.tmps.getD t undef)
 old : ∀ t, ¬ Has l listed t → a.tmps.getD t undef = a0.tmps.getD t undef
def Law (P : Program) (w0 K0 : World) (M : List Ent) (Q : Exit → Act → World → Prop) (l : List Oper) (a0 : Act) (R : Tmp → World → Value → Prop) (o : Oper) : Prop :=
 ∀ (a : Act) (w K : World), Sat K K0 → Hp w0 w K M → (∀ j t, (o.after.toList.any fun e => e.on == j && Region.binds .any e) = true → (l[j]?).bind (·.dst) = some t → R t K (a.tmps.getD t undef)) → (∀ t, (l.all fun p => p.dst != some t) = true → a.tmps.getD t undef = a0.tmps.getD t undef) →
  ∀ Kc : Act → World → Prop, (∀ v w' K', Sat K' K → Hp w0 w' K' M → (∀ t, o.dst = some t → R t K' v) → Kc (a.put o.dst v) w') → if Region.wanted o (yielded l.toArray a.tmps) = true then Oper.wp P o a w Kc Q else Kc (a.put o.dst undef) w
def acycB (l : List Oper) : Bool := l.zipIdx.all fun p => p.1.after.toList.all fun e => decide (e.on < p.2)
def dstB (l : List Oper) (n : Nat) : Bool := l.all fun o => match o.dst with | some t => decide (t < n) | none => true
def unB : List Oper → Bool
 | [] => true
 | o :: r => (r.all fun p => match o.dst with | some t => p.dst != some t | none => true) && unB r
theorem acyc_spec (h : acycB l = true) : ∀ (j : Nat) (o : Oper), l[j]? = some o → ∀ e ∈ o.after, Region.binds .any e = true → e.on < j := fun j o hj e he _ => by
 have := List.all_eq_true.1 h (o, j) (List.mem_zipIdx_iff_getElem?.2 hj)
 have := List.all_eq_true.1 this e (by simpa using he)
 exact of_decide_eq_true this
theorem dst_spec {n : Nat} (h : dstB l n = true) : ∀ o ∈ l, ∀ t, o.dst = some t → t < n := fun o ho t ht => by
 have := List.all_eq_true.1 h o ho
 simpa [ht] using this
theorem un_spec : ∀ {l : List Oper}, unB l = true → ∀ (i j : Nat) (o p : Oper) (t : Tmp), l[i]? = some o → l[j]? = some p → o.dst = some t → p.dst = some t → i = j
 | [], _, i, j, o, p, t, h1, _, _, _ => by simp at h1
 | q :: r, h, i, j, o, p, t, h1, h2, h3, h4 => by
  simp only [unB, Bool.and_eq_true] at h
  have far : ∀ (x : Oper), x ∈ r → q.dst = some t → x.dst ≠ some t := fun x hx hq he => by
   have := List.all_eq_true.1 h.1 x hx
   simp [hq, he] at this
  cases i with
  | zero =>
   simp only [List.getElem?_cons_zero, Option.some.injEq] at h1
   subst h1
   cases j with
   | zero => rfl
   | succ j => exact absurd h4 (far p (List.mem_of_getElem? (by simpa using h2)) h3)
  | succ i =>
   cases j with
   | zero =>
    simp only [List.getElem?_cons_zero, Option.some.injEq] at h2
    subst h2
    exact absurd h3 (far o (List.mem_of_getElem? (by simpa using h1)) h4)
   | succ j => rw [un_spec h.2 i j o p t (by simpa using h1) (by simpa using h2) h3 h4]
theorem any_law (hm : P.follows .mixedOrders = true) (hac : acycB l = true) (hdst : dstB l a0.tmps.size = true) (hun : unB l = true)
  (hR : ∀ t K K' v, Sat K' K → R t K v → R t K' v) (laws : ∀ o ∈ l, Law P w0 K0 M Q l a0 R o) {w : World} {id : Nat} (H : Hp w0 w K0 M)
  (hend : ∀ a' w' K', Sat K' K0 → Hp w0 w' K' M → a'.defers = a0.defers → a'.tmps.size = a0.tmps.size → (∀ t, (l.any fun p => p.dst == some t) = true → R t K' (a'.tmps.getD t undef)) → (∀ t, (l.all fun p => p.dst != some t) = true → a'.tmps.getD t undef = a0.tmps.getD t undef) → Q .normal a' w') :
  (Code.region id l.toArray true).wp P Q a0 w := by
 refine wp_region_any hm ?_
 have hac := acyc_spec hac
 have hdst := dst_spec hdst
 have hun := un_spec hun
 have fin : ∀ listed a w K, Inv w0 K0 M l a0 R listed a w K → (∀ j, j < l.length → listed.getD j false = true) → Q .normal a w := fun listed a w K h hall => by
  refine hend a w K h.le h.hp h.defers h.size (fun t ht => ?_) (fun t ht => h.old t (fun ⟨j, p, h1, h2, _⟩ => by have := List.all_eq_true.1 ht p (List.mem_of_getElem? h1); simp [h2] at this))
  obtain ⟨o, ho, ht⟩ := List.any_eq_true.1 ht
  obtain ⟨j, hj, rfl⟩ := List.getElem_of_mem ho
  exact h.has t ⟨j, _, List.getElem?_eq_getElem hj, by simpa using ht, hall j hj⟩
 have none_ready : ∀ listed : Array Bool, listed.size = l.length → Region.ready .any l.toArray listed = [] → ∀ j, j < l.length → listed.getD j false = true := by
  intro listed hs hr j
  induction j using Nat.strongRecOn with
  | _ j ih =>
   intro hj
   cases hb : listed.getD j false with
   | true => rfl
   | false =>
    have hmem : j ∈ Region.ready .any l.toArray listed := by
     refine mem_ready.2 ⟨?_, l[j], by simp [hj], fun e he hbd => ?_⟩
     · rw [Array.getD_eq_getD_getElem?] at hb ⊢
       rw [Array.getElem?_eq_getElem (by omega)] at hb ⊢
       exact hb
     · have hlt := hac j _ (List.getElem?_eq_getElem hj) e he hbd
       exact ih e.on hlt (by omega)
    rw [hr] at hmem
    cases hmem
 have main : ∀ (fuel : Nat) (listed : Array Bool) (a : Act) (w K : World), listed.size = l.length → (listed.toList.filter (· = false)).length ≤ fuel → Inv w0 K0 M l a0 R listed a w K → wpAny P .any l.toArray Q fuel listed a w := by
  intro fuel
  induction fuel with
  | zero =>
   intro listed a w K hs hc h
   have hall : ∀ j, j < l.length → listed.getD j false = true := by
    intro j hj
    have h0 : listed.toList.filter (· = false) = [] := List.eq_nil_of_length_eq_zero (by omega)
    rw [List.filter_eq_nil_iff] at h0
    have hm : listed[j]'(by omega) ∈ listed.toList := by simp
    have := h0 _ hm
    rw [Array.getD_eq_getD_getElem?, Array.getElem?_eq_getElem (by omega)]
    simpa using this
   refine ⟨?_, fin listed a w K h hall⟩
   cases hr : Region.ready .any l.toArray listed with
   | nil => rfl
   | cons i r =>
    obtain ⟨hun, o, ho, _⟩ := mem_ready.1 (show i ∈ Region.ready .any l.toArray listed by rw [hr]; exact List.mem_cons_self ..)
    have hil : i < l.length := by have := (Array.getElem?_eq_some_iff.1 ho).1; simpa using this
    have := hall i hil
    rw [Array.getD_eq_getD_getElem?, Array.getElem?_eq_getElem (by omega)] at this hun
    simp at this hun
    rw [this] at hun
    cases hun
  | succ fuel ih =>
   intro listed a w K hs hc h
   refine ⟨fun hr => fin listed a w K h (none_ready listed hs hr), fun i hi => ?_⟩
   obtain ⟨hil, o, ho, hall⟩ := mem_ready.1 hi
   have hlt : i < l.length := by have := (Array.getElem?_eq_some_iff.1 ho).1; simpa using this
   have ho' : l[i]? = some o := by simpa using ho
   refine wpOp_step ho (fun K' hK => ?_)
   refine laws o (List.mem_of_getElem? ho') a w K h.le h.hp (fun j t hany ht => ?_) (fun t ht => h.old t (fun ⟨j, p, h1, h2, _⟩ => by have := List.all_eq_true.1 ht p (List.mem_of_getElem? h1); simp [h2] at this)) K' (fun v w' K1 hle H1 hv => hK _ _ ?_)
   · obtain ⟨e, he, hb⟩ := List.any_eq_true.1 hany
     simp only [Bool.and_eq_true, beq_iff_eq] at hb
     obtain ⟨rfl, hb⟩ := hb
     have hl := hall e (by simpa using he) hb
     cases hq : l[e.on]? with
     | none => rw [hq] at ht; cases ht
     | some p => rw [hq] at ht; exact h.has t ⟨e.on, p, hq, ht, hl⟩
   · refine ih (listed.setIfInBounds i true) _ _ K1 (by simpa using hs) ?_ ⟨hle.trans h.le, H1, ?_, ?_, ?_, ?_⟩
     · have hi2 : i < listed.size := by omega
       have hf : listed[i] = false := by
        rw [Array.getD_eq_getD_getElem?, Array.getElem?_eq_getElem hi2] at hil
        simpa using hil
       have hsp : listed.toList = listed.toList.take i ++ false :: listed.toList.drop (i + 1) := by
        have h1 : listed.toList[i]'(by simpa using hi2) = false := by simpa using hf
        conv => lhs; rw [← List.take_append_drop i listed.toList, List.drop_eq_getElem_cons (by simpa using hi2), h1]
       have hset : (listed.setIfInBounds i true).toList = listed.toList.take i ++ true :: listed.toList.drop (i + 1) := by
        rw [Array.toList_setIfInBounds, List.set_eq_take_append_cons_drop, if_pos (by simpa using hi2)]
       rw [hset]
       rw [hsp] at hc
       simp only [List.filter_append, List.length_append, List.filter_cons] at hc ⊢
       simp at hc ⊢
       omega
     · cases o.dst <;> exact h.defers
     · cases o.dst with
       | none => exact h.size
       | some d => simp only [Act.put]; rw [Array.size_setIfInBounds]; exact h.size
     · rintro t ⟨j, p, h1, h2, h3⟩
       by_cases hji : i = j
       · subst hji
         rw [ho'] at h1
         injection h1 with h1
         subst h1
         have hts := hdst o (List.mem_of_getElem? ho') t h2
         have hget : (a.put o.dst v).tmps.getD t undef = v := by
          rw [h2]; simp only [Act.put]
          rw [Array.getD_eq_getD_getElem?, Array.getElem?_setIfInBounds_self_of_lt (by rw [h.size]; exact hts)]
          rfl
         rw [hget]
         exact hv t h2
       · have hne : o.dst ≠ some t := fun e => hji (hun i j o p t ho' h1 e h2)
         have hget : (a.put o.dst v).tmps.getD t undef = a.tmps.getD t undef := by
          cases hd : o.dst with
          | none => rfl
          | some d =>
           have hdt : d ≠ t := fun e => hne (by rw [hd, e])
           simp only [Act.put]
           rw [Array.getD_eq_getD_getElem?, Array.getElem?_setIfInBounds_ne hdt, ← Array.getD_eq_getD_getElem?]
         rw [hget]
         refine hR t K K1 _ hle (h.has t ⟨j, p, h1, h2, ?_⟩)
         rw [getD_set_ne false hji] at h3
         exact h3
     · intro t ht
       have hne : o.dst ≠ some t := fun e => ht ⟨i, o, ho', e, by rw [Array.getD_eq_getD_getElem?, Array.getElem?_setIfInBounds_self_of_lt (by omega)]; rfl⟩
       have hget : (a.put o.dst v).tmps.getD t undef = a.tmps.getD t undef := by
        cases hd : o.dst with
        | none => rfl
        | some d =>
         have hdt : d ≠ t := fun e => hne (by rw [hd, e])
         simp only [Act.put]
         rw [Array.getD_eq_getD_getElem?, Array.getElem?_setIfInBounds_ne hdt, ← Array.getD_eq_getD_getElem?]
       rw [hget]
       refine h.old t (fun ⟨j, p, h1, h2, h3⟩ => ht ⟨j, p, h1, h2, ?_⟩)
       by_cases hji : i = j
       · subst hji
         rw [Array.getD_eq_getD_getElem?, Array.getElem?_setIfInBounds_self_of_lt (by omega)]; rfl
       · rw [getD_set_ne false hji]; exact h3
 refine main _ _ a0 w.drew K0 (by simp) ?_ ⟨Sat.refl _, H.drew1, rfl, rfl, ?_, fun _ _ => rfl⟩
 · exact Nat.le_trans (List.length_filter_le _ _) (by simp)
 · rintro t ⟨j, o, _, _, h3⟩
   rw [getD_replicate_false] at h3
   cases h3
end
open Go.Proofs.YtbpgkkoeehopjaaGreat.enc Go.Proofs.YtbpgkkoeehopjaaGreat.gram Go.Proofs.YtbpgkkoeehopjaaGreat.lex Go.Proofs.YtbpgkkoeehopjaaGreat.rd Go.Proofs.YtbpgkkoeehopjaaGreat.dec
set_option maxRecDepth 100000
attribute [local go_sem ↓] Go.wp_at_zero Go.wp_at_succ
def ifT : Txt := [105, 102]
def stringT : Txt := [83, 116, 114, 105, 110, 103]
def condD : InputD := ⟨noteZ, ifT, (booleanT, [33]), false, litZ, [], 0, 0⟩
def whyT : Txt := [78, 111, 32, 108, 111, 110, 103, 101, 114, 32, 115, 117, 112, 112, 111, 114, 116, 101, 100]
def reasonD : InputD := ⟨noteZ, [114, 101, 97, 115, 111, 110], (stringT, []), true, .mk 4 whyT false [] [] 0 0, [], 0, 0⟩
def urlD : InputD := ⟨noteZ, [117, 114, 108], (stringT, [33]), false, litZ, [], 0, 0⟩
def dirD (s : Txt) (arg : InputD) (l : List Txt) : DefD := ⟨8, false, noteZ, s, [], [], [], [arg], [], [], [], false, l.map plD, 0, 0⟩
def pl3 : List Txt := [[70, 73, 69, 76, 68], [70, 82, 65, 71, 77, 69, 78, 84, 95, 83, 80, 82, 69, 65, 68], [73, 78, 76, 73, 78, 69, 95, 70, 82, 65, 71, 77, 69, 78, 84]]
def pl2 : List Txt := [[70, 73, 69, 76, 68, 95, 68, 69, 70, 73, 78, 73, 84, 73, 79, 78], [69, 78, 85, 77, 95, 86, 65, 76, 85, 69]]
def pl1 : List Txt := [[83, 67, 65, 76, 65, 82]]
def givenDirsD : List DefD := [dirD [115, 107, 105, 112] condD pl3, dirD [105, 110, 99, 108, 117, 100, 101] condD pl3, dirD [100, 101, 112, 114, 101, 99, 97, 116, 101, 100] reasonD pl2, dirD [115, 112, 101, 99, 105, 102, 105, 101, 100, 66, 121] urlD pl1]
abbrev condV : List Value := [.bool false, .bool false, .string ⟨#[]⟩, .string ⟨#[105, 102]⟩, .string ⟨#[66, 111, 111, 108, 101, 97, 110]⟩, .string ⟨#[33]⟩, .bool false, .int .i64 0, .string ⟨#[]⟩, .bool false, .slice none 0 0, .slice none 0 0, .int .i64 0, .int .i64 0, .slice none 0 0, .int .i64 0, .int .i64 0]
abbrev urlV : List Value := [.bool false, .bool false, .string ⟨#[]⟩, .string ⟨#[117, 114, 108]⟩, .string ⟨#[83, 116, 114, 105, 110, 103]⟩, .string ⟨#[33]⟩, .bool false, .int .i64 0, .string ⟨#[]⟩, .bool false, .slice none 0 0, .slice none 0 0, .int .i64 0, .int .i64 0, .slice none 0 0, .int .i64 0, .int .i64 0]
abbrev reasonV : List Value := [.bool false, .bool false, .string ⟨#[]⟩, .string ⟨#[114, 101, 97, 115, 111, 110]⟩, .string ⟨#[83, 116, 114, 105, 110, 103]⟩, .string ⟨#[]⟩, .bool true, .int .i64 4, .string ⟨#[78, 111, 32, 108, 111, 110, 103, 101, 114, 32, 115, 117, 112, 112, 111, 114, 116, 101, 100]⟩, .bool false, .slice none 0 0, .slice none 0 0, .int .i64 0, .int .i64 0, .slice none 0 0, .int .i64 0, .int .i64 0]
theorem rl_condV {K : World} : RL K (inputL condD) condV := by unfold condD; exact .lit (.lit (.lit (.lit (.lit (.lit (.lit (.lit (.lit (.lit (.cons RD.z (.cons RD.z (.lit (.lit (.cons RD.z (.lit (.lit RL.z))))))))))))))))
theorem rl_urlV {K : World} : RL K (inputL urlD) urlV := by unfold urlD; exact .lit (.lit (.lit (.lit (.lit (.lit (.lit (.lit (.lit (.lit (.cons RD.z (.cons RD.z (.lit (.lit (.cons RD.z (.lit (.lit RL.z))))))))))))))))
theorem rl_reasonV {K : World} : RL K (inputL reasonD) reasonV := by unfold reasonD; exact .lit (.lit (.lit (.lit (.lit (.lit (.lit (.lit (.lit (.lit (.cons RD.z (.cons RD.z (.lit (.lit (.cons RD.z (.lit (.lit RL.z))))))))))))))))
def DirR (s : ByteArray) (arg : InputD) (n : Nat) (l : List Txt) (K : World) (v : Value) : Prop :=
 ∃ g A c, v = .agg #[.int .i64 8, .bool false, .bool false, .bool false, .string ⟨#[]⟩, .string s, .slice none 0 0, .slice none 0 0, .slice none 0 0, .slice (some ⟨g, 0, none⟩) 1 1, .slice none 0 0, .slice none 0 0, .slice none 0 0, .bool false, .slice A n c, .int .i64 0, .int .i64 0] ∧ RD K (.list n (namedsL (l.map plD))) (.slice A n c) ∧ RD K (.list 1 (inputsL [arg])) (.slice (some ⟨g, 0, none⟩) 1 1)
theorem DirR.sat {s : ByteArray} {arg : InputD} {n : Nat} {l : List Txt} {K K' : World} {v : Value} (h : DirR s arg n l K v) (hs : Sat K' K) : DirR s arg n l K' v := by
 obtain ⟨g, A, c, h1, h2, h3⟩ := h
 exact ⟨g, A, c, h1, h2.sat hs, h3.sat hs⟩
def SlR (n : Nat) (l : List Txt) (K : World) (v : Value) : Prop := ∃ g, v = .slice (some ⟨g, 0, none⟩) n n ∧ RD K (.list n (textsL l)) v
theorem SlR.sat {n : Nat} {l : List Txt} {K K' : World} {v : Value} (h : SlR n l K v) (hs : Sat K' K) : SlR n l K' v := h.imp fun _ h => ⟨h.1, h.2.sat hs⟩
def EndR (K : World) (v : Value) : Prop := ∃ g, v = .slice (some ⟨g, 0, none⟩) 4 4 ∧ RD K (.list 4 (defsL givenDirsD)) v
theorem EndR.sat {K K' : World} {v : Value} (h : EndR K v) (hs : Sat K' K) : EndR K' v := h.imp fun _ h => ⟨h.1, h.2.sat hs⟩
def BdR (t : Nat) (K : World) (v : Value) : Prop :=
 match t with
 | 10 => v = .agg condV.toArray
 | 13 => v = .agg condV.toArray
 | 16 => v = .agg reasonV.toArray
 | 20 => v = .agg urlV.toArray
 | 19 => v = .agg #[.string ⟨#[83, 116, 114, 105, 110, 103]⟩, .string ⟨#[33]⟩]
 | 11 => SlR 3 pl3 K v
 | 14 => SlR 3 pl3 K v
 | 17 => SlR 2 pl2 K v
 | 21 => SlR 1 pl1 K v
 | 12 => DirR ⟨#[115, 107, 105, 112]⟩ condD 3 pl3 K v
 | 15 => DirR ⟨#[105, 110, 99, 108, 117, 100, 101]⟩ condD 3 pl3 K v
 | 18 => DirR ⟨#[100, 101, 112, 114, 101, 99, 97, 116, 101, 100]⟩ reasonD 2 pl2 K v
 | 22 => DirR ⟨#[115, 112, 101, 99, 105, 102, 105, 101, 100, 66, 121]⟩ urlD 1 pl1 K v
 | 23 => EndR K v
 | 0 => EndR K v
 | _ => True
theorem BdR.sat (t : Nat) (K K' : World) (v : Value) (hs : Sat K' K) (h : BdR t K v) : BdR t K' v := by
 unfold BdR at h ⊢
 split
 all_goals first | exact h | exact SlR.sat h hs | exact DirR.sat h hs | exact EndR.sat h hs | trivial
theorem rl_dir {K : World} {s : Txt} {arg : InputD} {l : List Txt} {n : Nat} {v v' : Value} {r : List DefD} {ys : List Value} (hn : RD K (.list n (namedsL (l.map plD))) v) (hi : RD K (.list 1 (inputsL [arg])) v') (h : RL K (defsL r) ys) (hl : l.length = n := by rfl) :
  RL K (defsL (dirD s arg l :: r)) (.int .i64 8 :: .bool false :: .bool false :: .bool false :: .string ⟨#[]⟩ :: .string (str s) :: .slice none 0 0 :: .slice none 0 0 :: .slice none 0 0 :: v' :: .slice none 0 0 :: .slice none 0 0 :: .slice none 0 0 :: .bool false :: v :: .int .i64 0 :: .int .i64 0 :: ys) := by
 subst hl
 exact DatL.app (def_leaf RD.z RD.z RD.z hi RD.z RD.z RD.z (by simpa using hn)) h
theorem rl_dirs {K : World} {a b c d a' b' c' d' : Value} (na : RD K (.list 3 (namedsL (pl3.map plD))) a) (ia : RD K (.list 1 (inputsL [condD])) a') (nb : RD K (.list 3 (namedsL (pl3.map plD))) b) (ib : RD K (.list 1 (inputsL [condD])) b') (nc : RD K (.list 2 (namedsL (pl2.map plD))) c) (ic : RD K (.list 1 (inputsL [reasonD])) c') (nd : RD K (.list 1 (namedsL (pl1.map plD))) d) (id : RD K (.list 1 (inputsL [urlD])) d') :
  RL K (defsL givenDirsD) [.int .i64 8, .bool false, .bool false, .bool false, .string ⟨#[]⟩, .string ⟨#[115, 107, 105, 112]⟩, .slice none 0 0, .slice none 0 0, .slice none 0 0, a', .slice none 0 0, .slice none 0 0, .slice none 0 0, .bool false, a, .int .i64 0, .int .i64 0, .int .i64 8, .bool false, .bool false, .bool false, .string ⟨#[]⟩, .string ⟨#[105, 110, 99, 108, 117, 100, 101]⟩, .slice none 0 0, .slice none 0 0, .slice none 0 0, b', .slice none 0 0, .slice none 0 0, .slice none 0 0, .bool false, b, .int .i64 0, .int .i64 0, .int .i64 8, .bool false, .bool false, .bool false, .string ⟨#[]⟩, .string ⟨#[100, 101, 112, 114, 101, 99, 97, 116, 101, 100]⟩, .slice none 0 0, .slice none 0 0, .slice none 0 0, c', .slice none 0 0, .slice none 0 0, .slice none 0 0, .bool false, c, .int .i64 0, .int .i64 0, .int .i64 8, .bool false, .bool false, .bool false, .string ⟨#[]⟩, .string ⟨#[115, 112, 101, 99, 105, 102, 105, 101, 100, 66, 121]⟩, .slice none 0 0, .slice none 0 0, .slice none 0 0, d', .slice none 0 0, .slice none 0 0, .slice none 0 0, .bool false, d, .int .i64 0, .int .i64 0] := rl_dir na ia (rl_dir nb ib (rl_dir nc ic (rl_dir nd id rd_nil)))
def BdP (w0 K : World) (M : List Ent) (e : Ending) (w' : World) : Prop :=
 ∃ K' A c, e = .returned (.slice A 4 c) ∧ Sat K' K ∧ Hp w0 w' K' M ∧ RD K' (.list 4 (defsL givenDirsD)) (.slice A 4 c)
set_option maxHeartbeats 16000000 in
theorem builtDirs_hp (w0 w K : World) (M : List Ent) (H : Hp w0 w K M) :
  Calls Tryz.prog 57 #[] w (BdP w0 K M) := by
 go_enter Tryz.func57, Tryz.ntmps57
 go_upto_region 3 with (first
  | (go_at_call 104; refine (ref_hp _ _ _ _ _ _ H).mono ?_; clear H; rintro e x1 ⟨rfl, H⟩)
  | ((with_reducible refine isL ?_); first
   | (refine al z123 1 H ?_; clear H; intro w2 g1 H)
   | (refine sA 1 0 H ?_; clear H; intro w4 H)
   | (refine al z121 2 H ?_; clear H; intro w5 g2 H)
   | (refine sA 2 0 H ?_; clear H; intro w7 H)))
 refine held.begin_ (fun w' => w'.cell? ⟨g2, 0, none⟩ = some (.int .i64 4) ∧ w'.cell? ⟨g2, 1, none⟩ = some (.string ⟨#[78, 111, 32, 108, 111, 110, 103, 101, 114, 32, 115, 117, 112, 112, 111, 114, 116, 101, 100]⟩) ∧ w'.cell? ⟨g2, 2, none⟩ = some (.bool false) ∧ w'.cell? ⟨g2, 3, none⟩ = some (.slice none 0 0) ∧ w'.cell? ⟨g2, 4, none⟩ = some (.slice none 0 0) ∧ w'.cell? ⟨g2, 5, none⟩ = some (.int .i64 0) ∧ w'.cell? ⟨g2, 6, none⟩ = some (.int .i64 0)) [4] (by kernel_rfl) ?_
 replace H := H.drew1
 obtain ⟨w8, hq9⟩ : ∃ x, (w7).drew = x := ⟨_, rfl⟩
 rw [hq9] at H ⊢
 clear hq9
 have hS10 : w8.cell? ⟨g2, 0, none⟩ = some (.int .i64 4) ∧ w8.cell? ⟨g2, 1, none⟩ = some (.string ⟨#[78, 111, 32, 108, 111, 110, 103, 101, 114, 32, 115, 117, 112, 112, 111, 114, 116, 101, 100]⟩) ∧ w8.cell? ⟨g2, 2, none⟩ = some (.bool false) ∧ w8.cell? ⟨g2, 3, none⟩ = some (.slice none 0 0) ∧ w8.cell? ⟨g2, 4, none⟩ = some (.slice none 0 0) ∧ w8.cell? ⟨g2, 5, none⟩ = some (.int .i64 0) ∧ w8.cell? ⟨g2, 6, none⟩ = some (.int .i64 0) := ⟨H.cell (i := 0) rfl rfl, H.cell (i := 0) rfl rfl, H.cell (i := 0) rfl rfl, H.cell (i := 0) rfl rfl, H.cell (i := 0) rfl rfl, H.cell (i := 0) rfl rfl, H.cell (i := 0) rfl rfl⟩
 refine tk 1 hS10 ?_
 refine step2 (i := 0) (j := 3) (by kernel_rfl) rfl rfl (fun Kq hKq => ?_) (fun Kq hKq => ?_)
 · skip
   go_simp
   refine (ref_hp _ _ _ _ _ _ H).mono ?_
   clear H
   rintro e x2 ⟨rfl, H⟩
   replace H : Hp _ _ _ (_ :: _ :: M) := H
   try go_simp
   have hS11 : x2.cell? ⟨g2, 0, none⟩ = some (.int .i64 4) ∧ x2.cell? ⟨g2, 1, none⟩ = some (.string ⟨#[78, 111, 32, 108, 111, 110, 103, 101, 114, 32, 115, 117, 112, 112, 111, 114, 116, 101, 100]⟩) ∧ x2.cell? ⟨g2, 2, none⟩ = some (.bool false) ∧ x2.cell? ⟨g2, 3, none⟩ = some (.slice none 0 0) ∧ x2.cell? ⟨g2, 4, none⟩ = some (.slice none 0 0) ∧ x2.cell? ⟨g2, 5, none⟩ = some (.int .i64 0) ∧ x2.cell? ⟨g2, 6, none⟩ = some (.int .i64 0) := ⟨H.cell (i := 0) rfl rfl, H.cell (i := 0) rfl rfl, H.cell (i := 0) rfl rfl, H.cell (i := 0) rfl rfl, H.cell (i := 0) rfl rfl, H.cell (i := 0) rfl rfl, H.cell (i := 0) rfl rfl⟩
   refine hKq.out _ _ (fun _ => hS11) (fun _ => ?_)
   clear hKq Kq
   refine tk 2 hS11 ?_
   refine held.step (i := 3) (by kernel_rfl) rfl (fun Kq hKq => ?_)
   go_simp
   replace H := H.alloc [.bool false, .bool false, .string ⟨#[]⟩, .string ⟨#[]⟩, .string ⟨#[]⟩, .string ⟨#[]⟩, .bool false, .int .i64 0, .string ⟨#[]⟩, .bool false, .slice none 0 0, .slice none 0 0, .int .i64 0, .int .i64 0, .slice none 0 0, .int .i64 0, .int .i64 0] 123
   obtain ⟨w13, hq14⟩ : ∃ x, (x2).alloc (.cells #[.bool false, .bool false, .string ⟨#[]⟩, .string ⟨#[]⟩, .string ⟨#[]⟩, .string ⟨#[]⟩, .bool false, .int .i64 0, .string ⟨#[]⟩, .bool false, .slice none 0 0, .slice none 0 0, .int .i64 0, .int .i64 0, .slice none 0 0, .int .i64 0, .int .i64 0] 123) = x := ⟨_, rfl⟩
   obtain ⟨g3, hg12⟩ : ∃ x, (x2).heap.size = x := ⟨_, rfl⟩
   rw [hg12] at H ⊢
   rw [hq14] at H ⊢
   clear hg12 hq14
   have hS15 : w13.cell? ⟨g2, 0, none⟩ = some (.int .i64 4) ∧ w13.cell? ⟨g2, 1, none⟩ = some (.string ⟨#[78, 111, 32, 108, 111, 110, 103, 101, 114, 32, 115, 117, 112, 112, 111, 114, 116, 101, 100]⟩) ∧ w13.cell? ⟨g2, 2, none⟩ = some (.bool false) ∧ w13.cell? ⟨g2, 3, none⟩ = some (.slice none 0 0) ∧ w13.cell? ⟨g2, 4, none⟩ = some (.slice none 0 0) ∧ w13.cell? ⟨g2, 5, none⟩ = some (.int .i64 0) ∧ w13.cell? ⟨g2, 6, none⟩ = some (.int .i64 0) := ⟨H.cell (i := 1) rfl rfl, H.cell (i := 1) rfl rfl, H.cell (i := 1) rfl rfl, H.cell (i := 1) rfl rfl, H.cell (i := 1) rfl rfl, H.cell (i := 1) rfl rfl, H.cell (i := 1) rfl rfl⟩
   refine hKq.out _ _ (fun _ => hS15) (fun _ => ?_)
   clear hKq Kq
   refine held.step (i := 4) (by kernel_rfl) rfl (fun Kq hKq => ?_)
   refine step_store_hp (by rfl) 123 (.tmp 3) (.tmp 9) (by rfl) g3 0 (by first | rfl | simp [Act.eval, Act.put]) (.agg #[.bool false, .bool false, .string ⟨#[]⟩, .string ⟨#[114, 101, 97, 115, 111, 110]⟩, .string ⟨#[83, 116, 114, 105, 110, 103]⟩, .string ⟨#[]⟩, .bool true, .int .i64 4, .string ⟨#[78, 111, 32, 108, 111, 110, 103, 101, 114, 32, 115, 117, 112, 112, 111, 114, 116, 101, 100]⟩, .bool false, .slice none 0 0, .slice none 0 0, .int .i64 0, .int .i64 0, .slice none 0 0, .int .i64 0, .int .i64 0]) (by first | rfl | simp [Act.eval, Act.put]) [.bool false, .bool false, .string ⟨#[]⟩, .string ⟨#[114, 101, 97, 115, 111, 110]⟩, .string ⟨#[83, 116, 114, 105, 110, 103]⟩, .string ⟨#[]⟩, .bool true, .int .i64 4, .string ⟨#[78, 111, 32, 108, 111, 110, 103, 101, 114, 32, 115, 117, 112, 112, 111, 114, 116, 101, 100]⟩, .bool false, .slice none 0 0, .slice none 0 0, .int .i64 0, .int .i64 0, .slice none 0 0, .int .i64 0, .int .i64 0] (by rfl) (by simp [Value.oneCell']) (by kernel_rfl) H 0 [.bool false, .bool false, .string ⟨#[]⟩, .string ⟨#[]⟩, .string ⟨#[]⟩, .string ⟨#[]⟩, .bool false, .int .i64 0, .string ⟨#[]⟩, .bool false, .slice none 0 0, .slice none 0 0, .int .i64 0, .int .i64 0, .slice none 0 0, .int .i64 0, .int .i64 0] [.bool false, .bool false, .string ⟨#[]⟩, .string ⟨#[114, 101, 97, 115, 111, 110]⟩, .string ⟨#[83, 116, 114, 105, 110, 103]⟩, .string ⟨#[]⟩, .bool true, .int .i64 4, .string ⟨#[78, 111, 32, 108, 111, 110, 103, 101, 114, 32, 115, 117, 112, 112, 111, 114, 116, 101, 100]⟩, .bool false, .slice none 0 0, .slice none 0 0, .int .i64 0, .int .i64 0, .slice none 0 0, .int .i64 0, .int .i64 0] 123 (by rfl) (Nat.le_of_ble_eq_true (by rfl)) (by rfl) ?_
   clear H
   intro w16 H
   refine hKq.out _ _ (fun h => absurd (List.mem_singleton.2 rfl) h) (fun _ => ?_)
   clear hKq Kq
   refine held.done (by kernel_rfl) ?_ _
   simp only [Act.put, List.getElem_toArray, List.getElem_cons_zero, List.getElem_cons_succ, List.setIfInBounds_toArray, List.set_cons_zero, List.set_cons_succ]
   replace H : Hp _ _ _ (_ :: _ :: _ :: M) := H
   go_upto_region 4 with (fail)
   replace H := H.sub (List.Sublist.cons_cons _ (List.Sublist.cons _ (List.Sublist.cons_cons _ (List.Sublist.refl _))))
   refine any_law (R := BdR) (by kernel_rfl) (by kernel_rfl) (by kernel_rfl) (by kernel_rfl) BdR.sat ?_ H ?_
   · simp only [List.mem_cons, List.not_mem_nil, or_false, forall_eq_or_imp, forall_eq]
     refine ⟨?_, ?_, ?_, ?_, ?_, ?_, ?_, ?_, ?_, ?_, ?_, ?_, ?_, ?_, ?_⟩
     · intro a w K hK H hdep hold Kc hKc
       have e1 : a.tmps.getD 1 undef = .pointer (some ⟨g1, 0, none⟩) := hold 1 (by kernel_rfl)
       refine step_load_hp (by rfl) 123 (.tmp 1) (by rfl) g1 0 e1 condV _ Tryz.underlying123 rfl (by kernel_rfl) H 1 condV 123 (by rfl) (by rfl) ?_
       exact hKc _ _ _ (Sat.refl _) H (fun t ht => by injection ht with ht; subst ht; exact rfl)
     · intro a w K hK H hdep hold Kc hKc
       refine step_build_hp (by rfl) 27 9 3 _ (by rfl) Tryz.underlying27 [(0, .string ⟨#[70, 73, 69, 76, 68]⟩), (1, .string ⟨#[70, 82, 65, 71, 77, 69, 78, 84, 95, 83, 80, 82, 69, 65, 68]⟩), (2, .string ⟨#[73, 78, 76, 73, 78, 69, 95, 70, 82, 65, 71, 77, 69, 78, 84]⟩)] (by kernel_rfl) [.string ⟨#[70, 73, 69, 76, 68]⟩, .string ⟨#[70, 82, 65, 71, 77, 69, 78, 84, 95, 83, 80, 82, 69, 65, 68]⟩, .string ⟨#[73, 78, 76, 73, 78, 69, 95, 70, 82, 65, 71, 77, 69, 78, 84]⟩] (by kernel_rfl) H ?_
       intro w1 g H
       obtain ⟨K1, hle, H, hb⟩ := H.freezeBox (n := 3) (ls := textsL pl3) (rt_s (rt_s (rt_s (RL.z)))) (by simp [maxLen])
       exact hKc _ _ _ hle H (fun t ht => by injection ht with ht; subst ht; exact ⟨_, rfl, hb⟩)
     · intro a w K hK H hdep hold Kc hKc
       obtain ⟨g, ev, hs⟩ := hdep 1 11 (by kernel_rfl) (by rfl)
       have ea : a.tmps.getD 10 undef = .agg condV.toArray := hdep 0 10 (by kernel_rfl) (by rfl)
       rw [ev] at hs
       have hc := directive_hp ⟨#[115, 107, 105, 112]⟩ condD _ _ _ _ _ _ _ _ _ _ _ _ _ _ _ _ _ pl3 3 3 (some ⟨g, 0, none⟩) _ _ _ _ H rfl (by omega) hs rl_condV
       go_simp
       refine hc.mono ?_
       rintro e w1 ⟨K1, gi, A, c, rfl, hle, H, hn, hi⟩
       exact hKc _ _ _ hle H (fun t ht => by injection ht with ht; subst ht; exact ⟨_, _, _, rfl, hn, hi⟩)
     · intro a w K hK H hdep hold Kc hKc
       have e1 : a.tmps.getD 1 undef = .pointer (some ⟨g1, 0, none⟩) := hold 1 (by kernel_rfl)
       refine step_load_hp (by rfl) 123 (.tmp 1) (by rfl) g1 0 e1 condV _ Tryz.underlying123 rfl (by kernel_rfl) H 1 condV 123 (by rfl) (by rfl) ?_
       exact hKc _ _ _ (Sat.refl _) H (fun t ht => by injection ht with ht; subst ht; exact rfl)
     · intro a w K hK H hdep hold Kc hKc
       refine step_build_hp (by rfl) 27 9 3 _ (by rfl) Tryz.underlying27 [(0, .string ⟨#[70, 73, 69, 76, 68]⟩), (1, .string ⟨#[70, 82, 65, 71, 77, 69, 78, 84, 95, 83, 80, 82, 69, 65, 68]⟩), (2, .string ⟨#[73, 78, 76, 73, 78, 69, 95, 70, 82, 65, 71, 77, 69, 78, 84]⟩)] (by kernel_rfl) [.string ⟨#[70, 73, 69, 76, 68]⟩, .string ⟨#[70, 82, 65, 71, 77, 69, 78, 84, 95, 83, 80, 82, 69, 65, 68]⟩, .string ⟨#[73, 78, 76, 73, 78, 69, 95, 70, 82, 65, 71, 77, 69, 78, 84]⟩] (by kernel_rfl) H ?_
       intro w1 g H
       obtain ⟨K1, hle, H, hb⟩ := H.freezeBox (n := 3) (ls := textsL pl3) (rt_s (rt_s (rt_s (RL.z)))) (by simp [maxLen])
       exact hKc _ _ _ hle H (fun t ht => by injection ht with ht; subst ht; exact ⟨_, rfl, hb⟩)
     · intro a w K hK H hdep hold Kc hKc
       obtain ⟨g, ev, hs⟩ := hdep 4 14 (by kernel_rfl) (by rfl)
       have ea : a.tmps.getD 13 undef = .agg condV.toArray := hdep 3 13 (by kernel_rfl) (by rfl)
       rw [ev] at hs
       have hc := directive_hp ⟨#[105, 110, 99, 108, 117, 100, 101]⟩ condD _ _ _ _ _ _ _ _ _ _ _ _ _ _ _ _ _ pl3 3 3 (some ⟨g, 0, none⟩) _ _ _ _ H rfl (by omega) hs rl_condV
       go_simp
       refine hc.mono ?_
       rintro e w1 ⟨K1, gi, A, c, rfl, hle, H, hn, hi⟩
       exact hKc _ _ _ hle H (fun t ht => by injection ht with ht; subst ht; exact ⟨_, _, _, rfl, hn, hi⟩)
     · intro a w K hK H hdep hold Kc hKc
       have e1 : a.tmps.getD 3 undef = .pointer (some ⟨g3, 0, none⟩) := hold 3 (by kernel_rfl)
       refine step_load_hp (by rfl) 123 (.tmp 3) (by rfl) g3 0 e1 reasonV _ Tryz.underlying123 rfl (by kernel_rfl) H 0 reasonV 123 (by rfl) (by rfl) ?_
       exact hKc _ _ _ (Sat.refl _) H (fun t ht => by injection ht with ht; subst ht; exact rfl)
     · intro a w K hK H hdep hold Kc hKc
       refine step_build_hp (by rfl) 27 9 2 _ (by rfl) Tryz.underlying27 [(0, .string ⟨#[70, 73, 69, 76, 68, 95, 68, 69, 70, 73, 78, 73, 84, 73, 79, 78]⟩), (1, .string ⟨#[69, 78, 85, 77, 95, 86, 65, 76, 85, 69]⟩)] (by kernel_rfl) [.string ⟨#[70, 73, 69, 76, 68, 95, 68, 69, 70, 73, 78, 73, 84, 73, 79, 78]⟩, .string ⟨#[69, 78, 85, 77, 95, 86, 65, 76, 85, 69]⟩] (by kernel_rfl) H ?_
       intro w1 g H
       obtain ⟨K1, hle, H, hb⟩ := H.freezeBox (n := 2) (ls := textsL pl2) (rt_s (rt_s (RL.z))) (by simp [maxLen])
       exact hKc _ _ _ hle H (fun t ht => by injection ht with ht; subst ht; exact ⟨_, rfl, hb⟩)
     · intro a w K hK H hdep hold Kc hKc
       obtain ⟨g, ev, hs⟩ := hdep 7 17 (by kernel_rfl) (by rfl)
       have ea : a.tmps.getD 16 undef = .agg reasonV.toArray := hdep 6 16 (by kernel_rfl) (by rfl)
       rw [ev] at hs
       have hc := directive_hp ⟨#[100, 101, 112, 114, 101, 99, 97, 116, 101, 100]⟩ reasonD _ _ _ _ _ _ _ _ _ _ _ _ _ _ _ _ _ pl2 2 2 (some ⟨g, 0, none⟩) _ _ _ _ H rfl (by omega) hs rl_reasonV
       go_simp
       refine hc.mono ?_
       rintro e w1 ⟨K1, gi, A, c, rfl, hle, H, hn, hi⟩
       exact hKc _ _ _ hle H (fun t ht => by injection ht with ht; subst ht; exact ⟨_, _, _, rfl, hn, hi⟩)
     · intro a w K hK H hdep hold Kc hKc
       have hc := ref_hp ⟨#[83, 116, 114, 105, 110, 103]⟩ ⟨#[33]⟩ _ _ _ _ H
       go_simp
       refine hc.mono ?_
       rintro e w1 ⟨rfl, H⟩
       exact hKc _ _ _ (Sat.refl _) H (fun t ht => by injection ht with ht; subst ht; exact rfl)
     · intro a w K hK H hdep hold Kc hKc
       have e19 : a.tmps.getD 19 undef = .agg #[.string ⟨#[83, 116, 114, 105, 110, 103]⟩, .string ⟨#[33]⟩] := hdep 9 19 (by kernel_rfl) (by rfl)
       have e19' : a.tmps[19]?.getD undef = .agg #[.string ⟨#[83, 116, 114, 105, 110, 103]⟩, .string ⟨#[33]⟩] := by simpa using e19
       go_simp
       exact hKc _ _ _ (Sat.refl _) H (fun t ht => by injection ht with ht; subst ht; exact rfl)
     · intro a w K hK H hdep hold Kc hKc
       refine step_build_hp (by rfl) 27 9 1 _ (by rfl) Tryz.underlying27 [(0, .string ⟨#[83, 67, 65, 76, 65, 82]⟩)] (by kernel_rfl) [.string ⟨#[83, 67, 65, 76, 65, 82]⟩] (by kernel_rfl) H ?_
       intro w1 g H
       obtain ⟨K1, hle, H, hb⟩ := H.freezeBox (n := 1) (ls := textsL pl1) (rt_s (RL.z)) (by simp [maxLen])
       exact hKc _ _ _ hle H (fun t ht => by injection ht with ht; subst ht; exact ⟨_, rfl, hb⟩)
     · intro a w K hK H hdep hold Kc hKc
       obtain ⟨g, ev, hs⟩ := hdep 11 21 (by kernel_rfl) (by rfl)
       have ea : a.tmps.getD 20 undef = .agg urlV.toArray := hdep 10 20 (by kernel_rfl) (by rfl)
       rw [ev] at hs
       have hc := directive_hp ⟨#[115, 112, 101, 99, 105, 102, 105, 101, 100, 66, 121]⟩ urlD _ _ _ _ _ _ _ _ _ _ _ _ _ _ _ _ _ pl1 1 1 (some ⟨g, 0, none⟩) _ _ _ _ H rfl (by omega) hs rl_urlV
       go_simp
       refine hc.mono ?_
       rintro e w1 ⟨K1, gi, A, c, rfl, hle, H, hn, hi⟩
       exact hKc _ _ _ hle H (fun t ht => by injection ht with ht; subst ht; exact ⟨_, _, _, rfl, hn, hi⟩)
     · intro a w K hK H hdep hold Kc hKc
       obtain ⟨ga, Aa, ca, e12, na, ia⟩ := hdep 2 12 (by kernel_rfl) (by rfl)
       obtain ⟨gb, Ab, cb, e15, nb, ib⟩ := hdep 5 15 (by kernel_rfl) (by rfl)
       obtain ⟨gc, Ac, cc, e18, nc, ic⟩ := hdep 8 18 (by kernel_rfl) (by rfl)
       obtain ⟨gd, Ad, cd, e22, nd, id⟩ := hdep 12 22 (by kernel_rfl) (by rfl)
       refine step_build_hp (by rfl) 22 43 4 _ (by rfl) Tryz.underlying22 [(0, .agg #[.int .i64 8, .bool false, .bool false, .bool false, .string ⟨#[]⟩, .string ⟨#[115, 107, 105, 112]⟩, .slice none 0 0, .slice none 0 0, .slice none 0 0, .slice (some ⟨ga, 0, none⟩) 1 1, .slice none 0 0, .slice none 0 0, .slice none 0 0, .bool false, .slice Aa 3 ca, .int .i64 0, .int .i64 0]), (1, .agg #[.int .i64 8, .bool false, .bool false, .bool false, .string ⟨#[]⟩, .string ⟨#[105, 110, 99, 108, 117, 100, 101]⟩, .slice none 0 0, .slice none 0 0, .slice none 0 0, .slice (some ⟨gb, 0, none⟩) 1 1, .slice none 0 0, .slice none 0 0, .slice none 0 0, .bool false, .slice Ab 3 cb, .int .i64 0, .int .i64 0]), (2, .agg #[.int .i64 8, .bool false, .bool false, .bool false, .string ⟨#[]⟩, .string ⟨#[100, 101, 112, 114, 101, 99, 97, 116, 101, 100]⟩, .slice none 0 0, .slice none 0 0, .slice none 0 0, .slice (some ⟨gc, 0, none⟩) 1 1, .slice none 0 0, .slice none 0 0, .slice none 0 0, .bool false, .slice Ac 2 cc, .int .i64 0, .int .i64 0]), (3, .agg #[.int .i64 8, .bool false, .bool false, .bool false, .string ⟨#[]⟩, .string ⟨#[115, 112, 101, 99, 105, 102, 105, 101, 100, 66, 121]⟩, .slice none 0 0, .slice none 0 0, .slice none 0 0, .slice (some ⟨gd, 0, none⟩) 1 1, .slice none 0 0, .slice none 0 0, .slice none 0 0, .bool false, .slice Ad 1 cd, .int .i64 0, .int .i64 0])] (Eq.trans (b := [(0, a.tmps.getD 12 undef), (1, a.tmps.getD 15 undef), (2, a.tmps.getD 18 undef), (3, a.tmps.getD 22 undef)]) (by kernel_rfl) (by rw [e12, e15, e18, e22])) [.int .i64 8, .bool false, .bool false, .bool false, .string ⟨#[]⟩, .string ⟨#[115, 107, 105, 112]⟩, .slice none 0 0, .slice none 0 0, .slice none 0 0, .slice (some ⟨ga, 0, none⟩) 1 1, .slice none 0 0, .slice none 0 0, .slice none 0 0, .bool false, .slice Aa 3 ca, .int .i64 0, .int .i64 0, .int .i64 8, .bool false, .bool false, .bool false, .string ⟨#[]⟩, .string ⟨#[105, 110, 99, 108, 117, 100, 101]⟩, .slice none 0 0, .slice none 0 0, .slice none 0 0, .slice (some ⟨gb, 0, none⟩) 1 1, .slice none 0 0, .slice none 0 0, .slice none 0 0, .bool false, .slice Ab 3 cb, .int .i64 0, .int .i64 0, .int .i64 8, .bool false, .bool false, .bool false, .string ⟨#[]⟩, .string ⟨#[100, 101, 112, 114, 101, 99, 97, 116, 101, 100]⟩, .slice none 0 0, .slice none 0 0, .slice none 0 0, .slice (some ⟨gc, 0, none⟩) 1 1, .slice none 0 0, .slice none 0 0, .slice none 0 0, .bool false, .slice Ac 2 cc, .int .i64 0, .int .i64 0, .int .i64 8, .bool false, .bool false, .bool false, .string ⟨#[]⟩, .string ⟨#[115, 112, 101, 99, 105, 102, 105, 101, 100, 66, 121]⟩, .slice none 0 0, .slice none 0 0, .slice none 0 0, .slice (some ⟨gd, 0, none⟩) 1 1, .slice none 0 0, .slice none 0 0, .slice none 0 0, .bool false, .slice Ad 1 cd, .int .i64 0, .int .i64 0] (by kernel_rfl) H ?_
       intro w1 g H
       obtain ⟨K1, hle, H, hb⟩ := H.freezeBox (n := 4) (ls := defsL givenDirsD) (rl_dirs na ia nb ib nc ic nd id) (by simp [maxLen])
       exact hKc _ _ _ hle H (fun t ht => by injection ht with ht; subst ht; exact ⟨_, rfl, hb⟩)
     · intro a w K hK H hdep hold Kc hKc
       obtain ⟨g, ev, hs⟩ := hdep 13 23 (by kernel_rfl) (by rfl)
       go_simp
       exact hKc _ _ _ (Sat.refl _) H (fun t ht => by injection ht with ht; subst ht; exact ⟨g, rfl, by rw [← ev]; exact hs⟩)
   · intro a' w' K' hle H hd hsz hn hold
     obtain ⟨g, ev, hv⟩ := hn 0 (by kernel_rfl)
     go_wp2_with fail
     have e0 : a'.tmps[0]?.getD undef = .slice (some ⟨g, 0, none⟩) 4 4 := by simpa using ev
     rw [ev] at hv
     replace H := H.tail.tail
     exact bodyPost_ret (v := .slice (some ⟨g, 0, none⟩) 4 4) (by simp [results, Tryz.results57, go_sem, e0]) hd ⟨K', _, _, rfl, hle, H, hv⟩
 · skip
   go_simp
   replace H := H.alloc [.bool false, .bool false, .string ⟨#[]⟩, .string ⟨#[]⟩, .string ⟨#[]⟩, .string ⟨#[]⟩, .bool false, .int .i64 0, .string ⟨#[]⟩, .bool false, .slice none 0 0, .slice none 0 0, .int .i64 0, .int .i64 0, .slice none 0 0, .int .i64 0, .int .i64 0] 123
   obtain ⟨w18, hq19⟩ : ∃ x, (w8).alloc (.cells #[.bool false, .bool false, .string ⟨#[]⟩, .string ⟨#[]⟩, .string ⟨#[]⟩, .string ⟨#[]⟩, .bool false, .int .i64 0, .string ⟨#[]⟩, .bool false, .slice none 0 0, .slice none 0 0, .int .i64 0, .int .i64 0, .slice none 0 0, .int .i64 0, .int .i64 0] 123) = x := ⟨_, rfl⟩
   obtain ⟨g3, hg17⟩ : ∃ x, (w8).heap.size = x := ⟨_, rfl⟩
   rw [hg17] at H ⊢
   rw [hq19] at H ⊢
   clear hg17 hq19
   have hS20 : w18.cell? ⟨g2, 0, none⟩ = some (.int .i64 4) ∧ w18.cell? ⟨g2, 1, none⟩ = some (.string ⟨#[78, 111, 32, 108, 111, 110, 103, 101, 114, 32, 115, 117, 112, 112, 111, 114, 116, 101, 100]⟩) ∧ w18.cell? ⟨g2, 2, none⟩ = some (.bool false) ∧ w18.cell? ⟨g2, 3, none⟩ = some (.slice none 0 0) ∧ w18.cell? ⟨g2, 4, none⟩ = some (.slice none 0 0) ∧ w18.cell? ⟨g2, 5, none⟩ = some (.int .i64 0) ∧ w18.cell? ⟨g2, 6, none⟩ = some (.int .i64 0) := ⟨H.cell (i := 1) rfl rfl, H.cell (i := 1) rfl rfl, H.cell (i := 1) rfl rfl, H.cell (i := 1) rfl rfl, H.cell (i := 1) rfl rfl, H.cell (i := 1) rfl rfl, H.cell (i := 1) rfl rfl⟩
   refine hKq.out _ _ (fun _ => hS20) (fun _ => ?_)
   clear hKq Kq
   refine held.step (i := 0) (by kernel_rfl) rfl (fun Kq hKq => ?_)
   go_simp
   refine (ref_hp _ _ _ _ _ _ H).mono ?_
   clear H
   rintro e x2 ⟨rfl, H⟩
   replace H : Hp _ _ _ (_ :: _ :: _ :: M) := H
   try go_simp
   have hS21 : x2.cell? ⟨g2, 0, none⟩ = some (.int .i64 4) ∧ x2.cell? ⟨g2, 1, none⟩ = some (.string ⟨#[78, 111, 32, 108, 111, 110, 103, 101, 114, 32, 115, 117, 112, 112, 111, 114, 116, 101, 100]⟩) ∧ x2.cell? ⟨g2, 2, none⟩ = some (.bool false) ∧ x2.cell? ⟨g2, 3, none⟩ = some (.slice none 0 0) ∧ x2.cell? ⟨g2, 4, none⟩ = some (.slice none 0 0) ∧ x2.cell? ⟨g2, 5, none⟩ = some (.int .i64 0) ∧ x2.cell? ⟨g2, 6, none⟩ = some (.int .i64 0) := ⟨H.cell (i := 1) rfl rfl, H.cell (i := 1) rfl rfl, H.cell (i := 1) rfl rfl, H.cell (i := 1) rfl rfl, H.cell (i := 1) rfl rfl, H.cell (i := 1) rfl rfl, H.cell (i := 1) rfl rfl⟩
   refine hKq.out _ _ (fun _ => hS21) (fun _ => ?_)
   clear hKq Kq
   refine tk 2 hS21 ?_
   refine held.step (i := 4) (by kernel_rfl) rfl (fun Kq hKq => ?_)
   refine step_store_hp (by rfl) 123 (.tmp 3) (.tmp 9) (by rfl) g3 0 (by first | rfl | simp [Act.eval, Act.put]) (.agg #[.bool false, .bool false, .string ⟨#[]⟩, .string ⟨#[114, 101, 97, 115, 111, 110]⟩, .string ⟨#[83, 116, 114, 105, 110, 103]⟩, .string ⟨#[]⟩, .bool true, .int .i64 4, .string ⟨#[78, 111, 32, 108, 111, 110, 103, 101, 114, 32, 115, 117, 112, 112, 111, 114, 116, 101, 100]⟩, .bool false, .slice none 0 0, .slice none 0 0, .int .i64 0, .int .i64 0, .slice none 0 0, .int .i64 0, .int .i64 0]) (by first | rfl | simp [Act.eval, Act.put]) [.bool false, .bool false, .string ⟨#[]⟩, .string ⟨#[114, 101, 97, 115, 111, 110]⟩, .string ⟨#[83, 116, 114, 105, 110, 103]⟩, .string ⟨#[]⟩, .bool true, .int .i64 4, .string ⟨#[78, 111, 32, 108, 111, 110, 103, 101, 114, 32, 115, 117, 112, 112, 111, 114, 116, 101, 100]⟩, .bool false, .slice none 0 0, .slice none 0 0, .int .i64 0, .int .i64 0, .slice none 0 0, .int .i64 0, .int .i64 0] (by rfl) (by simp [Value.oneCell']) (by kernel_rfl) H 0 [.bool false, .bool false, .string ⟨#[]⟩, .string ⟨#[]⟩, .string ⟨#[]⟩, .string ⟨#[]⟩, .bool false, .int .i64 0, .string ⟨#[]⟩, .bool false, .slice none 0 0, .slice none 0 0, .int .i64 0, .int .i64 0, .slice none 0 0, .int .i64 0, .int .i64 0] [.bool false, .bool false, .string ⟨#[]⟩, .string ⟨#[114, 101, 97, 115, 111, 110]⟩, .string ⟨#[83, 116, 114, 105, 110, 103]⟩, .string ⟨#[]⟩, .bool true, .int .i64 4, .string ⟨#[78, 111, 32, 108, 111, 110, 103, 101, 114, 32, 115, 117, 112, 112, 111, 114, 116, 101, 100]⟩, .bool false, .slice none 0 0, .slice none 0 0, .int .i64 0, .int .i64 0, .slice none 0 0, .int .i64 0, .int .i64 0] 123 (by rfl) (Nat.le_of_ble_eq_true (by rfl)) (by rfl) ?_
   clear H
   intro w22 H
   refine hKq.out _ _ (fun h => absurd (List.mem_singleton.2 rfl) h) (fun _ => ?_)
   clear hKq Kq
   refine held.done (by kernel_rfl) ?_ _
   simp only [Act.put, List.getElem_toArray, List.getElem_cons_zero, List.getElem_cons_succ, List.setIfInBounds_toArray, List.set_cons_zero, List.set_cons_succ]
   replace H : Hp _ _ _ (_ :: _ :: _ :: M) := H
   go_upto_region 4 with (fail)
   replace H := H.sub (List.Sublist.cons_cons _ (List.Sublist.cons _ (List.Sublist.cons_cons _ (List.Sublist.refl _))))
   refine any_law (R := BdR) (by kernel_rfl) (by kernel_rfl) (by kernel_rfl) (by kernel_rfl) BdR.sat ?_ H ?_
   · simp only [List.mem_cons, List.not_mem_nil, or_false, forall_eq_or_imp, forall_eq]
     refine ⟨?_, ?_, ?_, ?_, ?_, ?_, ?_, ?_, ?_, ?_, ?_, ?_, ?_, ?_, ?_⟩
     · intro a w K hK H hdep hold Kc hKc
       have e1 : a.tmps.getD 1 undef = .pointer (some ⟨g1, 0, none⟩) := hold 1 (by kernel_rfl)
       refine step_load_hp (by rfl) 123 (.tmp 1) (by rfl) g1 0 e1 condV _ Tryz.underlying123 rfl (by kernel_rfl) H 1 condV 123 (by rfl) (by rfl) ?_
       exact hKc _ _ _ (Sat.refl _) H (fun t ht => by injection ht with ht; subst ht; exact rfl)
     · intro a w K hK H hdep hold Kc hKc
       refine step_build_hp (by rfl) 27 9 3 _ (by rfl) Tryz.underlying27 [(0, .string ⟨#[70, 73, 69, 76, 68]⟩), (1, .string ⟨#[70, 82, 65, 71, 77, 69, 78, 84, 95, 83, 80, 82, 69, 65, 68]⟩), (2, .string ⟨#[73, 78, 76, 73, 78, 69, 95, 70, 82, 65, 71, 77, 69, 78, 84]⟩)] (by kernel_rfl) [.string ⟨#[70, 73, 69, 76, 68]⟩, .string ⟨#[70, 82, 65, 71, 77, 69, 78, 84, 95, 83, 80, 82, 69, 65, 68]⟩, .string ⟨#[73, 78, 76, 73, 78, 69, 95, 70, 82, 65, 71, 77, 69, 78, 84]⟩] (by kernel_rfl) H ?_
       intro w1 g H
       obtain ⟨K1, hle, H, hb⟩ := H.freezeBox (n := 3) (ls := textsL pl3) (rt_s (rt_s (rt_s (RL.z)))) (by simp [maxLen])
       exact hKc _ _ _ hle H (fun t ht => by injection ht with ht; subst ht; exact ⟨_, rfl, hb⟩)
     · intro a w K hK H hdep hold Kc hKc
       obtain ⟨g, ev, hs⟩ := hdep 1 11 (by kernel_rfl) (by rfl)
       have ea : a.tmps.getD 10 undef = .agg condV.toArray := hdep 0 10 (by kernel_rfl) (by rfl)
       rw [ev] at hs
       have hc := directive_hp ⟨#[115, 107, 105, 112]⟩ condD _ _ _ _ _ _ _ _ _ _ _ _ _ _ _ _ _ pl3 3 3 (some ⟨g, 0, none⟩) _ _ _ _ H rfl (by omega) hs rl_condV
       go_simp
       refine hc.mono ?_
       rintro e w1 ⟨K1, gi, A, c, rfl, hle, H, hn, hi⟩
       exact hKc _ _ _ hle H (fun t ht => by injection ht with ht; subst ht; exact ⟨_, _, _, rfl, hn, hi⟩)
     · intro a w K hK H hdep hold Kc hKc
       have e1 : a.tmps.getD 1 undef = .pointer (some ⟨g1, 0, none⟩) := hold 1 (by kernel_rfl)
       refine step_load_hp (by rfl) 123 (.tmp 1) (by rfl) g1 0 e1 condV _ Tryz.underlying123 rfl (by kernel_rfl) H 1 condV 123 (by rfl) (by rfl) ?_
       exact hKc _ _ _ (Sat.refl _) H (fun t ht => by injection ht with ht; subst ht; exact rfl)
     · intro a w K hK H hdep hold Kc hKc
       refine step_build_hp (by rfl) 27 9 3 _ (by rfl) Tryz.underlying27 [(0, .string ⟨#[70, 73, 69, 76, 68]⟩), (1, .string ⟨#[70, 82, 65, 71, 77, 69, 78, 84, 95, 83, 80, 82, 69, 65, 68]⟩), (2, .string ⟨#[73, 78, 76, 73, 78, 69, 95, 70, 82, 65, 71, 77, 69, 78, 84]⟩)] (by kernel_rfl) [.string ⟨#[70, 73, 69, 76, 68]⟩, .string ⟨#[70, 82, 65, 71, 77, 69, 78, 84, 95, 83, 80, 82, 69, 65, 68]⟩, .string ⟨#[73, 78, 76, 73, 78, 69, 95, 70, 82, 65, 71, 77, 69, 78, 84]⟩] (by kernel_rfl) H ?_
       intro w1 g H
       obtain ⟨K1, hle, H, hb⟩ := H.freezeBox (n := 3) (ls := textsL pl3) (rt_s (rt_s (rt_s (RL.z)))) (by simp [maxLen])
       exact hKc _ _ _ hle H (fun t ht => by injection ht with ht; subst ht; exact ⟨_, rfl, hb⟩)
     · intro a w K hK H hdep hold Kc hKc
       obtain ⟨g, ev, hs⟩ := hdep 4 14 (by kernel_rfl) (by rfl)
       have ea : a.tmps.getD 13 undef = .agg condV.toArray := hdep 3 13 (by kernel_rfl) (by rfl)
       rw [ev] at hs
       have hc := directive_hp ⟨#[105, 110, 99, 108, 117, 100, 101]⟩ condD _ _ _ _ _ _ _ _ _ _ _ _ _ _ _ _ _ pl3 3 3 (some ⟨g, 0, none⟩) _ _ _ _ H rfl (by omega) hs rl_condV
       go_simp
       refine hc.mono ?_
       rintro e w1 ⟨K1, gi, A, c, rfl, hle, H, hn, hi⟩
       exact hKc _ _ _ hle H (fun t ht => by injection ht with ht; subst ht; exact ⟨_, _, _, rfl, hn, hi⟩)
     · intro a w K hK H hdep hold Kc hKc
       have e1 : a.tmps.getD 3 undef = .pointer (some ⟨g3, 0, none⟩) := hold 3 (by kernel_rfl)
       refine step_load_hp (by rfl) 123 (.tmp 3) (by rfl) g3 0 e1 reasonV _ Tryz.underlying123 rfl (by kernel_rfl) H 0 reasonV 123 (by rfl) (by rfl) ?_
       exact hKc _ _ _ (Sat.refl _) H (fun t ht => by injection ht with ht; subst ht; exact rfl)
     · intro a w K hK H hdep hold Kc hKc
       refine step_build_hp (by rfl) 27 9 2 _ (by rfl) Tryz.underlying27 [(0, .string ⟨#[70, 73, 69, 76, 68, 95, 68, 69, 70, 73, 78, 73, 84, 73, 79, 78]⟩), (1, .string ⟨#[69, 78, 85, 77, 95, 86, 65, 76, 85, 69]⟩)] (by kernel_rfl) [.string ⟨#[70, 73, 69, 76, 68, 95, 68, 69, 70, 73, 78, 73, 84, 73, 79, 78]⟩, .string ⟨#[69, 78, 85, 77, 95, 86, 65, 76, 85, 69]⟩] (by kernel_rfl) H ?_
       intro w1 g H
       obtain ⟨K1, hle, H, hb⟩ := H.freezeBox (n := 2) (ls := textsL pl2) (rt_s (rt_s (RL.z))) (by simp [maxLen])
       exact hKc _ _ _ hle H (fun t ht => by injection ht with ht; subst ht; exact ⟨_, rfl, hb⟩)
     · intro a w K hK H hdep hold Kc hKc
       obtain ⟨g, ev, hs⟩ := hdep 7 17 (by kernel_rfl) (by rfl)
       have ea : a.tmps.getD 16 undef = .agg reasonV.toArray := hdep 6 16 (by kernel_rfl) (by rfl)
       rw [ev] at hs
       have hc := directive_hp ⟨#[100, 101, 112, 114, 101, 99, 97, 116, 101, 100]⟩ reasonD _ _ _ _ _ _ _ _ _ _ _ _ _ _ _ _ _ pl2 2 2 (some ⟨g, 0, none⟩) _ _ _ _ H rfl (by omega) hs rl_reasonV
       go_simp
       refine hc.mono ?_
       rintro e w1 ⟨K1, gi, A, c, rfl, hle, H, hn, hi⟩
       exact hKc _ _ _ hle H (fun t ht => by injection ht with ht; subst ht; exact ⟨_, _, _, rfl, hn, hi⟩)
     · intro a w K hK H hdep hold Kc hKc
       have hc := ref_hp ⟨#[83, 116, 114, 105, 110, 103]⟩ ⟨#[33]⟩ _ _ _ _ H
       go_simp
       refine hc.mono ?_
       rintro e w1 ⟨rfl, H⟩
       exact hKc _ _ _ (Sat.refl _) H (fun t ht => by injection ht with ht; subst ht; exact rfl)
     · intro a w K hK H hdep hold Kc hKc
       have e19 : a.tmps.getD 19 undef = .agg #[.string ⟨#[83, 116, 114, 105, 110, 103]⟩, .string ⟨#[33]⟩] := hdep 9 19 (by kernel_rfl) (by rfl)
       have e19' : a.tmps[19]?.getD undef = .agg #[.string ⟨#[83, 116, 114, 105, 110, 103]⟩, .string ⟨#[33]⟩] := by simpa using e19
       go_simp
       exact hKc _ _ _ (Sat.refl _) H (fun t ht => by injection ht with ht; subst ht; exact rfl)
     · intro a w K hK H hdep hold Kc hKc
       refine step_build_hp (by rfl) 27 9 1 _ (by rfl) Tryz.underlying27 [(0, .string ⟨#[83, 67, 65, 76, 65, 82]⟩)] (by kernel_rfl) [.string ⟨#[83, 67, 65, 76, 65, 82]⟩] (by kernel_rfl) H ?_
       intro w1 g H
       obtain ⟨K1, hle, H, hb⟩ := H.freezeBox (n := 1) (ls := textsL pl1) (rt_s (RL.z)) (by simp [maxLen])
       exact hKc _ _ _ hle H (fun t ht => by injection ht with ht; subst ht; exact ⟨_, rfl, hb⟩)
     · intro a w K hK H hdep hold Kc hKc
       obtain ⟨g, ev, hs⟩ := hdep 11 21 (by kernel_rfl) (by rfl)
       have ea : a.tmps.getD 20 undef = .agg urlV.toArray := hdep 10 20 (by kernel_rfl) (by rfl)
       rw [ev] at hs
       have hc := directive_hp ⟨#[115, 112, 101, 99, 105, 102, 105, 101, 100, 66, 121]⟩ urlD _ _ _ _ _ _ _ _ _ _ _ _ _ _ _ _ _ pl1 1 1 (some ⟨g, 0, none⟩) _ _ _ _ H rfl (by omega) hs rl_urlV
       go_simp
       refine hc.mono ?_
       rintro e w1 ⟨K1, gi, A, c, rfl, hle, H, hn, hi⟩
       exact hKc _ _ _ hle H (fun t ht => by injection ht with ht; subst ht; exact ⟨_, _, _, rfl, hn, hi⟩)
     · intro a w K hK H hdep hold Kc hKc
       obtain ⟨ga, Aa, ca, e12, na, ia⟩ := hdep 2 12 (by kernel_rfl) (by rfl)
       obtain ⟨gb, Ab, cb, e15, nb, ib⟩ := hdep 5 15 (by kernel_rfl) (by rfl)
       obtain ⟨gc, Ac, cc, e18, nc, ic⟩ := hdep 8 18 (by kernel_rfl) (by rfl)
       obtain ⟨gd, Ad, cd, e22, nd, id⟩ := hdep 12 22 (by kernel_rfl) (by rfl)
       refine step_build_hp (by rfl) 22 43 4 _ (by rfl) Tryz.underlying22 [(0, .agg #[.int .i64 8, .bool false, .bool false, .bool false, .string ⟨#[]⟩, .string ⟨#[115, 107, 105, 112]⟩, .slice none 0 0, .slice none 0 0, .slice none 0 0, .slice (some ⟨ga, 0, none⟩) 1 1, .slice none 0 0, .slice none 0 0, .slice none 0 0, .bool false, .slice Aa 3 ca, .int .i64 0, .int .i64 0]), (1, .agg #[.int .i64 8, .bool false, .bool false, .bool false, .string ⟨#[]⟩, .string ⟨#[105, 110, 99, 108, 117, 100, 101]⟩, .slice none 0 0, .slice none 0 0, .slice none 0 0, .slice (some ⟨gb, 0, none⟩) 1 1, .slice none 0 0, .slice none 0 0, .slice none 0 0, .bool false, .slice Ab 3 cb, .int .i64 0, .int .i64 0]), (2, .agg #[.int .i64 8, .bool false, .bool false, .bool false, .string ⟨#[]⟩, .string ⟨#[100, 101, 112, 114, 101, 99, 97, 116, 101, 100]⟩, .slice none 0 0, .slice none 0 0, .slice none 0 0, .slice (some ⟨gc, 0, none⟩) 1 1, .slice none 0 0, .slice none 0 0, .slice none 0 0, .bool false, .slice Ac 2 cc, .int .i64 0, .int .i64 0]), (3, .agg #[.int .i64 8, .bool false, .bool false, .bool false, .string ⟨#[]⟩, .string ⟨#[115, 112, 101, 99, 105, 102, 105, 101, 100, 66, 121]⟩, .slice none 0 0, .slice none 0 0, .slice none 0 0, .slice (some ⟨gd, 0, none⟩) 1 1, .slice none 0 0, .slice none 0 0, .slice none 0 0, .bool false, .slice Ad 1 cd, .int .i64 0, .int .i64 0])] (Eq.trans (b := [(0, a.tmps.getD 12 undef), (1, a.tmps.getD 15 undef), (2, a.tmps.getD 18 undef), (3, a.tmps.getD 22 undef)]) (by kernel_rfl) (by rw [e12, e15, e18, e22])) [.int .i64 8, .bool false, .bool false, .bool false, .string ⟨#[]⟩, .string ⟨#[115, 107, 105, 112]⟩, .slice none 0 0, .slice none 0 0, .slice none 0 0, .slice (some ⟨ga, 0, none⟩) 1 1, .slice none 0 0, .slice none 0 0, .slice none 0 0, .bool false, .slice Aa 3 ca, .int .i64 0, .int .i64 0, .int .i64 8, .bool false, .bool false, .bool false, .string ⟨#[]⟩, .string ⟨#[105, 110, 99, 108, 117, 100, 101]⟩, .slice none 0 0, .slice none 0 0, .slice none 0 0, .slice (some ⟨gb, 0, none⟩) 1 1, .slice none 0 0, .slice none 0 0, .slice none 0 0, .bool false, .slice Ab 3 cb, .int .i64 0, .int .i64 0, .int .i64 8, .bool false, .bool false, .bool false, .string ⟨#[]⟩, .string ⟨#[100, 101, 112, 114, 101, 99, 97, 116, 101, 100]⟩, .slice none 0 0, .slice none 0 0, .slice none 0 0, .slice (some ⟨gc, 0, none⟩) 1 1, .slice none 0 0, .slice none 0 0, .slice none 0 0, .bool false, .slice Ac 2 cc, .int .i64 0, .int .i64 0, .int .i64 8, .bool false, .bool false, .bool false, .string ⟨#[]⟩, .string ⟨#[115, 112, 101, 99, 105, 102, 105, 101, 100, 66, 121]⟩, .slice none 0 0, .slice none 0 0, .slice none 0 0, .slice (some ⟨gd, 0, none⟩) 1 1, .slice none 0 0, .slice none 0 0, .slice none 0 0, .bool false, .slice Ad 1 cd, .int .i64 0, .int .i64 0] (by kernel_rfl) H ?_
       intro w1 g H
       obtain ⟨K1, hle, H, hb⟩ := H.freezeBox (n := 4) (ls := defsL givenDirsD) (rl_dirs na ia nb ib nc ic nd id) (by simp [maxLen])
       exact hKc _ _ _ hle H (fun t ht => by injection ht with ht; subst ht; exact ⟨_, rfl, hb⟩)
     · intro a w K hK H hdep hold Kc hKc
       obtain ⟨g, ev, hs⟩ := hdep 13 23 (by kernel_rfl) (by rfl)
       go_simp
       exact hKc _ _ _ (Sat.refl _) H (fun t ht => by injection ht with ht; subst ht; exact ⟨g, rfl, by rw [← ev]; exact hs⟩)
   · intro a' w' K' hle H hd hsz hn hold
     obtain ⟨g, ev, hv⟩ := hn 0 (by kernel_rfl)
     go_wp2_with fail
     have e0 : a'.tmps[0]?.getD undef = .slice (some ⟨g, 0, none⟩) 4 4 := by simpa using ev
     rw [ev] at hv
     replace H := H.tail.tail
     exact bodyPost_ret (v := .slice (some ⟨g, 0, none⟩) 4 4) (by simp [results, Tryz.results57, go_sem, e0]) hd ⟨K', _, _, rfl, hle, H, hv⟩
end Go.Proofs.YtbpgkkoeehopjaaGreat.hp
namespace Go.Proofs.YtbpgkkoeehopjaaGreat.ty
open Go.RowKit Go.Proofs.YtbpgkkoeehopjaaGreat.lex Go.Proofs.YtbpgkkoeehopjaaGreat.gram Go.Proofs.YtbpgkkoeehopjaaGreat.dat Go.Proofs.YtbpgkkoeehopjaaGreat.hp
abbrev namesD (l : List DefD) : List Txt := l.map (·.name)
def addD (l : List DefD) (d : DefD) : List DefD := if d.name ∈ namesD l then l else l ++ [d]
abbrev IsTy (d : DefD) : Prop := 2 ≤ d.kind ∧ d.kind ≤ 7 ∧ d.ext = false
def step1 (p : List DefD × List DefD) (d : DefD) : List DefD × List DefD :=
 if d.kind = 8 then (p.1, if d.name ∈ namesD givenDirsD then p.2 else addD p.2 d)
 else if IsTy d then (if d.name ∈ namesD givenT then p.1 else addD p.1 d, p.2) else p
def numOf (l : List DefD) (x : Txt) : Option Nat := (namesD l).findIdx? (· == x)
def step2 (l : List DefD) (d : DefD) : List DefD :=
 match numOf l d.name with
 | none => l
 | some i => match l[i]? with
  | none => l
  | some e => if d.ext = true ∧ d.kind = e.kind ∧ d.kind ≠ 1 ∧ d.name ∉ namesD givenT then l.set i (mergeD e d) else l
def bare (defs : List DefD) : List DefD × List DefD := defs.foldl step1 ([], [])
def types1 (defs : List DefD) : List DefD := givenT.foldl addD (bare defs).1
def dirsOf (defs : List DefD) : List DefD := givenDirsD.foldl addD (bare defs).2
def typesOf (defs : List DefD) : List DefD := defs.foldl step2 (types1 defs)
def kindOf (l : List DefD) (x : Txt) : Int := (((numOf l x).bind fun i => l[i]?).map (·.kind)).getD 0
def zeroSchema : DefD := { kind := 1, ext := false, note := noteZ, name := [], ifaces := [], dirs := [], fields := [], inputs := [], members := [], values := [], roots := [], rep := false, places := [], line := 0, col := 0 }
def queryT : Txt := [81, 117, 101, 114, 121]
def mutationT : Txt := [77, 117, 116, 97, 116, 105, 111, 110]
def subscriptionT : Txt := [83, 117, 98, 115, 99, 114, 105, 112, 116, 105, 111, 110]
def rootN : List Txt := [queryT, mutationT, subscriptionT]
def rootsOf (ts : List DefD) : List RootD := (rootN.zipIdx.filter fun p => kindOf ts p.1 == 3).map fun p => ⟨1 + (p.2 : Int), p.1, 0, 0⟩
def isSchema (d : DefD) : Bool := d.kind == 1 && !d.ext
def schStep (s d : DefD) : DefD := if d.kind = 1 ∧ d.ext = true then { s with dirs := s.dirs ++ d.dirs, roots := s.roots ++ d.roots } else s
def schemaOf (defs ts : List DefD) : DefD :=
 match defs.find? isSchema with
 | none => { zeroSchema with roots := rootsOf ts }
 | some d => defs.foldl schStep d
abbrev FMap := List ((Txt × Txt) × Value)
def addF (m : FMap) (t f : Txt) (k : Nat) : FMap := if (kfind m (t, f)).isSome then m else m ++ [((t, f), .int .i64 (k : Int))]
def addFs (m : FMap) (d : DefD) : FMap := d.fields.zipIdx.foldl (fun m p => addF m d.name p.1.name p.2) m
def fieldsOf (ts : List DefD) : FMap := ts.foldl addFs []
abbrev OMap := List (Txt × List (Txt × Value))
def setAdd (s : List (Txt × Value)) (x : Txt) (n : Nat) : List (Txt × Value) := if (kfind s x).isSome then s else s ++ [(x, .int .i64 (n : Int))]
def addO : OMap → Txt → Txt → Nat → OMap
 | [], t, x, n => [(t, [(x, .int .i64 (n : Int))])]
 | p :: r, t, x, n => if p.1 = t then (t, setAdd p.2 x n) :: r else p :: addO r t x n
def objStep (ts : List DefD) (m : OMap) (p : DefD × Nat) : OMap :=
 if p.1.kind = 3 then p.1.ifaces.foldl (fun m n => if kindOf ts n.name = 4 then addO m n.name p.1.name p.2 else m) (addO m p.1.name p.1.name p.2)
 else if p.1.kind = 5 then p.1.members.zipIdx.foldl (fun m q => if kindOf ts q.1.name = 3 then addO m p.1.name q.1.name q.2 else m) m
 else m
def objectsOf (ts : List DefD) : OMap := ts.zipIdx.foldl (objStep ts) []
theorem namesD_set {l : List DefD} {i : Nat} {e e' : DefD} (h : l[i]? = some e) (hn : e'.name = e.name) : namesD (l.set i e') = namesD l := by
 apply List.ext_getElem?
 intro j
 simp only [namesD, List.getElem?_map, List.getElem?_set]
 by_cases hj : i = j
 · subst hj
   have hlt := (List.getElem?_eq_some_iff.1 h).1
   rw [if_pos rfl, if_pos hlt, h]
   simp [hn]
 · rw [if_neg hj]
theorem addD_nodup {l : List DefD} {d : DefD} (h : (namesD l).Nodup) : (namesD (addD l d)).Nodup := by
 unfold addD
 split
 · exact h
 · rename_i hn
   simp only [namesD, List.map_append, List.map_cons, List.map_nil]
   rw [List.nodup_append]
   refine ⟨h, by simp, ?_⟩
   intro a ha b hb he
   simp only [List.mem_singleton] at hb
   subst hb he
   exact hn ha
theorem numOf_some {l : List DefD} {x : Txt} {i : Nat} (h : numOf l x = some i) : ∃ d, l[i]? = some d ∧ d.name = x := by
 unfold numOf at h
 rw [List.findIdx?_eq_some_iff_getElem] at h
 obtain ⟨hi, h1, _⟩ := h
 have hi' : i < l.length := by simpa using hi
 exact ⟨l[i], List.getElem?_eq_getElem hi', by simpa using h1⟩
theorem numOf_none {l : List DefD} {x : Txt} (h : numOf l x = none) : x ∉ namesD l := by
 unfold numOf at h
 rw [List.findIdx?_eq_none_iff] at h
 intro hx
 have := h x hx
 simp at this
theorem step2_names {l : List DefD} {d : DefD} : namesD (step2 l d) = namesD l := by
 unfold step2
 split
 · rfl
 · split
   · rfl
   · split
     · rename_i he _
       exact namesD_set he rfl
     · rfl
theorem sum_set {α : Type} {f : α → Nat} : ∀ {l : List α} {i : Nat} {e : α} (e' : α), l[i]? = some e → sumN f (l.set i e') + f e = sumN f l + f e'
 | [], i, e, e', h => by simp at h
 | x :: r, 0, e, e', h => by simp only [List.getElem?_cons_zero] at h; injection h with h; subst h; simp only [List.set_cons_zero, sumN]; omega
 | x :: r, i + 1, e, e', h => by simp only [List.getElem?_cons_succ] at h; have := sum_set (f := f) e' h; simp only [List.set_cons_succ, sumN]; omega
theorem sum_take {α : Type} {f : α → Nat} (l : List α) (k : Nat) : sumN f (l.take k) ≤ sumN f l := by
 have := sum_app (f := f) (l.take k) (l.drop k)
 rw [List.take_append_drop] at this
 omega
theorem mergeD_N (e d : DefD) : defN (mergeD e d) ≤ defN e + defN d := by
 simp only [defN, mergeD, sum_app, List.length_append]; omega
theorem addD_N (l : List DefD) (d : DefD) : defsN (addD l d) ≤ defsN l + defN d := by
 unfold addD
 split
 · omega
 · unfold defsN; rw [sum_app]; simp only [sumN]; omega
theorem step2_N (l : List DefD) (d : DefD) : defsN (step2 l d) ≤ defsN l + defN d := by
 unfold step2
 split
 · omega
 · split
   · omega
   · split
     · rename_i e he _
       have h1 := sum_set (f := defN) (mergeD e d) he
       have h2 := mergeD_N e d
       unfold defsN
       omega
     · omega
theorem foldl_N {f : List DefD → DefD → List DefD} (h : ∀ l d, defsN (f l d) ≤ defsN l + defN d) : ∀ (l s : List DefD), defsN (l.foldl f s) ≤ defsN s + defsN l
 | [], s => by simp [defsN, sumN]
 | d :: r, s => by
  have h1 := foldl_N h r (f s d)
  have h2 := h s d
  simp only [List.foldl_cons, defsN, sumN] at h1 h2 ⊢
  omega
theorem bare_N : ∀ (l : List DefD) (p : List DefD × List DefD), defsN (l.foldl step1 p).1 ≤ defsN p.1 + defsN l ∧ defsN (l.foldl step1 p).2 ≤ defsN p.2 + defsN l
 | [], p => by simp [defsN, sumN]
 | d :: r, p => by
  have h1 := bare_N r (step1 p d)
  have h2 : defsN (step1 p d).1 ≤ defsN p.1 + defN d ∧ defsN (step1 p d).2 ≤ defsN p.2 + defN d := by
   have a1 := addD_N p.1 d
   have a2 := addD_N p.2 d
   unfold step1
   split
   · dsimp only; split <;> omega
   · split
     · dsimp only; split <;> omega
     · omega
  simp only [List.foldl_cons, defsN, sumN] at h1 h2 ⊢
  omega
theorem foldl_keep {α β : Type} {Q : β → Prop} {f : β → α → β} (h : ∀ b a, Q b → Q (f b a)) : ∀ (l : List α) (b : β), Q b → Q (l.foldl f b)
 | [], b, hb => hb
 | a :: r, b, hb => foldl_keep h r (f b a) (h b a hb)
theorem bare_nodup (l : List DefD) : (namesD (bare l).1).Nodup ∧ (namesD (bare l).2).Nodup := by
 refine foldl_keep (Q := fun p : List DefD × List DefD => (namesD p.1).Nodup ∧ (namesD p.2).Nodup) ?_ l ([], []) ⟨List.nodup_nil, List.nodup_nil⟩
 intro p d h
 have a1 := addD_nodup (d := d) h.1
 have a2 := addD_nodup (d := d) h.2
 unfold step1
 split
 · dsimp only; split
   · exact h
   · exact ⟨h.1, a2⟩
 · split
   · dsimp only; split
     · exact h
     · exact ⟨a1, h.2⟩
   · exact h
theorem types1_nodup (l : List DefD) : (namesD (types1 l)).Nodup := foldl_keep (Q := fun p : List DefD => (namesD p).Nodup) (fun p d h => addD_nodup h) givenT _ (bare_nodup l).1
theorem dirs_nodup (l : List DefD) : (namesD (dirsOf l)).Nodup := foldl_keep (Q := fun p : List DefD => (namesD p).Nodup) (fun p d h => addD_nodup h) givenDirsD _ (bare_nodup l).2
theorem fold2_names : ∀ (l s : List DefD), namesD (l.foldl step2 s) = namesD s
 | [], s => rfl
 | d :: r, s => by rw [List.foldl_cons, fold2_names r, step2_names]
theorem types_names (l : List DefD) : namesD (typesOf l) = namesD (types1 l) := fold2_names l _
theorem types_nodup (l : List DefD) : (namesD (typesOf l)).Nodup := by rw [types_names]; exact types1_nodup l
theorem types_N (l : List DefD) : defsN (typesOf l) ≤ 2 * defsN l + defsN givenT := by
 have h1 := foldl_N step2_N l (types1 l)
 have h2 := foldl_N addD_N givenT (bare l).1
 have h3 := (bare_N l ([], [])).1
 simp only [typesOf, types1, bare, defsN, sumN] at h1 h2 h3 ⊢
 omega
theorem dirs_N (l : List DefD) : defsN (dirsOf l) ≤ defsN l + defsN givenDirsD := by
 have h2 := foldl_N addD_N givenDirsD (bare l).2
 have h3 := (bare_N l ([], [])).2
 simp only [dirsOf, bare, defsN, sumN] at h2 h3 ⊢
 omega
theorem schStep_N (s d : DefD) : defN (schStep s d) ≤ defN s + defN d := by
 unfold schStep
 split
 · simp only [defN, sum_app, List.length_append]; omega
 · omega
theorem fold_schN : ∀ (l : List DefD) (s : DefD), defN (l.foldl schStep s) ≤ defN s + defsN l
 | [], s => by simp [defsN, sumN]
 | d :: r, s => by
  have h1 := fold_schN r (schStep s d)
  have h2 := schStep_N s d
  simp only [List.foldl_cons, defsN, sumN] at h1 ⊢
  omega
end Go.Proofs.YtbpgkkoeehopjaaGreat.ty
namespace Go.Proofs.YtbpgkkoeehopjaaGreat.hp
open Go.RowKit Go.Proofs.YtbpgkkoeehopjaaGreat.words Go.Proofs.YtbpgkkoeehopjaaGreat.enc Go.Proofs.YtbpgkkoeehopjaaGreat.tree Go.Proofs.YtbpgkkoeehopjaaGreat.gram Go.Proofs.YtbpgkkoeehopjaaGreat.lex Go.Proofs.YtbpgkkoeehopjaaGreat.rd Go.Proofs.YtbpgkkoeehopjaaGreat.dec Go.Proofs.YtbpgkkoeehopjaaGreat.dat Go.Proofs.YtbpgkkoeehopjaaGreat.held Go.Proofs.YtbpgkkoeehopjaaGreat.ty
section
variable {w0 w w' K K' : World} {M : List Ent}
theorem Hp.rotAt (C A B : List Ent) (H : Hp w0 w K (C ++ (A ++ (B ++ M)))) : Hp w0 w K (C ++ (B ++ (A ++ M))) :=
 H.perm (List.Perm.append_left C (by rw [← List.append_assoc, ← List.append_assoc]; exact (List.perm_append_comm).append_right M))
def Bst (g ga gd gf go : Nat) (ts ds : List DefD) (w0 w K : World) (M : List Ent) : Prop :=
 ∃ TS VT VD xD, ts = TS.map (·.1) ∧ tok K TS ∧ RL K (defsL ds) xD ∧
  Hp w0 w K (tbox g ga gd gf go VT VD :: .map ga (sents (nmap (namesD ts))) :: .row 43 17 VT ts.length (tcells TS) :: .map gd (sents (nmap (namesD ds))) :: .row 43 17 VD ds.length xD :: (trows TS ++ M))
theorem defsL_snoc {l : List DefD} {d : DefD} {xs ys : List Value} (h : RL K (defsL l) xs) (h' : RL K (defL d) ys) : RL K (defsL (l ++ [d])) (xs ++ ys) := by
 have : defsL (l ++ [d]) = defsL l ++ defL d := by simp [defsL]
 rw [this]
 exact h.app h'
theorem addType_bst (d : DefD) (cs : Array Value) (g ga gd gf go : Nat) (ts ds : List DefD) (H : Bst g ga gd gf go ts ds w0 w K M) (hd : RL K (defL d) cs.toList) (hm : defN d ≤ 9000000) (hk : ts.length ≤ 9000000) :
  Calls Tryz.prog 59 #[.pointer (some ⟨g, 0, none⟩), .agg cs] w fun e w' => ∃ K', e = .returned (.tuple #[]) ∧ Sat K' K ∧ Bst g ga gd gf go (addD ts d) ds w0 w' K' M := by
 obtain ⟨TS, VT, VD, xD, hts, hok, hxD, H⟩ := H
 have hlen : (namesD ts).length = ts.length := List.length_map ..
 by_cases hin : d.name ∈ namesD ts
 · refine (addType_old d cs (namesD ts) g ga gd gf go VT VD w0 w K _ H hd hin).mono ?_
   rintro e w' ⟨rfl, H⟩
   have hadd : addD ts d = ts := if_pos hin
   rw [hadd]
   exact ⟨K, rfl, Sat.refl K, TS, VT, VD, xD, hts, hok, hxD, H⟩
 · have H1 : Hp w0 w K (tbox g ga gd gf go VT VD :: .map ga (sents (nmap (namesD ts))) :: .row 43 17 VT (namesD ts).length (tcells TS) :: (.map gd (sents (nmap (namesD ds))) :: .row 43 17 VD ds.length xD :: (trows TS ++ M))) := by rw [hlen]; exact H
   refine (addType_new d cs (namesD ts) g ga gd gf go VT VD (tcells TS) w0 w K _ H1 hd hin hm (by omega)).mono ?_
   rintro e w' ⟨K', V, VT', rfl, hle, H2, hV⟩
   have hadd : addD ts d = ts ++ [d] := if_neg hin
   rw [hadd]
   refine ⟨K', rfl, hle, TS ++ [(d, V)], VT', VD, xD, by rw [List.map_append, ← hts]; rfl, ?_, hxD.sat hle, ?_⟩
   · intro p hp
     rcases List.mem_append.1 hp with hp | hp
     · exact (hok p hp).sat hle
     · obtain rfl := List.mem_singleton.1 hp
       exact hV
   · have H3 := Hp.rotAt [tbox g ga gd gf go VT' VD, .map ga (sents (nmap (namesD ts ++ [d.name]))), .row 43 17 VT' ((namesD ts).length + 1) (tcells TS ++ DV.cells d V)] (DV.rows d V) (.map gd (sents (nmap (namesD ds))) :: .row 43 17 VD ds.length xD :: trows TS) (M := M) H2
     have e1 : tcells (TS ++ [(d, V)]) = tcells TS ++ DV.cells d V := by rw [tcells_app]; simp [tcells]
     have e2 : trows (TS ++ [(d, V)]) = trows TS ++ DV.rows d V := by rw [trows_app]; simp [trows]
     have e3 : namesD (ts ++ [d]) = namesD ts ++ [d.name] := by simp [namesD]
     have e4 : (ts ++ [d]).length = (namesD ts).length + 1 := by rw [hlen]; simp
     rw [e1, e2, e3, e4, List.append_assoc]
     exact H3
theorem addDir_bst (d : DefD) (cs : Array Value) (g ga gd gf go : Nat) (ts ds : List DefD) (H : Bst g ga gd gf go ts ds w0 w K M) (hd : RL K (defL d) cs.toList) (hm : defN d ≤ 9000000) (hk : ds.length ≤ 9000000) :
  Calls Tryz.prog 58 #[.pointer (some ⟨g, 0, none⟩), .agg cs] w fun e w' => ∃ K', e = .returned (.tuple #[]) ∧ Sat K' K ∧ Bst g ga gd gf go ts (addD ds d) w0 w' K' M := by
 obtain ⟨TS, VT, VD, xD, hts, hok, hxD, H⟩ := H
 have hlen : (namesD ds).length = ds.length := List.length_map ..
 have H1 : Hp w0 w K (tbox g ga gd gf go VT VD :: .map gd (sents (nmap (namesD ds))) :: .row 43 17 VD (namesD ds).length xD :: (.map ga (sents (nmap (namesD ts))) :: .row 43 17 VT ts.length (tcells TS) :: (trows TS ++ M))) := by
  rw [hlen]
  exact Hp.rotAt [tbox g ga gd gf go VT VD] [.map ga (sents (nmap (namesD ts))), .row 43 17 VT ts.length (tcells TS)] [.map gd (sents (nmap (namesD ds))), .row 43 17 VD ds.length xD] (M := trows TS ++ M) H
 by_cases hin : d.name ∈ namesD ds
 · refine (addDir_old d cs (namesD ds) g ga gd gf go VT VD w0 w K _ H1 hd hin).mono ?_
   rintro e w' ⟨rfl, H⟩
   have hadd : addD ds d = ds := if_pos hin
   rw [hadd]
   refine ⟨K, rfl, Sat.refl K, TS, VT, VD, xD, hts, hok, hxD, ?_⟩
   rw [hlen] at H
   exact Hp.rotAt [tbox g ga gd gf go VT VD] [.map gd (sents (nmap (namesD ds))), .row 43 17 VD ds.length xD] [.map ga (sents (nmap (namesD ts))), .row 43 17 VT ts.length (tcells TS)] (M := trows TS ++ M) H
 · refine (addDir_new d cs (namesD ds) g ga gd gf go VT VD xD w0 w K _ H1 hd hin hm (by omega)).mono ?_
   rintro e w' ⟨K', xs, VD', rfl, hle, H2, hxs⟩
   have hadd : addD ds d = ds ++ [d] := if_neg hin
   rw [hadd]
   refine ⟨K', rfl, hle, TS, VT, VD', xD ++ xs, hts, hok.sat hle, defsL_snoc (hxD.sat hle) hxs, ?_⟩
   have e3 : namesD (ds ++ [d]) = namesD ds ++ [d.name] := by simp [namesD]
   have e4 : (ds ++ [d]).length = (namesD ds).length + 1 := by rw [hlen]; simp
   rw [e3, e4]
   exact Hp.rotAt [tbox g ga gd gf go VT VD'] [.map gd (sents (nmap (namesD ds ++ [d.name]))), .row 43 17 VD' ((namesD ds).length + 1) (xD ++ xs)] [.map ga (sents (nmap (namesD ts))), .row 43 17 VT ts.length (tcells TS)] (M := trows TS ++ M) H2
end
def orows (OB : List (Txt × Nat × List (Txt × Value))) : List Ent := OB.map fun p => .map p.2.1 (sents p.2.2)
def ovals (OB : List (Txt × Nat × List (Txt × Value))) : List (Txt × Value) := OB.map fun p => (p.1, .map (some p.2.1))
def omap (OB : List (Txt × Nat × List (Txt × Value))) : OMap := OB.map fun p => (p.1, p.2.2)
def Ost (go : Nat) (om : OMap) (w0 w K : World) (M : List Ent) : Prop := ∃ OB, om = omap OB ∧ Hp w0 w K (.map go (sents (ovals OB)) :: (orows OB ++ M))
theorem ovals_find (x : Txt) : ∀ OB : List (Txt × Nat × List (Txt × Value)), (kfind (ovals OB) x = none ∧ ∀ n m, addO (omap OB) x n m = omap OB ++ [(x, [(n, .int .i64 (m : Int))])]) ∨ ∃ A b s B, OB = A ++ (x, b, s) :: B ∧ kfind (ovals OB) x = some (.map (some b)) ∧ ∀ n m, addO (omap OB) x n m = omap A ++ (x, setAdd s n m) :: omap B
 | [] => .inl ⟨rfl, fun _ _ => rfl⟩
 | p :: r => by
  by_cases h : p.1 = x
  · obtain ⟨a, b, s⟩ := p
    simp only at h
    subst h
    exact .inr ⟨[], b, s, r, rfl, by simp [kfind, ovals], fun n m => by simp [addO, omap]⟩
  · have hk : kfind (ovals (p :: r)) x = kfind (ovals r) x := by simp [kfind, ovals, h]
    have ha : ∀ n m, addO (omap (p :: r)) x n m = (p.1, p.2.2) :: addO (omap r) x n m := fun n m => by simp [addO, omap, h]
    rcases ovals_find x r with ⟨h1, h2⟩ | ⟨A, b, s, B, rfl, h1, h2⟩
    · exact .inl ⟨hk.trans h1, fun n m => by rw [ha, h2]; simp [omap]⟩
    · exact .inr ⟨p :: A, b, s, B, rfl, hk.trans h1, fun n m => by rw [ha, h2]; simp [omap]⟩
structure TysD where
 schema : DefD
 types : List DefD
 dirs : List DefD
 fields : FMap
 objects : OMap
def buildD (defs : List DefD) : TysD := ⟨schemaOf defs (typesOf defs), typesOf defs, dirsOf defs, fieldsOf (typesOf defs), objectsOf (typesOf defs)⟩
structure TyA (K : World) (g ga gd gf go : Nat) (sch : List Value) (VT VD : Value) (s : DefD) (ts ds : List DefD) : Prop where
 box : Kb K g (sch ++ [VT, .map (some ga), VD, .map (some gd), .map (some gf), .map (some go)]) 91
 sch : RL K (defL s) sch
 types : RD K (.list ts.length (defsL ts)) VT
 dirs : RD K (.list ds.length (defsL ds)) VD
 at_ : Km K ga (kents ks (nmap (namesD ts)))
 dirAt : Km K gd (kents ks (nmap (namesD ds)))
theorem ty_c {sch : List Value} (h : sch.length = 17) (l : List Value) (k : Nat) : (sch ++ l)[17 + k]? = l[k]? := by
 rw [List.getElem?_append_right (by omega), h]; congr 1; omega
section
variable {K K' : World} {g ga gd gf go : Nat} {sch : List Value} {VT VD : Value} {s : DefD} {ts ds : List DefD}
theorem TyA.len (h : TyA K g ga gd gf go sch VT VD s ts ds) : sch.length = 17 := h.sch.len
theorem TyA.c17 (h : TyA K g ga gd gf go sch VT VD s ts ds) : (sch ++ [VT, .map (some ga), VD, .map (some gd), .map (some gf), .map (some go)])[17]? = some VT := ty_c h.len _ 0
theorem TyA.c18 (h : TyA K g ga gd gf go sch VT VD s ts ds) : (sch ++ [VT, .map (some ga), VD, .map (some gd), .map (some gf), .map (some go)])[18]? = some (.map (some ga)) := ty_c h.len _ 1
theorem TyA.c21 (h : TyA K g ga gd gf go sch VT VD s ts ds) : (sch ++ [VT, .map (some ga), VD, .map (some gd), .map (some gf), .map (some go)])[21]? = some (.map (some gf)) := ty_c h.len _ 4
theorem TyA.c22 (h : TyA K g ga gd gf go sch VT VD s ts ds) : (sch ++ [VT, .map (some ga), VD, .map (some gd), .map (some gf), .map (some go)])[22]? = some (.map (some go)) := ty_c h.len _ 5
theorem TyA.sat (h : TyA K g ga gd gf go sch VT VD s ts ds) (hs : Sat K' K) : TyA K' g ga gd gf go sch VT VD s ts ds :=
 ⟨h.box.sat hs, h.sch.sat hs, h.types.sat hs, h.dirs.sat hs, h.at_.sat hs, h.dirAt.sat hs⟩
end
structure Tys (K : World) (g : Nat) (D : TysD) (ga gd gf go : Nat) (sch : List Value) (VT VD : Value) (OB : List (Txt × Nat × List (Txt × Value))) : Prop where
 a : TyA K g ga gd gf go sch VT VD D.schema D.types D.dirs
 fields : Km K gf (kents kp D.fields)
 objects : Km K go (kents ks (ovals OB))
 om : D.objects = omap OB
 sets : ∀ p ∈ OB, Km K p.2.1 (kents ks p.2.2)
def TysK (K : World) (g : Nat) (D : TysD) : Prop := ∃ ga gd gf go sch VT VD OB, Tys K g D ga gd gf go sch VT VD OB
section
variable {K K' : World} {g : Nat} {D : TysD}
theorem Tys.sat {ga gd gf go : Nat} {sch : List Value} {VT VD : Value} {OB : List (Txt × Nat × List (Txt × Value))} (h : Tys K g D ga gd gf go sch VT VD OB) (hs : Sat K' K) : Tys K' g D ga gd gf go sch VT VD OB :=
 ⟨h.a.sat hs, h.fields.sat hs, h.objects.sat hs, h.om, fun p hp => (h.sets p hp).sat hs⟩
theorem TysK.sat (h : TysK K g D) (hs : Sat K' K) : TysK K' g D := by
 obtain ⟨ga, gd, gf, go, sch, VT, VD, OB, h⟩ := h
 exact ⟨ga, gd, gf, go, sch, VT, VD, OB, h.sat hs⟩
end
end Go.Proofs.YtbpgkkoeehopjaaGreat.hp
namespace Go.Proofs.YtbpgkkoeehopjaaGreat.ty
open Go.RowKit Go.Proofs.YtbpgkkoeehopjaaGreat.lex Go.Proofs.YtbpgkkoeehopjaaGreat.gram Go.Proofs.YtbpgkkoeehopjaaGreat.dat Go.Proofs.YtbpgkkoeehopjaaGreat.hp
theorem foldl_mem {α β : Type} {Q : β → Prop} {f : β → α → β} : ∀ (l : List α) (b : β), (∀ b a, a ∈ l → Q b → Q (f b a)) → Q b → Q (l.foldl f b)
 | [], b, _, hb => hb
 | a :: r, b, h, hb => foldl_mem r (f b a) (fun b' a' ha => h b' a' (List.mem_cons_of_mem _ ha)) (h b a (List.mem_cons_self ..) hb)
theorem zipIdx_mem {α : Type} {l : List α} {p : α × Nat} (h : p ∈ l.zipIdx) : l[p.2]? = some p.1 := by
 rw [List.mem_zipIdx_iff_getElem?] at h
 exact h
def FOk (ts : List DefD) (m : FMap) : Prop := ∀ p ∈ m, ∃ (i : Nat) (d : DefD) (k : Nat) (f : FieldD), ts[i]? = some d ∧ d.name = p.1.1 ∧ d.fields[k]? = some f ∧ f.name = p.1.2 ∧ p.2 = .int .i64 ((k : Nat) : Int)
theorem addF_ok {ts : List DefD} {m : FMap} {i k : Nat} {d : DefD} {f : FieldD} (h : FOk ts m) (hd : ts[i]? = some d) (hf : d.fields[k]? = some f) : FOk ts (addF m d.name f.name k) := by
 unfold addF
 split
 · exact h
 · intro p hp
   rcases List.mem_append.1 hp with hp | hp
   · exact h p hp
   · obtain rfl := List.mem_singleton.1 hp
     exact ⟨i, d, k, f, hd, rfl, hf, rfl, rfl⟩
theorem fieldsOf_ok (ts : List DefD) : FOk ts (fieldsOf ts) := by
 refine foldl_mem (Q := FOk ts) ts [] ?_ (fun _ h => by cases h)
 intro m d hd h
 obtain ⟨i, hi⟩ := List.mem_iff_getElem?.1 hd
 refine foldl_mem (Q := FOk ts) d.fields.zipIdx m ?_ h
 intro m p hp h
 exact addF_ok h hi (zipIdx_mem hp)
theorem numOf_at {ts : List DefD} {i : Nat} {d : DefD} (hn : (namesD ts).Nodup) (h : ts[i]? = some d) : numOf ts d.name = some i := by
 unfold numOf
 have hi : i < (namesD ts).length := by have := (List.getElem?_eq_some_iff.1 h).1; simpa using this
 have hx : (namesD ts)[i] = d.name := by
  have h2 : (namesD ts)[i]? = some d.name := by simp [namesD, h]
  rw [List.getElem?_eq_getElem hi] at h2
  injection h2
 rw [List.findIdx?_eq_some_iff_getElem]
 refine ⟨hi, by simp [hx], ?_⟩
 intro j hj
 have hne : (namesD ts)[j] ≠ (namesD ts)[i] := List.pairwise_iff_getElem.1 hn j i (by omega) hi hj
 rw [hx] at hne
 simpa using hne
theorem kindOf_at {ts : List DefD} {i : Nat} {d : DefD} (hn : (namesD ts).Nodup) (h : ts[i]? = some d) : kindOf ts d.name = d.kind := by
 simp [kindOf, numOf_at hn h, h]
theorem kindOf_some {ts : List DefD} {i : Nat} {x : Txt} {d : DefD} (h : numOf ts x = some i) (hd : ts[i]? = some d) : kindOf ts x = d.kind := by
 simp [kindOf, h, hd]
theorem kindOf_none {ts : List DefD} {x : Txt} (h : numOf ts x = none) : kindOf ts x = 0 := by
 simp [kindOf, h]
def nmAt (ts : List DefD) (t : Txt) (n : Nat) : Option Txt :=
 if kindOf ts t = 5 then (((numOf ts t).bind fun i => ts[i]?).bind fun d => d.members[n]?).map (·.name) else (ts[n]?).map (·.name)
def SOk (f : Nat → Option Txt) (s : List (Txt × Value)) : Prop := (s.map (·.1)).Nodup ∧ ∀ q ∈ s, ∃ n : Nat, q.2 = .int .i64 (n : Int) ∧ f n = some q.1
def OOk (ts : List DefD) (om : OMap) : Prop := ∀ p ∈ om, SOk (nmAt ts p.1) p.2
theorem setAdd_ok {f : Nat → Option Txt} {s : List (Txt × Value)} {x : Txt} {n : Nat} (h : SOk f s) (hx : f n = some x) : SOk f (setAdd s x n) := by
 unfold setAdd
 split
 · exact h
 · rename_i hs
   have hs : kfind s x = none := by simpa using hs
   refine ⟨?_, ?_⟩
   · rw [List.map_append, List.nodup_append]
     refine ⟨h.1, by simp, ?_⟩
     intro a ha b hb he
     simp only [List.map_cons, List.map_nil, List.mem_singleton] at hb
     subst hb he
     obtain ⟨p, hp, rfl⟩ := List.mem_map.1 ha
     exact kfind_none hs p hp rfl
   · intro q hq
     rcases List.mem_append.1 hq with hq | hq
     · exact h.2 q hq
     · obtain rfl := List.mem_singleton.1 hq
       exact ⟨n, rfl, hx⟩
theorem addO_ok {ts : List DefD} : ∀ {om : OMap} {t x : Txt} {n : Nat}, OOk ts om → nmAt ts t n = some x → OOk ts (addO om t x n)
 | [], t, x, n, _, hx => by
  intro p hp
  obtain rfl := List.mem_singleton.1 hp
  exact ⟨by simp, fun q hq => by obtain rfl := List.mem_singleton.1 hq; exact ⟨n, rfl, hx⟩⟩
 | p :: r, t, x, n, h, hx => by
  unfold addO
  split
  · rename_i hp
    intro q hq
    rcases List.mem_cons.1 hq with rfl | hq
    · have := h p (List.mem_cons_self ..)
      rw [hp] at this
      exact setAdd_ok this hx
    · exact h q (List.mem_cons_of_mem _ hq)
  · intro q hq
    rcases List.mem_cons.1 hq with rfl | hq
    · exact h _ (List.mem_cons_self ..)
    · exact addO_ok (fun a ha => h a (List.mem_cons_of_mem _ ha)) hx q hq
theorem objectsOf_ok {ts : List DefD} (hn : (namesD ts).Nodup) : OOk ts (objectsOf ts) := by
 refine foldl_mem (Q := OOk ts) ts.zipIdx [] ?_ (fun _ h => by cases h)
 rintro m ⟨d, i⟩ hd h
 have hd : ts[i]? = some d := zipIdx_mem hd
 have hk := kindOf_at hn hd
 have hi : ∀ t, kindOf ts t ≠ 5 → nmAt ts t i = some d.name := fun t ht => by simp [nmAt, ht, hd]
 unfold objStep
 dsimp only
 split
 · rename_i h3
   refine foldl_mem (Q := OOk ts) d.ifaces _ ?_ (addO_ok h (hi _ (by omega)))
   intro m n _ hm
   split
   · exact addO_ok hm (hi _ (by omega))
   · exact hm
 · split
   · rename_i h5
     refine foldl_mem (Q := OOk ts) d.members.zipIdx m ?_ h
     rintro m ⟨n, k⟩ hnk hm
     have hnk : d.members[k]? = some n := zipIdx_mem hnk
     dsimp only
     split
     · refine addO_ok hm ?_
       simp [nmAt, hk, h5, numOf_at hn hd, hd, hnk]
     · exact hm
   · exact h
def setOf (om : OMap) (t : Txt) : List (Txt × Value) := ((om.find? (fun p => decide (p.1 = t))).map (·.2)).getD []
theorem setOf_ok {ts : List DefD} {om : OMap} (h : OOk ts om) (t : Txt) : SOk (nmAt ts t) (setOf om t) := by
 unfold setOf
 cases hq : om.find? (fun p => decide (p.1 = t)) with
 | none => exact ⟨List.nodup_nil, fun _ h => by cases h⟩
 | some p =>
  have h1 := List.find?_some hq
  have h1 : p.1 = t := of_decide_eq_true h1
  have := h p (List.mem_of_find?_eq_some hq)
  rw [h1] at this
  exact this
theorem nmAt_lt {ts : List DefD} {t x : Txt} {n : Nat} (h : nmAt ts t n = some x) : n < ts.length ∨ ∃ d ∈ ts, n < d.members.length := by
 unfold nmAt at h
 split at h
 · right
   cases hi : numOf ts t with
   | none => simp [hi] at h
   | some i =>
    cases hd : ts[i]? with
    | none => simp [hi, hd] at h
    | some d =>
     refine ⟨d, List.mem_of_getElem? hd, ?_⟩
     rcases Nat.lt_or_ge n d.members.length with hl | hl
     · exact hl
     · simp [hi, hd, List.getElem?_eq_none hl] at h
 · left
   rcases Nat.lt_or_ge n ts.length with hl | hl
   · exact hl
   · simp [List.getElem?_eq_none hl] at h
def numAt (s : List (Txt × Value)) (x : Txt) : Int := match kfind s x with | some (.int .i64 n) => n | _ => 0
theorem sok_find {f : Nat → Option Txt} {s : List (Txt × Value)} (h : SOk f s) (x : Txt) : (kfind s x = none ∧ ∀ p ∈ s, p.1 ≠ x) ∨ ∃ n : Nat, kfind s x = some (.int .i64 (n : Int)) ∧ f n = some x ∧ (x, .int .i64 (n : Int)) ∈ s := by
 cases hq : kfind s x with
 | none => exact .inl ⟨rfl, kfind_none hq⟩
 | some v =>
  have hm := kfind_mem hq
  obtain ⟨n, h1, h2⟩ := h.2 _ hm
  simp only at h1 h2
  subst h1
  exact .inr ⟨n, rfl, h2, hm⟩
theorem numAt_val {f : Nat → Option Txt} {s : List (Txt × Value)} (h : SOk f s) (x : Txt) : (kfind s x).getD (.int .i64 0) = .int .i64 (numAt s x) := by
 unfold numAt
 rcases sok_find h x with ⟨h1, _⟩ | ⟨n, h1, _⟩ <;> rw [h1] <;> rfl
theorem zip_next {α : Type} {l : List α} {k : Nat} {x : α} (hx : l[k]? = some x) : (l.take (k + 1)).zipIdx = (l.take k).zipIdx ++ [(x, k)] := by
 have hk := (List.getElem?_eq_some_iff.1 hx).1
 have h1 : l.take (k + 1) = l.take k ++ [x] := by rw [List.take_add_one, hx]; rfl
 have h2 : (l.take k).length = k := by rw [List.length_take]; omega
 rw [h1, List.zipIdx_append, h2]
 simp
theorem fold_next {α β : Type} {l : List α} {k : Nat} {x : α} (hx : l[k]? = some x) (f : β → α → β) (b : β) : (l.take (k + 1)).foldl f b = f ((l.take k).foldl f b) x := by
 have h1 : l.take (k + 1) = l.take k ++ [x] := by rw [List.take_add_one, hx]; rfl
 rw [h1, List.foldl_append]; rfl
theorem fold_zip_next {α β : Type} {l : List α} {k : Nat} {x : α} (hx : l[k]? = some x) (f : β → α × Nat → β) (b : β) : (l.take (k + 1)).zipIdx.foldl f b = f ((l.take k).zipIdx.foldl f b) (x, k) := by
 rw [zip_next hx, List.foldl_append]; rfl
theorem defN_at {ts : List DefD} {i : Nat} {d : DefD} (h : ts[i]? = some d) : defN d ≤ defsN ts := by
 have h1 : ts = ts.take i ++ d :: ts.drop (i + 1) := by
  obtain ⟨hi, rfl⟩ := List.getElem?_eq_some_iff.1 h
  simp
 rw [h1]
 unfold defsN
 rw [sum_app]
 simp only [sumN]
 omega
theorem members_le (d : DefD) : d.members.length ≤ defN d := by unfold defN; omega
theorem ifaces_le (d : DefD) : d.ifaces.length ≤ defN d := by unfold defN; omega
theorem fields_le (d : DefD) : d.fields.length ≤ defN d := by have := sum_len fieldN_pos d.fields; unfold defN; omega
theorem nmAt_le {ts : List DefD} {t x : Txt} {n : Nat} (h : nmAt ts t n = some x) : n < defsN ts := by
 have hl : ts.length ≤ defsN ts := sum_len defN_pos ts
 rcases nmAt_lt h with h | ⟨d, hd, h⟩
 · omega
 · obtain ⟨i, hi⟩ := List.mem_iff_getElem?.1 hd
   have := defN_at hi
   have := members_le d
   omega
end Go.Proofs.YtbpgkkoeehopjaaGreat.ty
namespace Go.Proofs.YtbpgkkoeehopjaaGreat.hp
open Go.RowKit Go.Proofs.YtbpgkkoeehopjaaGreat.words Go.Proofs.YtbpgkkoeehopjaaGreat.enc Go.Proofs.YtbpgkkoeehopjaaGreat.tree Go.Proofs.YtbpgkkoeehopjaaGreat.gram Go.Proofs.YtbpgkkoeehopjaaGreat.lex Go.Proofs.YtbpgkkoeehopjaaGreat.rd Go.Proofs.YtbpgkkoeehopjaaGreat.dec Go.Proofs.YtbpgkkoeehopjaaGreat.dat Go.Proofs.YtbpgkkoeehopjaaGreat.held Go.Proofs.YtbpgkkoeehopjaaGreat.ty
set_option maxRecDepth 100000
attribute [local go_sem ↓] Go.wp_at_zero Go.wp_at_succ
theorem kfind_s (l : List (Txt × Value)) (x : Txt) : kfind l x = sfind l x := by
 have e1 : (fun p : Txt × Value => p.1 == x) = fun p => decide (p.1 = x) := by funext p; rw [Bool.eq_iff_iff]; simp
 unfold kfind sfind
 rw [e1]
theorem nmap_kfind (ts : List DefD) (x : Txt) : kfind (nmap (namesD ts)) x = (numOf ts x).map fun i => .int .i64 ((i : Nat) : Int) := (kfind_s _ x).trans (nmap_find (namesD ts) x)
theorem numOf_lt {ts : List DefD} {x : Txt} {i : Nat} (h : numOf ts x = some i) : i < ts.length := by
 obtain ⟨d, hd, _⟩ := numOf_some h
 exact (List.getElem?_eq_some_iff.1 hd).1
section
variable {K : World} {g ga gd gf go : Nat} {sch : List Value} {VT VD : Value} {s : DefD} {ts ds : List DefD}
theorem slice_of {n : Nat} {l : List Leaf} {v : Value} (h : RD K (.list n l) v) : ∃ A c, v = .slice A n c ∧ n ≤ c ∧ c ≤ maxLen := by
 obtain ⟨A, c, vs, h1, h2, h3, _⟩ := reads_list h.reads
 exact ⟨A, c, h1, h2, h3⟩
theorem elem_k {α : Type} {f : α → List Leaf} {m n c k : Nat} {A : Option Addr} {l : List α} {x : α} (hf : ∀ x, (f x).length = m) (h : RD K (.list n (l.flatMap f)) (.slice A n c)) (hk : l[k]? = some x) (hm : 0 < m) :
  ∃ ad vs, A = some ad ∧ RL K (f x) vs ∧ vs.length = m ∧ At K (ad.add (k * m)) vs := by
 obtain ⟨ad, vs, h1, h2, h3, _, h5, h6⟩ := elem_at hf h hk hm
 exact ⟨ad, vs, h1, h2, h3, ⟨h5, h6⟩⟩
end
set_option maxHeartbeats 4000000 in
theorem kind_hp (x : Txt) (g ga gd gf go : Nat) (sch : List Value) (VT VD : Value) (s : DefD) (ts ds : List DefD) (w0 w K : World) (M : List Ent) (H : Hp w0 w K M) (T : TyA K g ga gd gf go sch VT VD s ts ds) :
  Calls Tryz.prog 79 #[.pointer (some ⟨g, 0, none⟩), .string (str x)] w fun e w' => e = .returned (.int .i64 (kindOf ts x)) ∧ Hp w0 w' K M := by
 have hq := nmap_kfind ts x
 have h18 := T.c18
 cases hi : numOf ts x with
 | none =>
  rw [hi] at hq
  have hk : kindOf ts x = 0 := kindOf_none hi
  go_enter Tryz.func79, Tryz.ntmps79
  have cf1 : (w).cell? ⟨g, 18, none⟩ = some (.map (some ga)) := H.kcell T.box h18
  go_upto_region 2 with (first
   | (refine lookup_k (by rfl) (.tmp 11) (.tmp 12) 87 true (by rfl) Tryz.underlying87 (keys_s Tryz.underlying9) (.int .i64 0) zero_int ga (nmap (namesD ts)) (H.kmap T.at_) (by first | rfl | simp [Act.eval, Act.put]) (x) (by first | rfl | simp [Act.eval, Act.put]) (.tuple #[.int .i64 0, .bool false]) (by rw [hq]; rfl) ?_))
  go_wp2_with fail
  go_ret
  exact ⟨by rw [hk]; rfl, H⟩
 | some i =>
  rw [hi] at hq
  obtain ⟨d, hd, -⟩ := numOf_some hi
  have hlt := numOf_lt hi
  have hk : kindOf ts x = d.kind := kindOf_some hi hd
  obtain ⟨A, c, rfl, hc1, hc2⟩ := slice_of T.types
  obtain ⟨ad, vs, rfl, hxd, _, hat⟩ := elem_hp (m := 17) (f := defL) defL_len H T.types hd (by omega)
  obtain ⟨A6, c6, A7, c7, A8, c8, A9, c9, A10, c10, A11, c11, A12, c12, A14, c14, rfl, -, -, -, -, -, -, -, -⟩ := def_cells hxd
  have hcell := hat.1 _ rfl
  clear hat hxd
  have hltI : (i : Int) < (ts.length : Int) := by omega
  have h17 := H.kcell T.box T.c17
  go_enter Tryz.func79, Tryz.ntmps79
  have cf2 : (w).cell? ⟨g, 18, none⟩ = some (.map (some ga)) := H.kcell T.box h18
  go_upto_region 2 with (first
   | (refine lookup_k (by rfl) (.tmp 11) (.tmp 12) 87 true (by rfl) Tryz.underlying87 (keys_s Tryz.underlying9) (.int .i64 0) zero_int ga (nmap (namesD ts)) (H.kmap T.at_) (by first | rfl | simp [Act.eval, Act.put]) (x) (by first | rfl | simp [Act.eval, Act.put]) (.tuple #[.int .i64 (i : Int), .bool true]) (by rw [hq]; rfl) ?_))
  go_wp2_with fail
  go_ret
  exact ⟨by rw [hk]; rfl, H⟩
theorem sch1_hp (d : DefD) (cs : Array Value) (w0 w K : World) (M : List Ent) (H : Hp w0 w K M) (hd : RL K (defL d) cs.toList) :
  Calls Tryz.prog 107 #[.agg cs] w fun e w' => e = .returned (.bool (isSchema d)) ∧ Hp w0 w' K M := by
 obtain ⟨A6, c6, A7, c7, A8, c8, A9, c9, A10, c10, A11, c11, A12, c12, A14, c14, hcs, -, -, -, -, -, -, -, -⟩ := def_cells hd
 clear hd
 have hs : isSchema d = (decide (d.kind = 1) && !d.ext) := rfl
 obtain ⟨kd, hkd⟩ : ∃ kd, d.kind = kd := ⟨_, rfl⟩
 obtain ⟨ex, hex⟩ : ∃ ex, d.ext = ex := ⟨_, rfl⟩
 rw [hs]
 clear hs
 rw [hkd, hex] at hcs ⊢
 clear hkd hex
 obtain rfl : cs = #[.int .i64 kd, .bool ex, .bool d.note.has, .bool d.note.block, .string (str d.note.text), .string (str d.name), .slice A6 d.ifaces.length c6, .slice A7 d.dirs.length c7, .slice A8 d.fields.length c8, .slice A9 d.inputs.length c9, .slice A10 d.members.length c10, .slice A11 d.values.length c11, .slice A12 d.roots.length c12, .bool d.rep, .slice A14 d.places.length c14, .int .i64 d.line, .int .i64 d.col] := Array.toList_inj.1 hcs
 clear hcs
 by_cases h1 : kd = 1
 · subst h1
   go_enter Tryz.func107, Tryz.ntmps107
   go_wp2_with (first
    | (refine box_hp (by rfl) 43 (.tmp 0) (by rfl) [.int .i64 1, .bool ex, .bool d.note.has, .bool d.note.block, .string (str d.note.text), .string (str d.name), .slice A6 d.ifaces.length c6, .slice A7 d.dirs.length c7, .slice A8 d.fields.length c8, .slice A9 d.inputs.length c9, .slice A10 d.members.length c10, .slice A11 d.values.length c11, .slice A12 d.roots.length c12, .bool d.rep, .slice A14 d.places.length c14, .int .i64 d.line, .int .i64 d.col] _ (by rfl) (by rfl) (some 1) (by rfl) H ?_; clear H; intro w1 g1 H hg2; clear hg2; have := H.c 0 0; have := H.c 0 1))
   replace H := H.sub (List.Sublist.cons _ (List.Sublist.refl _))
   go_ret
   exact ⟨by simp, H⟩
 · skip
   go_enter Tryz.func107, Tryz.ntmps107
   go_wp2_with (first
    | (refine box_hp (by rfl) 43 (.tmp 0) (by rfl) [.int .i64 kd, .bool ex, .bool d.note.has, .bool d.note.block, .string (str d.note.text), .string (str d.name), .slice A6 d.ifaces.length c6, .slice A7 d.dirs.length c7, .slice A8 d.fields.length c8, .slice A9 d.inputs.length c9, .slice A10 d.members.length c10, .slice A11 d.values.length c11, .slice A12 d.roots.length c12, .bool d.rep, .slice A14 d.places.length c14, .int .i64 d.line, .int .i64 d.col] _ (by rfl) (by rfl) (some 1) (by rfl) H ?_; clear H; intro w3 g1 H hg4; clear hg4; have := H.c 0 0; have := H.c 0 1))
   replace H := H.sub (List.Sublist.cons _ (List.Sublist.refl _))
   go_ret
   exact ⟨by simp [h1], H⟩
theorem findIdx_at {α : Type} {p : α → Bool} : ∀ {l : List α} {k : Nat} {x : α}, (∀ y ∈ l.take k, p y = false) → l[k]? = some x → p x = true → l.findIdx? p = some k
 | [], k, x, _, h, _ => by simp at h
 | a :: r, 0, x, _, h, hp => by
  simp only [List.getElem?_cons_zero, Option.some.injEq] at h
  subst h
  simp [List.findIdx?_cons, hp]
 | a :: r, k + 1, x, h0, h, hp => by
  have ha : p a = false := h0 a (by simp)
  have := findIdx_at (l := r) (k := k) (fun y hy => h0 y (by rw [List.take_succ_cons]; exact List.mem_cons_of_mem _ hy)) (by simpa using h) hp
  simp [List.findIdx?_cons, ha, this]
theorem findIdx_no {α : Type} {p : α → Bool} {l : List α} (h : ∀ y ∈ l, p y = false) : l.findIdx? p = none := by
 rw [List.findIdx?_eq_none_iff]; exact h
def idxI (o : Option Nat) : Int := match o with | none => -1 | some i => i
set_option maxHeartbeats 4000000 in
theorem schIdx_hp (defs : List DefD) (n c : Nat) (A : Option Addr) (w0 w K : World) (M : List Ent) (H : Hp w0 w K M) (hn : defs.length = n) (hd : RD K (.list n (defsL defs)) (.slice A n c)) (hm : n ≤ 20000000) :
  Calls Tryz.prog 106 #[.slice A n c, .func (.func 107) #[] #[]] w fun e w' => e = .returned (.int .i64 (idxI (defs.findIdx? isSchema))) ∧ Hp w0 w' K M := by
 have HN := hide hn
 clear hn
 go_enter Tryz.func106, Tryz.ntmps106
 go_wp2_with fail
 go_loopw [8] (fun i wr => ∃ k : Nat, k ≤ n ∧ i = .int .i64 k ∧ Hp w0 wr K M ∧ ∀ y ∈ defs.take k, isSchema y = false) (fun i _ => n - (intOf i).toNat)
 case atStart => exact ⟨0, Nat.zero_le _, rfl, H, by simp⟩
 case round =>
  clear H
  obtain ⟨k, hk, rfl, H, hno⟩ := hrel
  by_cases hlt : k < n
  · have hkI : (k : Int) < (n : Int) := by omega
    obtain ⟨x, hx⟩ : ∃ x, defs[k]? = some x := ⟨_, List.getElem?_eq_getElem (by rw [HN.out]; exact hlt)⟩
    have HX := hide hx
    obtain ⟨ad, xs, rfl, hxd, _, hat⟩ := elem_hp (m := 17) (f := defL) defL_len H hd hx (by omega)
    clear hx
    have hsz : (Tryz.prog.info? 43).map (·.size) = some 17 := def_size
    have hxl : xs.length = 17 := hxd.len
    have hno := hide hno
    cases hb : isSchema x with
    | true =>
     go_wp2_with (first
      | ((with_reducible show wpList _ _ _ (_ :: _) _ _); refine wpList_load_at (by rfl) 43 (.tmp 14) (by rfl) (ad.add (k * 17)) (by simp [Act.eval, Act.put]) _ _ hat Tryz.underlying43 rfl (by rw [hxl]; exact hsz) ?_)
      | (go_at_call 107; refine (sch1_hp x xs.toArray _ _ _ _ H hxd).mono ?_; clear H; rintro e w1 ⟨rfl, H⟩; rw [hb]))
     go_ret
     exact ⟨by rw [findIdx_at hno.out HX.out hb]; rfl, H⟩
    | false =>
     go_wp2_with (first
      | ((with_reducible show wpList _ _ _ (_ :: _) _ _); refine wpList_load_at (by rfl) 43 (.tmp 14) (by rfl) (ad.add (k * 17)) (by simp [Act.eval, Act.put]) _ _ hat Tryz.underlying43 rfl (by rw [hxl]; exact hsz) ?_)
      | (go_at_call 107; refine (sch1_hp x xs.toArray _ _ _ _ H hxd).mono ?_; clear H; rintro e w1 ⟨rfl, H⟩; rw [hb]))
     go_roundw
     case rel => exact ⟨k + 1, by omega, by go_num, H, by
      intro y hy
      rw [take_next HX.out] at hy
      rcases List.mem_append.1 hy with hy | hy
      · exact hno.out y hy
      · obtain rfl := List.mem_singleton.1 hy; exact hb⟩
     case measure => simp [intOf]; omega
  · obtain rfl : n = k := by omega
    have htk : defs.take n = defs := by rw [← HN.out]; exact List.take_length
    rw [htk] at hno
    have hno := hide hno
    go_wp2_with fail
    go_ret
    exact ⟨by rw [findIdx_no hno.out]; rfl, H⟩
end Go.Proofs.YtbpgkkoeehopjaaGreat.hp
