/- Part 12 of 18 of a proof: see the last part. -/
import Derived.Test.YtbpgkkoeehopjaaGreatP8
import Derived.Test.YtbpgkkoeehopjaaGreatP9
import Derived.Test.YtbpgkkoeehopjaaGreatP10
import Derived.Test.YtbpgkkoeehopjaaGreatP11
import Derived.Deep.QuietTactic
import Derived.BigQuiet
set_option linter.unusedVariables false
set_option linter.unusedSimpArgs false
namespace Go.Proofs.YtbpgkkoeehopjaaGreat.ty
open Go.RowKit Go.Proofs.YtbpgkkoeehopjaaGreat.lex Go.Proofs.YtbpgkkoeehopjaaGreat.gram Go.Proofs.YtbpgkkoeehopjaaGreat.dat Go.Proofs.YtbpgkkoeehopjaaGreat.hp
abbrev namesD (l : List DefD) : List Txt := l.map (·.name)
def addD (l : List DefD) (d : DefD) : List DefD := if d.name ∈ namesD l then l else l ++ [d]
abbrev IsTy (d : DefD) : Prop := 2 ≤ d.kind ∧ d.kind ≤ 7 ∧ d.ext = false
def step1 (p : List DefD × List DefD) (d : DefD) : List DefD × List DefD :=
 if d.kind = 8 then (p.1, if d.name ∈ namesD givenDirsD then p.2 else addD p.2 d)
 else if IsTy d then (if d.name ∈ namesD givenT then p.1 else addD p.1 d, p.2) else p
def numOf (l : List DefD) (x : Txt) : Option Nat := (namesD l).findIdx? (· == x)
def step2 (l : List DefD) (d : DefD) : List DefD :=
 match numOf l d.name with
 | none => l
 | some i => match l[i]? with
  | none => l
  | some e => if d.ext = true ∧ d.kind = e.kind ∧ d.kind ≠ 1 ∧ d.name ∉ namesD givenT then l.set i (mergeD e d) else l
def bare (defs : List DefD) : List DefD × List DefD := defs.foldl step1 ([], [])
def types1 (defs : List DefD) : List DefD := givenT.foldl addD (bare defs).1
def dirsOf (defs : List DefD) : List DefD := givenDirsD.foldl addD (bare defs).2
def typesOf (defs : List DefD) : List DefD := defs.foldl step2 (types1 defs)
def kindOf (l : List DefD) (x : Txt) : Int := (((numOf l x).bind fun i => l[i]?).map (·.kind)).getD 0
def zeroSchema : DefD := { kind := 1, ext := false, note := noteZ, name := [], ifaces := [], dirs := [], fields := [], inputs := [], members := [], values := [], roots := [], rep := false, places := [], line := 0, col := 0 }
def queryT : Txt := [81, 117, 101, 114, 121]
def mutationT : Txt := [77, 117, 116, 97, 116, 105, 111, 110]
def subscriptionT : Txt := [83, 117, 98, 115, 99, 114, 105, 112, 116, 105, 111, 110]
def rootN : List Txt := [queryT, mutationT, subscriptionT]
def rootsOf (ts : List DefD) : List RootD := (rootN.zipIdx.filter fun p => kindOf ts p.1 == 3).map fun p => ⟨1 + (p.2 : Int), p.1, 0, 0⟩
def isSchema (d : DefD) : Bool := d.kind == 1 && !d.ext
def schStep (s d : DefD) : DefD := if d.kind = 1 ∧ d.ext = true then { s with dirs := s.dirs ++ d.dirs, roots := s.roots ++ d.roots } else s
def schemaOf (defs ts : List DefD) : DefD :=
 match defs.find? isSchema with
 | none => { zeroSchema with roots := rootsOf ts }
 | some d => defs.foldl schStep d
abbrev FMap := List ((Txt × Txt) × Value)
def addF (m : FMap) (t f : Txt) (k : Nat) : FMap := if (kfind m (t, f)).isSome then m else m ++ [((t, f), .int .i64 (k : Int))]
def addFs (m : FMap) (d : DefD) : FMap := d.fields.zipIdx.foldl (fun m p => addF m d.name p.1.name p.2) m
def fieldsOf (ts : List DefD) : FMap := ts.foldl addFs []
abbrev OMap := List (Txt × List (Txt × Value))
def setAdd (s : List (Txt × Value)) (x : Txt) (n : Nat) : List (Txt × Value) := if (kfind s x).isSome then s else s ++ [(x, .int .i64 (n : Int))]
def addO : OMap → Txt → Txt → Nat → OMap
 | [], t, x, n => [(t, [(x, .int .i64 (n : Int))])]
 | p :: r, t, x, n => if p.1 = t then (t, setAdd p.2 x n) :: r else p :: addO r t x n
def objStep (ts : List DefD) (m : OMap) (p : DefD × Nat) : OMap :=
 if p.1.kind = 3 then p.1.ifaces.foldl (fun m n => if kindOf ts n.name = 4 then addO m n.name p.1.name p.2 else m) (addO m p.1.name p.1.name p.2)
 else if p.1.kind = 5 then p.1.members.zipIdx.foldl (fun m q => if kindOf ts q.1.name = 3 then addO m p.1.name q.1.name q.2 else m) m
 else m
def objectsOf (ts : List DefD) : OMap := ts.zipIdx.foldl (objStep ts) []
theorem namesD_set {l : List DefD} {i : Nat} {e e' : DefD} (h : l[i]? = some e) (hn : e'.name = e.name) : namesD (l.set i e') = namesD l := by
 apply List.ext_getElem?
 intro j
 simp only [namesD, List.getElem?_map, List.getElem?_set]
 by_cases hj : i = j
 · subst hj
   have hlt := (List.getElem?_eq_some_iff.1 h).1
   rw [if_pos rfl, if_pos hlt, h]
   simp [hn]
 · rw [if_neg hj]
theorem addD_nodup {l : List DefD} {d : DefD} (h : (namesD l).Nodup) : (namesD (addD l d)).Nodup := by
 unfold addD
 split
 · exact h
 · rename_i hn
   simp only [namesD, List.map_append, List.map_cons, List.map_nil]
   rw [List.nodup_append]
   refine ⟨h, by simp, ?_⟩
   intro a ha b hb he
   simp only [List.mem_singleton] at hb
   subst hb he
   exact hn ha
theorem numOf_some {l : List DefD} {x : Txt} {i : Nat} (h : numOf l x = some i) : ∃ d, l[i]? = some d ∧ d.name = x := by
 unfold numOf at h
 rw [List.findIdx?_eq_some_iff_getElem] at h
 obtain ⟨hi, h1, _⟩ := h
 have hi' : i < l.length := by simpa using hi
 exact ⟨l[i], List.getElem?_eq_getElem hi', by simpa using h1⟩
theorem numOf_none {l : List DefD} {x : Txt} (h : numOf l x = none) : x ∉ namesD l := by
 unfold numOf at h
 rw [List.findIdx?_eq_none_iff] at h
 intro hx
 have := h x hx
 simp at this
theorem step2_names {l : List DefD} {d : DefD} : namesD (step2 l d) = namesD l := by
 unfold step2
 split
 · rfl
 · split
   · rfl
   · split
     · rename_i he _
       exact namesD_set he rfl
     · rfl
theorem sum_set {α : Type} {f : α → Nat} : ∀ {l : List α} {i : Nat} {e : α} (e' : α), l[i]? = some e → sumN f (l.set i e') + f e = sumN f l + f e'
 | [], i, e, e', h => by simp at h
 | x :: r, 0, e, e', h => by simp only [List.getElem?_cons_zero] at h; injection h with h; subst h; simp only [List.set_cons_zero, sumN]; omega
 | x :: r, i + 1, e, e', h => by simp only [List.getElem?_cons_succ] at h; have := sum_set (f := f) e' h; simp only [List.set_cons_succ, sumN]; omega
theorem sum_take {α : Type} {f : α → Nat} (l : List α) (k : Nat) : sumN f (l.take k) ≤ sumN f l := by
 have := sum_app (f := f) (l.take k) (l.drop k)
 rw [List.take_append_drop] at this
 omega
theorem mergeD_N (e d : DefD) : defN (mergeD e d) ≤ defN e + defN d := by
 simp only [defN, mergeD, sum_app, List.length_append]; omega
theorem addD_N (l : List DefD) (d : DefD) : defsN (addD l d) ≤ defsN l + defN d := by
 unfold addD
 split
 · omega
 · unfold defsN; rw [sum_app]; simp only [sumN]; omega
theorem step2_N (l : List DefD) (d : DefD) : defsN (step2 l d) ≤ defsN l + defN d := by
 unfold step2
 split
 · omega
 · split
   · omega
   · split
     · rename_i e he _
       have h1 := sum_set (f := defN) (mergeD e d) he
       have h2 := mergeD_N e d
       unfold defsN
       omega
     · omega
theorem foldl_N {f : List DefD → DefD → List DefD} (h : ∀ l d, defsN (f l d) ≤ defsN l + defN d) : ∀ (l s : List DefD), defsN (l.foldl f s) ≤ defsN s + defsN l
 | [], s => by simp [defsN, sumN]
 | d :: r, s => by
  have h1 := foldl_N h r (f s d)
  have h2 := h s d
  simp only [List.foldl_cons, defsN, sumN] at h1 h2 ⊢
  omega
theorem bare_N : ∀ (l : List DefD) (p : List DefD × List DefD), defsN (l.foldl step1 p).1 ≤ defsN p.1 + defsN l ∧ defsN (l.foldl step1 p).2 ≤ defsN p.2 + defsN l
 | [], p => by simp [defsN, sumN]
 | d :: r, p => by
  have h1 := bare_N r (step1 p d)
  have h2 : defsN (step1 p d).1 ≤ defsN p.1 + defN d ∧ defsN (step1 p d).2 ≤ defsN p.2 + defN d := by
   have a1 := addD_N p.1 d
   have a2 := addD_N p.2 d
   unfold step1
   split
   · dsimp only; split <;> omega
   · split
     · dsimp only; split <;> omega
     · omega
  simp only [List.foldl_cons, defsN, sumN] at h1 h2 ⊢
  omega
theorem foldl_keep {α β : Type} {Q : β → Prop} {f : β → α → β} (h : ∀ b a, Q b → Q (f b a)) : ∀ (l : List α) (b : β), Q b → Q (l.foldl f b)
 | [], b, hb => hb
 | a :: r, b, hb => foldl_keep h r (f b a) (h b a hb)
theorem bare_nodup (l : List DefD) : (namesD (bare l).1).Nodup ∧ (namesD (bare l).2).Nodup := by
 refine foldl_keep (Q := fun p : List DefD × List DefD => (namesD p.1).Nodup ∧ (namesD p.2).Nodup) ?_ l ([], []) ⟨List.nodup_nil, List.nodup_nil⟩
 intro p d h
 have a1 := addD_nodup (d := d) h.1
 have a2 := addD_nodup (d := d) h.2
 unfold step1
 split
 · dsimp only; split
   · exact h
   · exact ⟨h.1, a2⟩
 · split
   · dsimp only; split
     · exact h
     · exact ⟨a1, h.2⟩
   · exact h
theorem types1_nodup (l : List DefD) : (namesD (types1 l)).Nodup := foldl_keep (Q := fun p : List DefD => (namesD p).Nodup) (fun p d h => addD_nodup h) givenT _ (bare_nodup l).1
theorem dirs_nodup (l : List DefD) : (namesD (dirsOf l)).Nodup := foldl_keep (Q := fun p : List DefD => (namesD p).Nodup) (fun p d h => addD_nodup h) givenDirsD _ (bare_nodup l).2
theorem fold2_names : ∀ (l s : List DefD), namesD (l.foldl step2 s) = namesD s
 | [], s => rfl
 | d :: r, s => by rw [List.foldl_cons, fold2_names r, step2_names]
theorem types_names (l : List DefD) : namesD (typesOf l) = namesD (types1 l) := fold2_names l _
theorem types_nodup (l : List DefD) : (namesD (typesOf l)).Nodup := by rw [types_names]; exact types1_nodup l
theorem types_N (l : List DefD) : defsN (typesOf l) ≤ 2 * defsN l + defsN givenT := by
 have h1 := foldl_N step2_N l (types1 l)
 have h2 := foldl_N addD_N givenT (bare l).1
 have h3 := (bare_N l ([], [])).1
 simp only [typesOf, types1, bare, defsN, sumN] at h1 h2 h3 ⊢
 omega
theorem dirs_N (l : List DefD) : defsN (dirsOf l) ≤ defsN l + defsN givenDirsD := by
 have h2 := foldl_N addD_N givenDirsD (bare l).2
 have h3 := (bare_N l ([], [])).2
 simp only [dirsOf, bare, defsN, sumN] at h2 h3 ⊢
 omega
theorem schStep_N (s d : DefD) : defN (schStep s d) ≤ defN s + defN d := by
 unfold schStep
 split
 · simp only [defN, sum_app, List.length_append]; omega
 · omega
theorem fold_schN : ∀ (l : List DefD) (s : DefD), defN (l.foldl schStep s) ≤ defN s + defsN l
 | [], s => by simp [defsN, sumN]
 | d :: r, s => by
  have h1 := fold_schN r (schStep s d)
  have h2 := schStep_N s d
  simp only [List.foldl_cons, defsN, sumN] at h1 ⊢
  omega
end Go.Proofs.YtbpgkkoeehopjaaGreat.ty
namespace Go.Proofs.YtbpgkkoeehopjaaGreat.hp
open Go.RowKit Go.Proofs.YtbpgkkoeehopjaaGreat.words Go.Proofs.YtbpgkkoeehopjaaGreat.enc Go.Proofs.YtbpgkkoeehopjaaGreat.tree Go.Proofs.YtbpgkkoeehopjaaGreat.gram Go.Proofs.YtbpgkkoeehopjaaGreat.lex Go.Proofs.YtbpgkkoeehopjaaGreat.rd Go.Proofs.YtbpgkkoeehopjaaGreat.dec Go.Proofs.YtbpgkkoeehopjaaGreat.dat Go.Proofs.YtbpgkkoeehopjaaGreat.held Go.Proofs.YtbpgkkoeehopjaaGreat.ty
section
variable {w0 w w' K K' : World} {M : List Ent}
theorem Hp.rotAt (C A B : List Ent) (H : Hp w0 w K (C ++ (A ++ (B ++ M)))) : Hp w0 w K (C ++ (B ++ (A ++ M))) :=
 H.perm (List.Perm.append_left C (by rw [← List.append_assoc, ← List.append_assoc]; exact (List.perm_append_comm).append_right M))
def Bst (g ga gd gf go : Nat) (ts ds : List DefD) (w0 w K : World) (M : List Ent) : Prop :=
 ∃ TS VT VD xD, ts = TS.map (·.1) ∧ tok K TS ∧ RL K (defsL ds) xD ∧
  Hp w0 w K (tbox g ga gd gf go VT VD :: .map ga (sents (nmap (namesD ts))) :: .row 43 17 VT ts.length (tcells TS) :: .map gd (sents (nmap (namesD ds))) :: .row 43 17 VD ds.length xD :: (trows TS ++ M))
theorem defsL_snoc {l : List DefD} {d : DefD} {xs ys : List Value} (h : RL K (defsL l) xs) (h' : RL K (defL d) ys) : RL K (defsL (l ++ [d])) (xs ++ ys) := by
 have : defsL (l ++ [d]) = defsL l ++ defL d := by simp [defsL]
 rw [this]
 exact h.app h'
theorem addType_bst (d : DefD) (cs : Array Value) (g ga gd gf go : Nat) (ts ds : List DefD) (H : Bst g ga gd gf go ts ds w0 w K M) (hd : RL K (defL d) cs.toList) (hm : defN d ≤ 9000000) (hk : ts.length ≤ 9000000) :
  Calls Tryz.prog 59 #[.pointer (some ⟨g, 0, none⟩), .agg cs] w fun e w' => ∃ K', e = .returned (.tuple #[]) ∧ Sat K' K ∧ Bst g ga gd gf go (addD ts d) ds w0 w' K' M := by
 obtain ⟨TS, VT, VD, xD, hts, hok, hxD, H⟩ := H
 have hlen : (namesD ts).length = ts.length := List.length_map ..
 by_cases hin : d.name ∈ namesD ts
 · refine (addType_old d cs (namesD ts) g ga gd gf go VT VD w0 w K _ H hd hin).mono ?_
   rintro e w' ⟨rfl, H⟩
   have hadd : addD ts d = ts := if_pos hin
   rw [hadd]
   exact ⟨K, rfl, Sat.refl K, TS, VT, VD, xD, hts, hok, hxD, H⟩
 · have H1 : Hp w0 w K (tbox g ga gd gf go VT VD :: .map ga (sents (nmap (namesD ts))) :: .row 43 17 VT (namesD ts).length (tcells TS) :: (.map gd (sents (nmap (namesD ds))) :: .row 43 17 VD ds.length xD :: (trows TS ++ M))) := by rw [hlen]; exact H
   refine (addType_new d cs (namesD ts) g ga gd gf go VT VD (tcells TS) w0 w K _ H1 hd hin hm (by omega)).mono ?_
   rintro e w' ⟨K', V, VT', rfl, hle, H2, hV⟩
   have hadd : addD ts d = ts ++ [d] := if_neg hin
   rw [hadd]
   refine ⟨K', rfl, hle, TS ++ [(d, V)], VT', VD, xD, by rw [List.map_append, ← hts]; rfl, ?_, hxD.sat hle, ?_⟩
   · intro p hp
     rcases List.mem_append.1 hp with hp | hp
     · exact (hok p hp).sat hle
     · obtain rfl := List.mem_singleton.1 hp
       exact hV
   · have H3 := Hp.rotAt [tbox g ga gd gf go VT' VD, .map ga (sents (nmap (namesD ts ++ [d.name]))), .row 43 17 VT' ((namesD ts).length + 1) (tcells TS ++ DV.cells d V)] (DV.rows d V) (.map gd (sents (nmap (namesD ds))) :: .row 43 17 VD ds.length xD :: trows TS) (M := M) H2
     have e1 : tcells (TS ++ [(d, V)]) = tcells TS ++ DV.cells d V := by rw [tcells_app]; simp [tcells]
     have e2 : trows (TS ++ [(d, V)]) = trows TS ++ DV.rows d V := by rw [trows_app]; simp [trows]
     have e3 : namesD (ts ++ [d]) = namesD ts ++ [d.name] := by simp [namesD]
     have e4 : (ts ++ [d]).length = (namesD ts).length + 1 := by rw [hlen]; simp
     rw [e1, e2, e3, e4, List.append_assoc]
     exact H3
theorem addDir_bst (d : DefD) (cs : Array Value) (g ga gd gf go : Nat) (ts ds : List DefD) (H : Bst g ga gd gf go ts ds w0 w K M) (hd : RL K (defL d) cs.toList) (hm : defN d ≤ 9000000) (hk : ds.length ≤ 9000000) :
  Calls Tryz.prog 58 #[.pointer (some ⟨g, 0, none⟩), .agg cs] w fun e w' => ∃ K', e = .returned (.tuple #[]) ∧ Sat K' K ∧ Bst g ga gd gf go ts (addD ds d) w0 w' K' M := by
 obtain ⟨TS, VT, VD, xD, hts, hok, hxD, H⟩ := H
 have hlen : (namesD ds).length = ds.length := List.length_map ..
 have H1 : Hp w0 w K (tbox g ga gd gf go VT VD :: .map gd (sents (nmap (namesD ds))) :: .row 43 17 VD (namesD ds).length xD :: (.map ga (sents (nmap (namesD ts))) :: .row 43 17 VT ts.length (tcells TS) :: (trows TS ++ M))) := by
  rw [hlen]
  exact Hp.rotAt [tbox g ga gd gf go VT VD] [.map ga (sents (nmap (namesD ts))), .row 43 17 VT ts.length (tcells TS)] [.map gd (sents (nmap (namesD ds))), .row 43 17 VD ds.length xD] (M := trows TS ++ M) H
 by_cases hin : d.name ∈ namesD ds
 · refine (addDir_old d cs (namesD ds) g ga gd gf go VT VD w0 w K _ H1 hd hin).mono ?_
   rintro e w' ⟨rfl, H⟩
   have hadd : addD ds d = ds := if_pos hin
   rw [hadd]
   refine ⟨K, rfl, Sat.refl K, TS, VT, VD, xD, hts, hok, hxD, ?_⟩
   rw [hlen] at H
   exact Hp.rotAt [tbox g ga gd gf go VT VD] [.map gd (sents (nmap (namesD ds))), .row 43 17 VD ds.length xD] [.map ga (sents (nmap (namesD ts))), .row 43 17 VT ts.length (tcells TS)] (M := trows TS ++ M) H
 · refine (addDir_new d cs (namesD ds) g ga gd gf go VT VD xD w0 w K _ H1 hd hin hm (by omega)).mono ?_
   rintro e w' ⟨K', xs, VD', rfl, hle, H2, hxs⟩
   have hadd : addD ds d = ds ++ [d] := if_neg hin
   rw [hadd]
   refine ⟨K', rfl, hle, TS, VT, VD', xD ++ xs, hts, hok.sat hle, defsL_snoc (hxD.sat hle) hxs, ?_⟩
   have e3 : namesD (ds ++ [d]) = namesD ds ++ [d.name] := by simp [namesD]
   have e4 : (ds ++ [d]).length = (namesD ds).length + 1 := by rw [hlen]; simp
   rw [e3, e4]
   exact Hp.rotAt [tbox g ga gd gf go VT VD'] [.map gd (sents (nmap (namesD ds ++ [d.name]))), .row 43 17 VD' ((namesD ds).length + 1) (xD ++ xs)] [.map ga (sents (nmap (namesD ts))), .row 43 17 VT ts.length (tcells TS)] (M := trows TS ++ M) H2
end
def orows (OB : List (Txt × Nat × List (Txt × Value))) : List Ent := OB.map fun p => .map p.2.1 (sents p.2.2)
def ovals (OB : List (Txt × Nat × List (Txt × Value))) : List (Txt × Value) := OB.map fun p => (p.1, .map (some p.2.1))
def omap (OB : List (Txt × Nat × List (Txt × Value))) : OMap := OB.map fun p => (p.1, p.2.2)
def Ost (go : Nat) (om : OMap) (w0 w K : World) (M : List Ent) : Prop := ∃ OB, om = omap OB ∧ Hp w0 w K (.map go (sents (ovals OB)) :: (orows OB ++ M))
theorem ovals_find (x : Txt) : ∀ OB : List (Txt × Nat × List (Txt × Value)), (kfind (ovals OB) x = none ∧ ∀ n m, addO (omap OB) x n m = omap OB ++ [(x, [(n, .int .i64 (m : Int))])]) ∨ ∃ A b s B, OB = A ++ (x, b, s) :: B ∧ kfind (ovals OB) x = some (.map (some b)) ∧ ∀ n m, addO (omap OB) x n m = omap A ++ (x, setAdd s n m) :: omap B
 | [] => .inl ⟨rfl, fun _ _ => rfl⟩
 | p :: r => by
  by_cases h : p.1 = x
  · obtain ⟨a, b, s⟩ := p
    simp only at h
    subst h
    exact .inr ⟨[], b, s, r, rfl, by simp [kfind, ovals], fun n m => by simp [addO, omap]⟩
  · have hk : kfind (ovals (p :: r)) x = kfind (ovals r) x := by simp [kfind, ovals, h]
    have ha : ∀ n m, addO (omap (p :: r)) x n m = (p.1, p.2.2) :: addO (omap r) x n m := fun n m => by simp [addO, omap, h]
    rcases ovals_find x r with ⟨h1, h2⟩ | ⟨A, b, s, B, rfl, h1, h2⟩
    · exact .inl ⟨hk.trans h1, fun n m => by rw [ha, h2]; simp [omap]⟩
    · exact .inr ⟨p :: A, b, s, B, rfl, hk.trans h1, fun n m => by rw [ha, h2]; simp [omap]⟩
structure TysD where
 schema : DefD
 types : List DefD
 dirs : List DefD
 fields : FMap
 objects : OMap
def buildD (defs : List DefD) : TysD := ⟨schemaOf defs (typesOf defs), typesOf defs, dirsOf defs, fieldsOf (typesOf defs), objectsOf (typesOf defs)⟩
structure TyA (K : World) (g ga gd gf go : Nat) (sch : List Value) (VT VD : Value) (s : DefD) (ts ds : List DefD) : Prop where
 box : Kb K g (sch ++ [VT, .map (some ga), VD, .map (some gd), .map (some gf), .map (some go)]) 91
 sch : RL K (defL s) sch
 types : RD K (.list ts.length (defsL ts)) VT
 dirs : RD K (.list ds.length (defsL ds)) VD
 at_ : Km K ga (kents ks (nmap (namesD ts)))
 dirAt : Km K gd (kents ks (nmap (namesD ds)))
theorem ty_c {sch : List Value} (h : sch.length = 17) (l : List Value) (k : Nat) : (sch ++ l)[17 + k]? = l[k]? := by
 rw [List.getElem?_append_right (by omega), h]; congr 1; omega
section
variable {K K' : World} {g ga gd gf go : Nat} {sch : List Value} {VT VD : Value} {s : DefD} {ts ds : List DefD}
theorem TyA.len (h : TyA K g ga gd gf go sch VT VD s ts ds) : sch.length = 17 := h.sch.len
theorem TyA.c17 (h : TyA K g ga gd gf go sch VT VD s ts ds) : (sch ++ [VT, .map (some ga), VD, .map (some gd), .map (some gf), .map (some go)])[17]? = some VT := ty_c h.len _ 0
theorem TyA.c18 (h : TyA K g ga gd gf go sch VT VD s ts ds) : (sch ++ [VT, .map (some ga), VD, .map (some gd), .map (some gf), .map (some go)])[18]? = some (.map (some ga)) := ty_c h.len _ 1
theorem TyA.c19 (h : TyA K g ga gd gf go sch VT VD s ts ds) : (sch ++ [VT, .map (some ga), VD, .map (some gd), .map (some gf), .map (some go)])[19]? = some VD := ty_c h.len _ 2
theorem TyA.c20 (h : TyA K g ga gd gf go sch VT VD s ts ds) : (sch ++ [VT, .map (some ga), VD, .map (some gd), .map (some gf), .map (some go)])[20]? = some (.map (some gd)) := ty_c h.len _ 3
theorem TyA.c21 (h : TyA K g ga gd gf go sch VT VD s ts ds) : (sch ++ [VT, .map (some ga), VD, .map (some gd), .map (some gf), .map (some go)])[21]? = some (.map (some gf)) := ty_c h.len _ 4
theorem TyA.c22 (h : TyA K g ga gd gf go sch VT VD s ts ds) : (sch ++ [VT, .map (some ga), VD, .map (some gd), .map (some gf), .map (some go)])[22]? = some (.map (some go)) := ty_c h.len _ 5
theorem TyA.sat (h : TyA K g ga gd gf go sch VT VD s ts ds) (hs : Sat K' K) : TyA K' g ga gd gf go sch VT VD s ts ds :=
 ⟨h.box.sat hs, h.sch.sat hs, h.types.sat hs, h.dirs.sat hs, h.at_.sat hs, h.dirAt.sat hs⟩
end
structure Tys (K : World) (g : Nat) (D : TysD) (ga gd gf go : Nat) (sch : List Value) (VT VD : Value) (OB : List (Txt × Nat × List (Txt × Value))) : Prop where
 a : TyA K g ga gd gf go sch VT VD D.schema D.types D.dirs
 fields : Km K gf (kents kp D.fields)
 objects : Km K go (kents ks (ovals OB))
 om : D.objects = omap OB
 sets : ∀ p ∈ OB, Km K p.2.1 (kents ks p.2.2)
def TysK (K : World) (g : Nat) (D : TysD) : Prop := ∃ ga gd gf go sch VT VD OB, Tys K g D ga gd gf go sch VT VD OB
section
variable {K K' : World} {g : Nat} {D : TysD}
theorem Tys.sat {ga gd gf go : Nat} {sch : List Value} {VT VD : Value} {OB : List (Txt × Nat × List (Txt × Value))} (h : Tys K g D ga gd gf go sch VT VD OB) (hs : Sat K' K) : Tys K' g D ga gd gf go sch VT VD OB :=
 ⟨h.a.sat hs, h.fields.sat hs, h.objects.sat hs, h.om, fun p hp => (h.sets p hp).sat hs⟩
theorem TysK.sat (h : TysK K g D) (hs : Sat K' K) : TysK K' g D := by
 obtain ⟨ga, gd, gf, go, sch, VT, VD, OB, h⟩ := h
 exact ⟨ga, gd, gf, go, sch, VT, VD, OB, h.sat hs⟩
end
end Go.Proofs.YtbpgkkoeehopjaaGreat.hp
namespace Go.Proofs.YtbpgkkoeehopjaaGreat.ty
open Go.RowKit Go.Proofs.YtbpgkkoeehopjaaGreat.lex Go.Proofs.YtbpgkkoeehopjaaGreat.gram Go.Proofs.YtbpgkkoeehopjaaGreat.dat Go.Proofs.YtbpgkkoeehopjaaGreat.hp
theorem foldl_mem {α β : Type} {Q : β → Prop} {f : β → α → β} : ∀ (l : List α) (b : β), (∀ b a, a ∈ l → Q b → Q (f b a)) → Q b → Q (l.foldl f b)
 | [], b, _, hb => hb
 | a :: r, b, h, hb => foldl_mem r (f b a) (fun b' a' ha => h b' a' (List.mem_cons_of_mem _ ha)) (h b a (List.mem_cons_self ..) hb)
theorem zipIdx_mem {α : Type} {l : List α} {p : α × Nat} (h : p ∈ l.zipIdx) : l[p.2]? = some p.1 := by
 rw [List.mem_zipIdx_iff_getElem?] at h
 exact h
def FOk (ts : List DefD) (m : FMap) : Prop := ∀ p ∈ m, ∃ (i : Nat) (d : DefD) (k : Nat) (f : FieldD), ts[i]? = some d ∧ d.name = p.1.1 ∧ d.fields[k]? = some f ∧ f.name = p.1.2 ∧ p.2 = .int .i64 ((k : Nat) : Int)
theorem addF_ok {ts : List DefD} {m : FMap} {i k : Nat} {d : DefD} {f : FieldD} (h : FOk ts m) (hd : ts[i]? = some d) (hf : d.fields[k]? = some f) : FOk ts (addF m d.name f.name k) := by
 unfold addF
 split
 · exact h
 · intro p hp
   rcases List.mem_append.1 hp with hp | hp
   · exact h p hp
   · obtain rfl := List.mem_singleton.1 hp
     exact ⟨i, d, k, f, hd, rfl, hf, rfl, rfl⟩
theorem fieldsOf_ok (ts : List DefD) : FOk ts (fieldsOf ts) := by
 refine foldl_mem (Q := FOk ts) ts [] ?_ (fun _ h => by cases h)
 intro m d hd h
 obtain ⟨i, hi⟩ := List.mem_iff_getElem?.1 hd
 refine foldl_mem (Q := FOk ts) d.fields.zipIdx m ?_ h
 intro m p hp h
 exact addF_ok h hi (zipIdx_mem hp)
theorem numOf_at {ts : List DefD} {i : Nat} {d : DefD} (hn : (namesD ts).Nodup) (h : ts[i]? = some d) : numOf ts d.name = some i := by
 unfold numOf
 have hi : i < (namesD ts).length := by have := (List.getElem?_eq_some_iff.1 h).1; simpa using this
 have hx : (namesD ts)[i] = d.name := by
  have h2 : (namesD ts)[i]? = some d.name := by simp [namesD, h]
  rw [List.getElem?_eq_getElem hi] at h2
  injection h2
 rw [List.findIdx?_eq_some_iff_getElem]
 refine ⟨hi, by simp [hx], ?_⟩
 intro j hj
 have hne : (namesD ts)[j] ≠ (namesD ts)[i] := List.pairwise_iff_getElem.1 hn j i (by omega) hi hj
 rw [hx] at hne
 simpa using hne
theorem kfind_ok {ts : List DefD} {m : FMap} (hn : (namesD ts).Nodup) (h : FOk ts m) {t f : Txt} {v : Value} (hv : kfind m (t, f) = some v) : ∃ (i : Nat) (d : DefD) (k : Nat) (fd : FieldD), numOf ts t = some i ∧ ts[i]? = some d ∧ d.fields[k]? = some fd ∧ fd.name = f ∧ v = .int .i64 ((k : Nat) : Int) := by
 obtain ⟨i, d, k, fd, h1, h2, h3, h4, h5⟩ := h _ (kfind_mem hv)
 simp only at h2 h4 h5
 subst h2
 exact ⟨i, d, k, fd, numOf_at hn h1, h1, h3, h4, h5⟩
theorem kindOf_at {ts : List DefD} {i : Nat} {d : DefD} (hn : (namesD ts).Nodup) (h : ts[i]? = some d) : kindOf ts d.name = d.kind := by
 simp [kindOf, numOf_at hn h, h]
theorem kindOf_some {ts : List DefD} {i : Nat} {x : Txt} {d : DefD} (h : numOf ts x = some i) (hd : ts[i]? = some d) : kindOf ts x = d.kind := by
 simp [kindOf, h, hd]
theorem kindOf_none {ts : List DefD} {x : Txt} (h : numOf ts x = none) : kindOf ts x = 0 := by
 simp [kindOf, h]
def nmAt (ts : List DefD) (t : Txt) (n : Nat) : Option Txt :=
 if kindOf ts t = 5 then (((numOf ts t).bind fun i => ts[i]?).bind fun d => d.members[n]?).map (·.name) else (ts[n]?).map (·.name)
def SOk (f : Nat → Option Txt) (s : List (Txt × Value)) : Prop := (s.map (·.1)).Nodup ∧ ∀ q ∈ s, ∃ n : Nat, q.2 = .int .i64 (n : Int) ∧ f n = some q.1
def OOk (ts : List DefD) (om : OMap) : Prop := ∀ p ∈ om, SOk (nmAt ts p.1) p.2
theorem setAdd_ok {f : Nat → Option Txt} {s : List (Txt × Value)} {x : Txt} {n : Nat} (h : SOk f s) (hx : f n = some x) : SOk f (setAdd s x n) := by
 unfold setAdd
 split
 · exact h
 · rename_i hs
   have hs : kfind s x = none := by simpa using hs
   refine ⟨?_, ?_⟩
   · rw [List.map_append, List.nodup_append]
     refine ⟨h.1, by simp, ?_⟩
     intro a ha b hb he
     simp only [List.map_cons, List.map_nil, List.mem_singleton] at hb
     subst hb he
     obtain ⟨p, hp, rfl⟩ := List.mem_map.1 ha
     exact kfind_none hs p hp rfl
   · intro q hq
     rcases List.mem_append.1 hq with hq | hq
     · exact h.2 q hq
     · obtain rfl := List.mem_singleton.1 hq
       exact ⟨n, rfl, hx⟩
theorem addO_ok {ts : List DefD} : ∀ {om : OMap} {t x : Txt} {n : Nat}, OOk ts om → nmAt ts t n = some x → OOk ts (addO om t x n)
 | [], t, x, n, _, hx => by
  intro p hp
  obtain rfl := List.mem_singleton.1 hp
  exact ⟨by simp, fun q hq => by obtain rfl := List.mem_singleton.1 hq; exact ⟨n, rfl, hx⟩⟩
 | p :: r, t, x, n, h, hx => by
  unfold addO
  split
  · rename_i hp
    intro q hq
    rcases List.mem_cons.1 hq with rfl | hq
    · have := h p (List.mem_cons_self ..)
      rw [hp] at this
      exact setAdd_ok this hx
    · exact h q (List.mem_cons_of_mem _ hq)
  · intro q hq
    rcases List.mem_cons.1 hq with rfl | hq
    · exact h _ (List.mem_cons_self ..)
    · exact addO_ok (fun a ha => h a (List.mem_cons_of_mem _ ha)) hx q hq
theorem objectsOf_ok {ts : List DefD} (hn : (namesD ts).Nodup) : OOk ts (objectsOf ts) := by
 refine foldl_mem (Q := OOk ts) ts.zipIdx [] ?_ (fun _ h => by cases h)
 rintro m ⟨d, i⟩ hd h
 have hd : ts[i]? = some d := zipIdx_mem hd
 have hk := kindOf_at hn hd
 have hi : ∀ t, kindOf ts t ≠ 5 → nmAt ts t i = some d.name := fun t ht => by simp [nmAt, ht, hd]
 unfold objStep
 dsimp only
 split
 · rename_i h3
   refine foldl_mem (Q := OOk ts) d.ifaces _ ?_ (addO_ok h (hi _ (by omega)))
   intro m n _ hm
   split
   · exact addO_ok hm (hi _ (by omega))
   · exact hm
 · split
   · rename_i h5
     refine foldl_mem (Q := OOk ts) d.members.zipIdx m ?_ h
     rintro m ⟨n, k⟩ hnk hm
     have hnk : d.members[k]? = some n := zipIdx_mem hnk
     dsimp only
     split
     · refine addO_ok hm ?_
       simp [nmAt, hk, h5, numOf_at hn hd, hd, hnk]
     · exact hm
   · exact h
def setOf (om : OMap) (t : Txt) : List (Txt × Value) := ((om.find? (fun p => decide (p.1 = t))).map (·.2)).getD []
theorem setOf_ok {ts : List DefD} {om : OMap} (h : OOk ts om) (t : Txt) : SOk (nmAt ts t) (setOf om t) := by
 unfold setOf
 cases hq : om.find? (fun p => decide (p.1 = t)) with
 | none => exact ⟨List.nodup_nil, fun _ h => by cases h⟩
 | some p =>
  have h1 := List.find?_some hq
  have h1 : p.1 = t := of_decide_eq_true h1
  have := h p (List.mem_of_find?_eq_some hq)
  rw [h1] at this
  exact this
theorem nmAt_lt {ts : List DefD} {t x : Txt} {n : Nat} (h : nmAt ts t n = some x) : n < ts.length ∨ ∃ d ∈ ts, n < d.members.length := by
 unfold nmAt at h
 split at h
 · right
   cases hi : numOf ts t with
   | none => simp [hi] at h
   | some i =>
    cases hd : ts[i]? with
    | none => simp [hi, hd] at h
    | some d =>
     refine ⟨d, List.mem_of_getElem? hd, ?_⟩
     rcases Nat.lt_or_ge n d.members.length with hl | hl
     · exact hl
     · simp [hi, hd, List.getElem?_eq_none hl] at h
 · left
   rcases Nat.lt_or_ge n ts.length with hl | hl
   · exact hl
   · simp [List.getElem?_eq_none hl] at h
def numAt (s : List (Txt × Value)) (x : Txt) : Int := match kfind s x with | some (.int .i64 n) => n | _ => 0
theorem sok_find {f : Nat → Option Txt} {s : List (Txt × Value)} (h : SOk f s) (x : Txt) : (kfind s x = none ∧ ∀ p ∈ s, p.1 ≠ x) ∨ ∃ n : Nat, kfind s x = some (.int .i64 (n : Int)) ∧ f n = some x ∧ (x, .int .i64 (n : Int)) ∈ s := by
 cases hq : kfind s x with
 | none => exact .inl ⟨rfl, kfind_none hq⟩
 | some v =>
  have hm := kfind_mem hq
  obtain ⟨n, h1, h2⟩ := h.2 _ hm
  simp only at h1 h2
  subst h1
  exact .inr ⟨n, rfl, h2, hm⟩
theorem numAt_val {f : Nat → Option Txt} {s : List (Txt × Value)} (h : SOk f s) (x : Txt) : (kfind s x).getD (.int .i64 0) = .int .i64 (numAt s x) := by
 unfold numAt
 rcases sok_find h x with ⟨h1, _⟩ | ⟨n, h1, _⟩ <;> rw [h1] <;> rfl
theorem zip_next {α : Type} {l : List α} {k : Nat} {x : α} (hx : l[k]? = some x) : (l.take (k + 1)).zipIdx = (l.take k).zipIdx ++ [(x, k)] := by
 have hk := (List.getElem?_eq_some_iff.1 hx).1
 have h1 : l.take (k + 1) = l.take k ++ [x] := by rw [List.take_add_one, hx]; rfl
 have h2 : (l.take k).length = k := by rw [List.length_take]; omega
 rw [h1, List.zipIdx_append, h2]
 simp
theorem fold_next {α β : Type} {l : List α} {k : Nat} {x : α} (hx : l[k]? = some x) (f : β → α → β) (b : β) : (l.take (k + 1)).foldl f b = f ((l.take k).foldl f b) x := by
 have h1 : l.take (k + 1) = l.take k ++ [x] := by rw [List.take_add_one, hx]; rfl
 rw [h1, List.foldl_append]; rfl
theorem fold_zip_next {α β : Type} {l : List α} {k : Nat} {x : α} (hx : l[k]? = some x) (f : β → α × Nat → β) (b : β) : (l.take (k + 1)).zipIdx.foldl f b = f ((l.take k).zipIdx.foldl f b) (x, k) := by
 rw [zip_next hx, List.foldl_append]; rfl
theorem defN_at {ts : List DefD} {i : Nat} {d : DefD} (h : ts[i]? = some d) : defN d ≤ defsN ts := by
 have h1 : ts = ts.take i ++ d :: ts.drop (i + 1) := by
  obtain ⟨hi, rfl⟩ := List.getElem?_eq_some_iff.1 h
  simp
 rw [h1]
 unfold defsN
 rw [sum_app]
 simp only [sumN]
 omega
theorem members_le (d : DefD) : d.members.length ≤ defN d := by unfold defN; omega
theorem ifaces_le (d : DefD) : d.ifaces.length ≤ defN d := by unfold defN; omega
theorem fields_le (d : DefD) : d.fields.length ≤ defN d := by have := sum_len fieldN_pos d.fields; unfold defN; omega
theorem nmAt_le {ts : List DefD} {t x : Txt} {n : Nat} (h : nmAt ts t n = some x) : n < defsN ts := by
 have hl : ts.length ≤ defsN ts := sum_len defN_pos ts
 rcases nmAt_lt h with h | ⟨d, hd, h⟩
 · omega
 · obtain ⟨i, hi⟩ := List.mem_iff_getElem?.1 hd
   have := defN_at hi
   have := members_le d
   omega
end Go.Proofs.YtbpgkkoeehopjaaGreat.ty
namespace Go.Proofs.YtbpgkkoeehopjaaGreat.hp
open Go.RowKit Go.Proofs.YtbpgkkoeehopjaaGreat.words Go.Proofs.YtbpgkkoeehopjaaGreat.enc Go.Proofs.YtbpgkkoeehopjaaGreat.tree Go.Proofs.YtbpgkkoeehopjaaGreat.gram Go.Proofs.YtbpgkkoeehopjaaGreat.lex Go.Proofs.YtbpgkkoeehopjaaGreat.rd Go.Proofs.YtbpgkkoeehopjaaGreat.dec Go.Proofs.YtbpgkkoeehopjaaGreat.dat Go.Proofs.YtbpgkkoeehopjaaGreat.held Go.Proofs.YtbpgkkoeehopjaaGreat.ty
set_option maxRecDepth 100000
attribute [local go_sem ↓] Go.wp_at_zero Go.wp_at_succ
theorem kfind_s (l : List (Txt × Value)) (x : Txt) : kfind l x = sfind l x := by
 have e1 : (fun p : Txt × Value => p.1 == x) = fun p => decide (p.1 = x) := by funext p; rw [Bool.eq_iff_iff]; simp
 unfold kfind sfind
 rw [e1]
theorem nmap_kfind (ts : List DefD) (x : Txt) : kfind (nmap (namesD ts)) x = (numOf ts x).map fun i => .int .i64 ((i : Nat) : Int) := (kfind_s _ x).trans (nmap_find (namesD ts) x)
theorem numOf_lt {ts : List DefD} {x : Txt} {i : Nat} (h : numOf ts x = some i) : i < ts.length := by
 obtain ⟨d, hd, _⟩ := numOf_some h
 exact (List.getElem?_eq_some_iff.1 hd).1
section
variable {K : World} {g ga gd gf go : Nat} {sch : List Value} {VT VD : Value} {s : DefD} {ts ds : List DefD}
theorem slice_of {n : Nat} {l : List Leaf} {v : Value} (h : RD K (.list n l) v) : ∃ A c, v = .slice A n c ∧ n ≤ c ∧ c ≤ maxLen := by
 obtain ⟨A, c, vs, h1, h2, h3, _⟩ := reads_list h.reads
 exact ⟨A, c, h1, h2, h3⟩
theorem elem_k {α : Type} {f : α → List Leaf} {m n c k : Nat} {A : Option Addr} {l : List α} {x : α} (hf : ∀ x, (f x).length = m) (h : RD K (.list n (l.flatMap f)) (.slice A n c)) (hk : l[k]? = some x) (hm : 0 < m) :
  ∃ ad vs, A = some ad ∧ RL K (f x) vs ∧ vs.length = m ∧ At K (ad.add (k * m)) vs := by
 obtain ⟨ad, vs, h1, h2, h3, _, h5, h6⟩ := elem_at hf h hk hm
 exact ⟨ad, vs, h1, h2, h3, ⟨h5, h6⟩⟩
end
set_option maxHeartbeats 4000000 in
theorem kind_hp (x : Txt) (g ga gd gf go : Nat) (sch : List Value) (VT VD : Value) (s : DefD) (ts ds : List DefD) (w0 w K : World) (M : List Ent) (H : Hp w0 w K M) (T : TyA K g ga gd gf go sch VT VD s ts ds) :
  Calls Tryz.prog 79 #[.pointer (some ⟨g, 0, none⟩), .string (str x)] w fun e w' => e = .returned (.int .i64 (kindOf ts x)) ∧ Hp w0 w' K M := by
 have hq := nmap_kfind ts x
 have h18 := T.c18
 cases hi : numOf ts x with
 | none =>
  rw [hi] at hq
  have hk : kindOf ts x = 0 := kindOf_none hi
  go_enter Tryz.func79, Tryz.ntmps79
  have cf1 : (w).cell? ⟨g, 18, none⟩ = some (.map (some ga)) := H.kcell T.box h18
  go_upto_region 2 with (first
   | (refine lookup_k (by rfl) (.tmp 11) (.tmp 12) 87 true (by rfl) Tryz.underlying87 (keys_s Tryz.underlying9) (.int .i64 0) zero_int ga (nmap (namesD ts)) (H.kmap T.at_) (by first | rfl | simp [Act.eval, Act.put]) (x) (by first | rfl | simp [Act.eval, Act.put]) (.tuple #[.int .i64 0, .bool false]) (by rw [hq]; rfl) ?_))
  go_wp2_with fail
  go_ret
  exact ⟨by rw [hk]; rfl, H⟩
 | some i =>
  rw [hi] at hq
  obtain ⟨d, hd, -⟩ := numOf_some hi
  have hlt := numOf_lt hi
  have hk : kindOf ts x = d.kind := kindOf_some hi hd
  obtain ⟨A, c, rfl, hc1, hc2⟩ := slice_of T.types
  obtain ⟨ad, vs, rfl, hxd, _, hat⟩ := elem_hp (m := 17) (f := defL) defL_len H T.types hd (by omega)
  obtain ⟨A6, c6, A7, c7, A8, c8, A9, c9, A10, c10, A11, c11, A12, c12, A14, c14, rfl, -, -, -, -, -, -, -, -⟩ := def_cells hxd
  have hcell := hat.1 _ rfl
  clear hat hxd
  have hltI : (i : Int) < (ts.length : Int) := by omega
  have h17 := H.kcell T.box T.c17
  go_enter Tryz.func79, Tryz.ntmps79
  have cf2 : (w).cell? ⟨g, 18, none⟩ = some (.map (some ga)) := H.kcell T.box h18
  go_upto_region 2 with (first
   | (refine lookup_k (by rfl) (.tmp 11) (.tmp 12) 87 true (by rfl) Tryz.underlying87 (keys_s Tryz.underlying9) (.int .i64 0) zero_int ga (nmap (namesD ts)) (H.kmap T.at_) (by first | rfl | simp [Act.eval, Act.put]) (x) (by first | rfl | simp [Act.eval, Act.put]) (.tuple #[.int .i64 (i : Int), .bool true]) (by rw [hq]; rfl) ?_))
  go_wp2_with fail
  go_ret
  exact ⟨by rw [hk]; rfl, H⟩
theorem sch1_hp (d : DefD) (cs : Array Value) (w0 w K : World) (M : List Ent) (H : Hp w0 w K M) (hd : RL K (defL d) cs.toList) :
  Calls Tryz.prog 107 #[.agg cs] w fun e w' => e = .returned (.bool (isSchema d)) ∧ Hp w0 w' K M := by
 obtain ⟨A6, c6, A7, c7, A8, c8, A9, c9, A10, c10, A11, c11, A12, c12, A14, c14, hcs, -, -, -, -, -, -, -, -⟩ := def_cells hd
 clear hd
 have hs : isSchema d = (decide (d.kind = 1) && !d.ext) := rfl
 obtain ⟨kd, hkd⟩ : ∃ kd, d.kind = kd := ⟨_, rfl⟩
 obtain ⟨ex, hex⟩ : ∃ ex, d.ext = ex := ⟨_, rfl⟩
 rw [hs]
 clear hs
 rw [hkd, hex] at hcs ⊢
 clear hkd hex
 obtain rfl : cs = #[.int .i64 kd, .bool ex, .bool d.note.has, .bool d.note.block, .string (str d.note.text), .string (str d.name), .slice A6 d.ifaces.length c6, .slice A7 d.dirs.length c7, .slice A8 d.fields.length c8, .slice A9 d.inputs.length c9, .slice A10 d.members.length c10, .slice A11 d.values.length c11, .slice A12 d.roots.length c12, .bool d.rep, .slice A14 d.places.length c14, .int .i64 d.line, .int .i64 d.col] := Array.toList_inj.1 hcs
 clear hcs
 by_cases h1 : kd = 1
 · subst h1
   go_enter Tryz.func107, Tryz.ntmps107
   go_wp2_with (first
    | (refine box_hp (by rfl) 43 (.tmp 0) (by rfl) [.int .i64 1, .bool ex, .bool d.note.has, .bool d.note.block, .string (str d.note.text), .string (str d.name), .slice A6 d.ifaces.length c6, .slice A7 d.dirs.length c7, .slice A8 d.fields.length c8, .slice A9 d.inputs.length c9, .slice A10 d.members.length c10, .slice A11 d.values.length c11, .slice A12 d.roots.length c12, .bool d.rep, .slice A14 d.places.length c14, .int .i64 d.line, .int .i64 d.col] _ (by rfl) (by rfl) (some 1) (by rfl) H ?_; clear H; intro w1 g1 H hg2; clear hg2; have := H.c 0 0; have := H.c 0 1))
   replace H := H.sub (List.Sublist.cons _ (List.Sublist.refl _))
   go_ret
   exact ⟨by simp, H⟩
 · skip
   go_enter Tryz.func107, Tryz.ntmps107
   go_wp2_with (first
    | (refine box_hp (by rfl) 43 (.tmp 0) (by rfl) [.int .i64 kd, .bool ex, .bool d.note.has, .bool d.note.block, .string (str d.note.text), .string (str d.name), .slice A6 d.ifaces.length c6, .slice A7 d.dirs.length c7, .slice A8 d.fields.length c8, .slice A9 d.inputs.length c9, .slice A10 d.members.length c10, .slice A11 d.values.length c11, .slice A12 d.roots.length c12, .bool d.rep, .slice A14 d.places.length c14, .int .i64 d.line, .int .i64 d.col] _ (by rfl) (by rfl) (some 1) (by rfl) H ?_; clear H; intro w3 g1 H hg4; clear hg4; have := H.c 0 0; have := H.c 0 1))
   replace H := H.sub (List.Sublist.cons _ (List.Sublist.refl _))
   go_ret
   exact ⟨by simp [h1], H⟩
theorem findIdx_at {α : Type} {p : α → Bool} : ∀ {l : List α} {k : Nat} {x : α}, (∀ y ∈ l.take k, p y = false) → l[k]? = some x → p x = true → l.findIdx? p = some k
 | [], k, x, _, h, _ => by simp at h
 | a :: r, 0, x, _, h, hp => by
  simp only [List.getElem?_cons_zero, Option.some.injEq] at h
  subst h
  simp [List.findIdx?_cons, hp]
 | a :: r, k + 1, x, h0, h, hp => by
  have ha : p a = false := h0 a (by simp)
  have := findIdx_at (l := r) (k := k) (fun y hy => h0 y (by rw [List.take_succ_cons]; exact List.mem_cons_of_mem _ hy)) (by simpa using h) hp
  simp [List.findIdx?_cons, ha, this]
theorem findIdx_no {α : Type} {p : α → Bool} {l : List α} (h : ∀ y ∈ l, p y = false) : l.findIdx? p = none := by
 rw [List.findIdx?_eq_none_iff]; exact h
def idxI (o : Option Nat) : Int := match o with | none => -1 | some i => i
set_option maxHeartbeats 4000000 in
theorem schIdx_hp (defs : List DefD) (n c : Nat) (A : Option Addr) (w0 w K : World) (M : List Ent) (H : Hp w0 w K M) (hn : defs.length = n) (hd : RD K (.list n (defsL defs)) (.slice A n c)) (hm : n ≤ 20000000) :
  Calls Tryz.prog 106 #[.slice A n c, .func (.func 107) #[] #[]] w fun e w' => e = .returned (.int .i64 (idxI (defs.findIdx? isSchema))) ∧ Hp w0 w' K M := by
 have HN := hide hn
 clear hn
 go_enter Tryz.func106, Tryz.ntmps106
 go_wp2_with fail
 go_loopw [8] (fun i wr => ∃ k : Nat, k ≤ n ∧ i = .int .i64 k ∧ Hp w0 wr K M ∧ ∀ y ∈ defs.take k, isSchema y = false) (fun i _ => n - (intOf i).toNat)
 case atStart => exact ⟨0, Nat.zero_le _, rfl, H, by simp⟩
 case round =>
  clear H
  obtain ⟨k, hk, rfl, H, hno⟩ := hrel
  by_cases hlt : k < n
  · have hkI : (k : Int) < (n : Int) := by omega
    obtain ⟨x, hx⟩ : ∃ x, defs[k]? = some x := ⟨_, List.getElem?_eq_getElem (by rw [HN.out]; exact hlt)⟩
    have HX := hide hx
    obtain ⟨ad, xs, rfl, hxd, _, hat⟩ := elem_hp (m := 17) (f := defL) defL_len H hd hx (by omega)
    clear hx
    have hsz : (Tryz.prog.info? 43).map (·.size) = some 17 := def_size
    have hxl : xs.length = 17 := hxd.len
    have hno := hide hno
    cases hb : isSchema x with
    | true =>
     go_wp2_with (first
      | ((with_reducible show wpList _ _ _ (_ :: _) _ _); refine wpList_load_at (by rfl) 43 (.tmp 14) (by rfl) (ad.add (k * 17)) (by simp [Act.eval, Act.put]) _ _ hat Tryz.underlying43 rfl (by rw [hxl]; exact hsz) ?_)
      | (go_at_call 107; refine (sch1_hp x xs.toArray _ _ _ _ H hxd).mono ?_; clear H; rintro e w1 ⟨rfl, H⟩; rw [hb]))
     go_ret
     exact ⟨by rw [findIdx_at hno.out HX.out hb]; rfl, H⟩
    | false =>
     go_wp2_with (first
      | ((with_reducible show wpList _ _ _ (_ :: _) _ _); refine wpList_load_at (by rfl) 43 (.tmp 14) (by rfl) (ad.add (k * 17)) (by simp [Act.eval, Act.put]) _ _ hat Tryz.underlying43 rfl (by rw [hxl]; exact hsz) ?_)
      | (go_at_call 107; refine (sch1_hp x xs.toArray _ _ _ _ H hxd).mono ?_; clear H; rintro e w1 ⟨rfl, H⟩; rw [hb]))
     go_roundw
     case rel => exact ⟨k + 1, by omega, by go_num, H, by
      intro y hy
      rw [take_next HX.out] at hy
      rcases List.mem_append.1 hy with hy | hy
      · exact hno.out y hy
      · obtain rfl := List.mem_singleton.1 hy; exact hb⟩
     case measure => simp [intOf]; omega
  · obtain rfl : n = k := by omega
    have htk : defs.take n = defs := by rw [← HN.out]; exact List.take_length
    rw [htk] at hno
    have hno := hide hno
    go_wp2_with fail
    go_ret
    exact ⟨by rw [findIdx_no hno.out]; rfl, H⟩
def rootsK (ts : List DefD) (k : Nat) : List RootD := ((rootN.zipIdx.take k).filter fun p => kindOf ts p.1 == 3).map fun p => ⟨1 + (p.2 : Int), p.1, 0, 0⟩
theorem rootsK_all (ts : List DefD) : rootsK ts 3 = rootsOf ts := rfl
theorem rootsK_next (ts : List DefD) {k : Nat} {x : Txt} (h : rootN[k]? = some x) : rootsK ts (k + 1) = rootsK ts k ++ if kindOf ts x = 3 then [⟨1 + (k : Int), x, 0, 0⟩] else [] := by
 have h1 : rootN.zipIdx[k]? = some (x, k) := by rw [List.getElem?_zipIdx, h]; simp
 unfold rootsK
 rw [List.take_add_one, h1, List.filter_append, List.map_append]
 congr 1
 by_cases h3 : kindOf ts x = 3
 · simp [h3]
 · simp [h3]
theorem roots_snoc {K : World} {l : List RootD} {r : RootD} {vs : List Value} (h : RL K (rootsL l) vs) : RL K (rootsL (l ++ [r])) (vs ++ [.int .i64 r.op, .string (str r.type), .int .i64 r.line, .int .i64 r.col]) := by
 rw [rootsL_app]
 exact h.app (by simp only [rootsL, List.flatMap_cons, List.flatMap_nil, List.append_nil]; exact .lit (.lit (.lit (.lit RL.z))))
def SchP (s : DefD) (w0 K : World) (M : List Ent) (e : Ending) (w' : World) : Prop :=
 ∃ K' cs, e = .returned (.agg cs) ∧ Sat K' K ∧ Hp w0 w' K' M ∧ RL K' (defL s) cs.toList
set_option maxHeartbeats 16000000 in
theorem schNone_hp (defs ts : List DefD) (n c nt ct : Nat) (A Aty : Option Addr) (g ga gd gf go : Nat) (VD : Value) (w0 w K : World) (M : List Ent) (H : Hp w0 w K (tbox g ga gd gf go (.slice Aty nt ct) VD :: M)) (hn : defs.length = n) (hd : RD K (.list n (defsL defs)) (.slice A n c)) (hm : n ≤ 20000000)
  (hnt : ts.length = nt) (ht : RD K (.list nt (defsL ts)) (.slice Aty nt ct)) (hat : Km K ga (kents ks (nmap (namesD ts)))) (hno : defs.findIdx? isSchema = none) :
  Calls Tryz.prog 61 #[.pointer (some ⟨g, 0, none⟩), .slice A n c] w (SchP { zeroSchema with roots := rootsOf ts } w0 K (tbox g ga gd gf go (.slice Aty nt ct) VD :: M)) := by
 have HN := hide hn
 have HNT := hide hnt
 clear hn hnt
 obtain ⟨k0, hk0, k0z, k0s, k0b⟩ := info_parts root_info
 have hM : ∃ M', (tbox g ga gd gf go (.slice Aty nt ct) VD :: M) = M' := ⟨_, rfl⟩
 go_enter Tryz.func61, Tryz.ntmps61
 replace H : Hp _ _ _ (.box _ [_, _, _, _, _, _, _, _, _, _, _, _, _, _, _, _, _, _, _, _, _, _, _] _ :: M) := H
 try dsimp only at H
 have hK := Sat.refl K
 go_upto_region 4 with (first
  | (go_at_call 106; refine (schIdx_hp defs n c A _ _ _ _ H HN.out hd hm).mono ?_; clear H; rintro e w5 ⟨rfl, H⟩; rw [hno]; clear hno; simp only [idxI])
  | ((with_reducible refine isL ?_); first
   | (refine al z43 4 H ?_; clear H; intro w1 g4 H)
   | (refine al z43 6 H ?_; clear H; intro w4 g6 H)
   | (refine sA 6 0 H ?_; clear H; intro w6 H)))
 go_upto_region 5 with (first
  | (refine buildSlice_hp (by rfl) 27 9 3 _ (by rfl) (some 20) (by rfl) Tryz.underlying27 [.string ⟨#[81, 117, 101, 114, 121]⟩, .string ⟨#[77, 117, 116, 97, 116, 105, 111, 110]⟩, .string ⟨#[83, 117, 98, 115, 99, 114, 105, 112, 116, 105, 111, 110]⟩] (by kernel_rfl) H ?_; clear H; intro w7 g20 H; obtain ⟨K2, hle8, H, hnames⟩ := H.freezeBox (n := 3) (ls := textsL rootN) ((rt_s (rt_s (rt_s RL.z)))) (by simp only [maxLen]; omega); replace hd := hd.sat hle8; replace ht := ht.sat hle8; replace hat := hat.sat hle8; replace hK := hle8.trans hK))
 go_wp2_with fail
 go_loopw [22] (fun i wr => ∃ (k : Nat) (V : Value) (vs : List Value), k ≤ 3 ∧ i = .int .i64 k ∧ Hp w0 wr K2 (.row 100 4 V (rootsK ts k).length vs :: .box g6 [.int .i64 1, .bool false, .bool false, .bool false, .string ⟨#[]⟩, .string ⟨#[]⟩, .slice none 0 0, .slice none 0 0, .slice none 0 0, .slice none 0 0, .slice none 0 0, .slice none 0 0, V, .bool false, .slice none 0 0, .int .i64 0, .int .i64 0] 43 :: .box g4 [.int .i64 0, .bool false, .bool false, .bool false, .string ⟨#[]⟩, .string ⟨#[]⟩, .slice none 0 0, .slice none 0 0, .slice none 0 0, .slice none 0 0, .slice none 0 0, .slice none 0 0, .slice none 0 0, .bool false, .slice none 0 0, .int .i64 0, .int .i64 0] 43 :: tbox g ga gd gf go (.slice Aty nt ct) VD :: M) ∧ RL K2 (rootsL (rootsK ts k)) vs) (fun i _ => 3 - (intOf i).toNat)
 case atStart => exact ⟨0, _, [], Nat.zero_le _, rfl, H.nilRow 100 4, RL.z⟩
 case round =>
  clear H
  obtain ⟨k, V, vs, hk, rfl, H, hvs⟩ := hrel
  obtain ⟨Av, cv, rfl, _, _⟩ := H.slice (i := 0) rfl
  have hrl : (rootsK ts k).length ≤ 3 := by unfold rootsK; rw [List.length_map]; exact Nat.le_trans (List.length_filter_le _ _) (by rw [List.length_take]; exact Nat.min_le_right _ _)
  obtain ⟨rs, hrs⟩ : ∃ rs, rootsK ts k = rs := ⟨_, rfl⟩
  by_cases hlt : k < 3
  · have hkI : (k : Int) < (3 : Int) := by omega
    obtain ⟨x, hx⟩ : ∃ x, rootN[k]? = some x := ⟨_, List.getElem?_eq_getElem hlt⟩
    have HE := hide (rootsK_next ts hx)
    rw [hrs] at H hvs HE hrl
    clear hrs
    obtain ⟨ad, had, hc⟩ := elem_text H hnames hx
    injection had with had
    subst had
    rw [add_zero_off] at hc
    clear hx
    have hq := nmap_kfind ts x
    obtain ⟨m, hmr⟩ : ∃ m, rs.length = m := ⟨_, rfl⟩
    have HM := hide hmr
    rw [hmr] at H hrl
    clear hmr
    replace H : Hp _ _ _ (_ :: .box _ [_, _, _, _, _, _, _, _, _, _, _, _, _, _, _, _, _] _ :: .box _ [_, _, _, _, _, _, _, _, _, _, _, _, _, _, _, _, _] _ :: .box _ [_, _, _, _, _, _, _, _, _, _, _, _, _, _, _, _, _, _, _, _, _, _, _] _ :: M) := H
    try dsimp only at H
    cases hi : numOf ts x with
    | none =>
     rw [hi] at hq
     have hk0 : kindOf ts x = 0 := kindOf_none hi
     rw [if_neg (by omega), List.append_nil] at HE
     have := H.c 3 18
     go_upto_region 8 with (first
      | (refine lookup_k (by rfl) (.tmp 31) (.tmp 32) 87 true (by rfl) Tryz.underlying87 (keys_s Tryz.underlying9) (.int .i64 0) zero_int ga (nmap (namesD ts)) (H.kmap hat) (by first | rfl | simp [Act.eval, Act.put]) (x) (by first | rfl | simp [Act.eval, Act.put]) (.tuple #[.int .i64 0, .bool false]) (by rw [hq]; rfl) ?_))
     go_wp2_with fail
     go_roundw
     case rel => exact ⟨k + 1, _, vs, by omega, by go_num, by rw [HE.out, HM.out]; exact H, by rw [HE.out]; exact hvs⟩
     case measure => simp [intOf]; omega
    | some i =>
     rw [hi] at hq
     obtain ⟨d, hd1, -⟩ := numOf_some hi
     have hil := numOf_lt hi
     rw [HNT.out] at hil
     have hkk : kindOf ts x = d.kind := kindOf_some hi hd1
     obtain ⟨ad2, xs, rfl, hxd, _, hat2⟩ := elem_hp (m := 17) (f := defL) defL_len H ht hd1 (by omega)
     obtain ⟨A6, c6, A7, c7, A8, c8, A9, c9, A10, c10, A11, c11, A12, c12, A14, c14, rfl, -, -, -, -, -, -, -, -⟩ := def_cells hxd
     have hcell := hat2.1 _ rfl
     clear hat2 hxd hd1
     rw [hkk] at HE
     clear hkk
     obtain ⟨kd, hkd⟩ : ∃ kd, d.kind = kd := ⟨_, rfl⟩
     rw [hkd] at hcell HE
     clear hkd
     have hiI : (i : Int) < (nt : Int) := by omega
     by_cases h3 : kd = 3
     · subst h3
       rw [if_pos rfl] at HE
       have := H.c 3 18
       go_upto_region 8 with (first
        | (refine lookup_k (by rfl) (.tmp 31) (.tmp 32) 87 true (by rfl) Tryz.underlying87 (keys_s Tryz.underlying9) (.int .i64 0) zero_int ga (nmap (namesD ts)) (H.kmap hat) (by first | rfl | simp [Act.eval, Act.put]) (x) (by first | rfl | simp [Act.eval, Act.put]) (.tuple #[.int .i64 (i : Int), .bool true]) (by rw [hq]; rfl) ?_))
       have := H.c 3 17
       go_upto_region 9 with (fail)
       have := H.c 1 12
       go_upto_region 10 with (first
        | (refine buildSlice_hp (by rfl) 39 100 1 _ (by rfl) (some 54) (by rfl) Tryz.underlying39 [.int .i64 (1 + (k : Int)), .string (str x), .int .i64 0, .int .i64 0] (by kernel_rfl) H ?_; clear H; intro w9 g54 H; have := H.c 2 12)
        | (at_builtin; refine append_hp (by rfl) _ _ 39 (by rfl) 100 k0 _ 4 40 Tryz.underlying39 hk0 k0z k0s k0b (by rfl) (by decide) H 1 (.slice Av m cv) (m) (vs) (by rfl) (by first | rfl | simp [Act.eval, Act.put]) (some ⟨g54, 0, none⟩) 1 1 [.int .i64 (1 + (k : Int)), .string (str x), .int .i64 0, .int .i64 0] (by first | rfl | simp [Act.eval, Act.put]) (by rfl) (H.rd (i := 0) rfl) (by simp [Value.oneCell']) (by simp only [maxLen]; omega) (by omega) ?_; clear H; intro V2 w2 H; replace H : Hp w0 w2 K2 (.box g54 [.int .i64 (1 + (k : Int)), .string (str x), .int .i64 0, .int .i64 0] 100 :: .row 100 4 (V2) (m + 1) (vs ++ [.int .i64 (1 + (k : Int)), .string (str x), .int .i64 0, .int .i64 0]) :: .box g6 [.int .i64 1, .bool false, .bool false, .bool false, .string ⟨#[]⟩, .string ⟨#[]⟩, .slice none 0 0, .slice none 0 0, .slice none 0 0, .slice none 0 0, .slice none 0 0, .slice none 0 0, .slice Av m cv, .bool false, .slice none 0 0, .int .i64 0, .int .i64 0] 43 :: .box g4 [.int .i64 0, .bool false, .bool false, .bool false, .string ⟨#[]⟩, .string ⟨#[]⟩, .slice none 0 0, .slice none 0 0, .slice none 0 0, .slice none 0 0, .slice none 0 0, .slice none 0 0, .slice none 0 0, .bool false, .slice none 0 0, .int .i64 0, .int .i64 0] 43 :: .box g [.int .i64 0, .bool false, .bool false, .bool false, .string ⟨#[]⟩, .string ⟨#[]⟩, .slice none 0 0, .slice none 0 0, .slice none 0 0, .slice none 0 0, .slice none 0 0, .slice none 0 0, .slice none 0 0, .bool false, .slice none 0 0, .int .i64 0, .int .i64 0, .slice (some ad2) nt ct, .map (some ga), VD, .map (some gd), .map (some gf), .map (some go)] 91 :: M) := H; obtain ⟨V2A, V2c, rfl, V2l, V2m⟩ := H.slice (i := 1) rfl; have := H.c 2 12)
        | ((with_reducible refine isL ?_); first
         | (refine s1 56 2 (.slice V2A (m + 1) V2c) H ?_; clear H; intro w10 H; have := H.c 2 12)))
       replace H := H.sub (List.Sublist.cons _ (List.Sublist.cons_cons _ (List.Sublist.cons_cons _ (List.Sublist.cons_cons _ (List.Sublist.cons_cons _ (List.Sublist.refl _))))))
       go_wp2_with fail
       go_roundw
       case rel => exact ⟨k + 1, _, _, by omega, by go_num, by rw [HE.out]; simp only [List.length_append, List.length_cons, List.length_nil, HM.out]; exact H, by rw [HE.out]; exact roots_snoc hvs⟩
       case measure => simp [intOf]; omega
     · rw [if_neg h3, List.append_nil] at HE
       have := H.c 3 18
       go_upto_region 8 with (first
        | (refine lookup_k (by rfl) (.tmp 31) (.tmp 32) 87 true (by rfl) Tryz.underlying87 (keys_s Tryz.underlying9) (.int .i64 0) zero_int ga (nmap (namesD ts)) (H.kmap hat) (by first | rfl | simp [Act.eval, Act.put]) (x) (by first | rfl | simp [Act.eval, Act.put]) (.tuple #[.int .i64 (i : Int), .bool true]) (by rw [hq]; rfl) ?_))
       have := H.c 3 17
       go_upto_region 9 with (fail)
       go_wp2_with fail
       go_roundw
       case rel => exact ⟨k + 1, _, vs, by omega, by go_num, by rw [HE.out, HM.out]; exact H, by rw [HE.out]; exact hvs⟩
       case measure => simp [intOf]; omega
  · obtain rfl : k = 3 := by omega
    rw [rootsK_all] at H hvs hrs
    clear hrs
    replace H : Hp _ _ _ (_ :: .box _ [_, _, _, _, _, _, _, _, _, _, _, _, _, _, _, _, _] _ :: .box _ [_, _, _, _, _, _, _, _, _, _, _, _, _, _, _, _, _] _ :: .box _ [_, _, _, _, _, _, _, _, _, _, _, _, _, _, _, _, _, _, _, _, _, _, _] _ :: M) := H
    try dsimp only at H
    go_upto_region 11 with (fail)
    go_wp2_with (first
     | ((with_reducible refine isL ?_); first
      | (refine ld 6 1 17 Tryz.underlying43 H ?_)
      | (refine sA 4 2 H ?_; clear H; intro w11 H)))
    refine bodyPost_ret (v := .agg #[.int .i64 1, .bool false, .bool false, .bool false, .string ⟨#[]⟩, .string ⟨#[]⟩, .slice none 0 0, .slice none 0 0, .slice none 0 0, .slice none 0 0, .slice none 0 0, .slice none 0 0, .slice Av (rootsOf ts).length cv, .bool false, .slice none 0 0, .int .i64 0, .int .i64 0]) (results_cell_row rfl _ _ g4 43 _ (0, 0) _ (by rfl) (H.blkAt (i := 2) rfl) Tryz.underlying43 rfl (by kernel_rfl)) rfl ?_
    replace H := H.sub (List.Sublist.cons_cons _ (List.Sublist.cons _ (List.Sublist.cons _ (List.Sublist.cons_cons _ (List.Sublist.refl _)))))
    obtain ⟨K', hle, H, hv⟩ := H.freezeRow hvs
    exact ⟨K', _, rfl, hle.trans hK, H, .lit (.lit (.lit (.lit (.lit (.lit (.cons RD.z (.cons RD.z (.cons RD.z (.cons RD.z (.cons RD.z (.cons RD.z (.cons hv (.lit (.cons RD.z (.lit (.lit RL.z))))))))))))))))⟩
set_option maxHeartbeats 16000000 in
theorem schSome_hp (defs : List DefD) (d : DefD) (i0 n c : Nat) (A : Option Addr) (g : Nat) (w0 w K : World) (M : List Ent) (H : Hp w0 w K M) (hn : defs.length = n) (hd : RD K (.list n (defsL defs)) (.slice A n c)) (hm : defsN defs ≤ 3000000)
  (hat0 : defs[i0]? = some d) (hi0 : defs.findIdx? isSchema = some i0) :
  Calls Tryz.prog 61 #[.pointer (some ⟨g, 0, none⟩), .slice A n c] w (SchP (defs.foldl schStep d) w0 K M) := by
 have hnl : n ≤ 3000000 := by have := sum_len defN_pos defs; unfold defsN at hm; omega
 have hdn := defN_at hat0
 have hlt0 : i0 < n := by have := (List.getElem?_eq_some_iff.1 hat0).1; omega
 have hlt0I : (i0 : Int) < (n : Int) := by omega
 have hneg : ¬ ((i0 : Int) < 0) := by omega
 have HN := hide hn
 clear hn
 obtain ⟨k1, hk1, k1z, k1s, k1b⟩ := info_parts dir_info
 obtain ⟨k6, hk6, k6z, k6s, k6b⟩ := info_parts root_info
 have hsz : (Tryz.prog.info? 43).map (·.size) = some 17 := def_size
 obtain ⟨ad, xs, rfl, hxd, hxl, hatK⟩ := elem_k (m := 17) (f := defL) defL_len hd hat0 (by omega)
 have hdm : defN d ≤ 9000000 := by omega
 go_enter Tryz.func61, Tryz.ntmps61
 have hK := Sat.refl K
 go_upto_region 2 with (first
  | (go_at_call 106; refine (schIdx_hp defs n c (some ad) _ _ _ _ H HN.out hd (by omega)).mono ?_; clear H; rintro e w5 ⟨rfl, H⟩; rw [hi0]; simp only [idxI])
  | ((with_reducible refine isL ?_); first
   | (refine al z43 4 H ?_; clear H; intro w1 g4 H)))
 go_upto_region 12 with (fail)
 go_upto_region 13 with (first
  | (go_at_call 65; refine (copyDef_rows d xs.toArray H hdm hxd).mono ?_; clear H; rintro e w6 ⟨K6, V, rfl, hle, H, hV⟩; replace hd := hd.sat hle; replace hK := hle.trans hK; have ho := dv_one H; replace H : Hp _ _ _ (_ :: _ :: _ :: _ :: _ :: _ :: _ :: _ :: _ :: M) := H)
  | ((with_reducible show wpList _ _ _ (_ :: _) _ _); refine wpList_load_at (by rfl) 43 (.tmp 61) (by rfl) (ad.add (i0 * 17)) (by simp [Act.eval, Act.put]) _ _ (At.sat hatK H.sat) Tryz.underlying43 rfl (by rw [hxl]; exact hsz) ?_)
  | ((with_reducible refine isL ?_); first
   | (refine al z43 11 H ?_; clear H; intro w5 g11 H)
   | (refine sA 11 0 H ?_; clear H; intro w7 H)))
 clear hatK hxd ho
 go_wp2_with fail
 go_loopw [66] (fun i wr => ∃ (k : Nat) (K7 : World) (s : DefD) (V : DV), k ≤ n ∧ i = .int .i64 k ∧ (defs.take k).foldl schStep d = s ∧ Sat K7 K ∧ V.ok K7 s ∧ RD K7 (.list n (defsL defs)) (.slice (some ad) n c) ∧ Hp w0 wr K7 (.box g11 (DV.cells s V) 43 :: (DV.rows s V ++ (.box g4 [.int .i64 0, .bool false, .bool false, .bool false, .string ⟨#[]⟩, .string ⟨#[]⟩, .slice none 0 0, .slice none 0 0, .slice none 0 0, .slice none 0 0, .slice none 0 0, .slice none 0 0, .slice none 0 0, .bool false, .slice none 0 0, .int .i64 0, .int .i64 0] 43 :: M)))) (fun i _ => n - (intOf i).toNat)
 case atStart => exact ⟨0, K6, d, V, Nat.zero_le _, rfl, rfl, hK, hV, hd, H⟩
 case round =>
  clear H hV hd hK
  obtain ⟨k, K7, s, V, hk, rfl, hs, hK, hV, hd, H⟩ := hrel
  have hsN : defN s ≤ 9000000 := by
   have h1 := fold_schN (defs.take k) d
   have h2 := sum_take (f := defN) defs k
   rw [hs] at h1
   unfold defsN at h1 hm hdn
   omega
  by_cases hlt : k < n
  · have hkI : (k : Int) < (n : Int) := by omega
    obtain ⟨x, hx⟩ : ∃ x, defs[k]? = some x := ⟨_, List.getElem?_eq_getElem (by rw [HN.out]; exact hlt)⟩
    have HE := hide (fold_next hx schStep d)
    rw [hs] at HE
    clear hs
    obtain ⟨ad', xs, had, hxd, hxl, hatK⟩ := elem_k (m := 17) (f := defL) defL_len hd hx (by omega)
    injection had with had
    subst had
    have hxN := defN_at hx
    clear hx
    have hxm : defN x ≤ 9000000 := by omega
    have hxdK := hxd
    obtain ⟨A6, c6, A7, c7, A8, c8, A9, c9, A10, c10, A11, c11, A12, c12, A14, c14, hxs, -, -, -, -, -, -, -, -⟩ := def_cells hxdK
    clear hxdK
    obtain ⟨kd, hkd⟩ : ∃ kd, x.kind = kd := ⟨_, rfl⟩
    obtain ⟨ex, hex⟩ : ∃ ex, x.ext = ex := ⟨_, rfl⟩
    rw [hkd, hex] at hxs
    have HS := hide (show schStep s x = if kd = 1 ∧ ex = true then { s with dirs := s.dirs ++ x.dirs, roots := s.roots ++ x.roots } else s by rw [← hkd, ← hex]; rfl)
    have HKD := hide hkd
    have HEX := hide hex
    clear hkd hex
    subst hxs
    obtain ⟨V8, V11, V6, V10, V14, V12, V9, V7, x8, x11, x6, x10, x14, x12, x9, x7⟩ := V
    replace H : Hp _ _ _ (.box _ [_, _, _, _, _, _, _, _, _, _, _, _, _, _, _, _, _] _ :: _ :: _ :: _ :: _ :: _ :: _ :: _ :: _ :: .box _ [_, _, _, _, _, _, _, _, _, _, _, _, _, _, _, _, _] _ :: M) := H
    try dsimp only at H
    by_cases h1 : kd = 1
    · subst h1
      cases ex with
      | true =>
       have HS2 := hide (HS.out.trans (if_pos ⟨rfl, rfl⟩))
       clear HS
       go_upto_region 17 with (first
        | ((with_reducible show wpList _ _ _ (_ :: _) _ _); refine wpList_load_at (by rfl) 43 (.tmp 68) (by rfl) (ad.add (k * 17)) (by simp [Act.eval, Act.put]) _ _ (At.sat hatK H.sat) Tryz.underlying43 rfl hsz ?_)
        | ((with_reducible refine isL ?_); first
         | (refine al z43 13 H ?_; clear H; intro w8 g13 H; have := H.c 0 0; have := H.c 0 1)
         | (refine sA 13 0 H ?_; clear H; intro w10 H; have := H.c 0 0; have := H.c 0 1)))
       go_upto_region 18 with (first
        | (go_at_call 65; refine (copyDef_hp x _ H hxm hxd).mono ?_; clear H; rintro e w8 ⟨K8, cs8, rfl, hle, H, hd8⟩; replace hd := hd.sat hle; replace hV := hV.sat hle; replace hxd := hxd.sat hle; replace hK := hle.trans hK; obtain ⟨D6, f6, D7, f7, D8, f8, D9, f9, D10, f10, D11, f11, D12, f12, D14, f14, hcs5, e6, e7, e8, e9, e10, e11, e12, e14⟩ := def_cells hd8; obtain rfl : cs8 = #[.int .i64 x.kind, .bool x.ext, .bool x.note.has, .bool x.note.block, .string (str x.note.text), .string (str x.name), .slice D6 x.ifaces.length f6, .slice D7 x.dirs.length f7, .slice D8 x.fields.length f8, .slice D9 x.inputs.length f9, .slice D10 x.members.length f10, .slice D11 x.values.length f11, .slice D12 x.roots.length f12, .bool x.rep, .slice D14 x.places.length f14, .int .i64 x.line, .int .i64 x.col] := Array.toList_inj.1 hcs5; clear hcs5 hd8)
        | ((with_reducible refine isL ?_); first
         | (refine ld 13 0 17 Tryz.underlying43 H ?_)
         | (refine al z43 14 H ?_; clear H; intro w12 g14 H)
         | (refine sA 14 0 H ?_; clear H; intro w14 H)))
       clear hatK
       have hl7 := sum_len dirN_pos s.dirs
       have hx7 := sum_len dirN_pos x.dirs
       have hb7 : s.dirs.length + x.dirs.length ≤ 20000000 := by unfold defN at hsN hxm; omega
       have hb12 : s.roots.length + x.roots.length ≤ 20000000 := by unfold defN at hsN hxm; omega
       clear hl7 hx7
       have := H.c 2 7
       have := H.c 0 7
       go_upto_region 19 with (first
        | (at_builtin; refine ap 10 e35 e7 (dirsL_len x.dirs) H ?_; clear H; intro us15 U7A U7c u7 hus15 lus15 _ _ H; dsimp only [List.set] at H; have := H.c 2 7; have := H.c 0 7)
        | ((with_reducible refine isL ?_); first
         | (refine s1 84 2 (.slice U7A (s.dirs.length + x.dirs.length) U7c) H ?_; clear H; intro w16 H; have := H.c 2 7; have := H.c 0 7)))
       have := H.c 2 12
       have := H.c 0 12
       go_upto_region 20 with (first
        | (at_builtin; refine ap 8 e39 e12 (rootsL_len x.roots) H ?_; clear H; intro us17 U12A U12c u12 hus17 lus17 _ _ H; dsimp only [List.set] at H; have := H.c 2 12; have := H.c 0 12)
        | ((with_reducible refine isL ?_); first
         | (refine s1 90 2 (.slice U12A (s.roots.length + x.roots.length) U12c) H ?_; clear H; intro w18 H; have := H.c 2 12; have := H.c 0 12)))
       replace H := H.sub (List.Sublist.cons _ (List.Sublist.cons _ (List.Sublist.cons_cons _ (List.Sublist.cons_cons _ (List.Sublist.cons_cons _ (List.Sublist.cons_cons _ (List.Sublist.cons_cons _ (List.Sublist.cons_cons _ (List.Sublist.cons_cons _ (List.Sublist.cons_cons _ (List.Sublist.cons_cons _ (List.Sublist.cons_cons _ (List.Sublist.refl _)))))))))))))
       go_wp2_with fail
       go_roundw
       case rel =>
        simp only [← List.length_append] at H
        refine ⟨k + 1, K8, { s with dirs := s.dirs ++ x.dirs, roots := s.roots ++ x.roots }, ⟨_, _, _, _, _, _, _, _, _, _, _, _, _, _, _, _⟩, by omega, by go_num, by rw [HE.out, HS2.out], hK, ?_, hd, H⟩
        exact ⟨hV.r8, hV.r11, hV.r6, hV.r10, hV.r14, by dsimp only; rw [rootsL_app]; exact hV.r12.app (by assumption), hV.r9, by dsimp only; rw [dirsL_app]; exact hV.r7.app (by assumption)⟩
       case measure => simp [intOf]; omega
      | false =>
       have HS2 := hide (HS.out.trans (if_neg (by simp)))
       clear HS
       go_upto_region 17 with (first
        | ((with_reducible show wpList _ _ _ (_ :: _) _ _); refine wpList_load_at (by rfl) 43 (.tmp 68) (by rfl) (ad.add (k * 17)) (by simp [Act.eval, Act.put]) _ _ (At.sat hatK H.sat) Tryz.underlying43 rfl hsz ?_)
        | ((with_reducible refine isL ?_); first
         | (refine al z43 13 H ?_; clear H; intro w19 g13 H; have := H.c 0 0; have := H.c 0 1)
         | (refine sA 13 0 H ?_; clear H; intro w21 H; have := H.c 0 0; have := H.c 0 1)))
       replace H := H.sub (List.Sublist.cons _ (List.Sublist.cons_cons _ (List.Sublist.cons_cons _ (List.Sublist.cons_cons _ (List.Sublist.cons_cons _ (List.Sublist.cons_cons _ (List.Sublist.cons_cons _ (List.Sublist.cons_cons _ (List.Sublist.cons_cons _ (List.Sublist.cons_cons _ (List.Sublist.cons_cons _ (List.Sublist.refl _))))))))))))
       go_wp2_with fail
       go_roundw
       case rel => exact ⟨k + 1, K7, s, ⟨V8, V11, V6, V10, V14, V12, V9, V7, x8, x11, x6, x10, x14, x12, x9, x7⟩, by omega, by go_num, by rw [HE.out, HS2.out], hK, hV, hd, H⟩
       case measure => simp [intOf]; omega
    · have HS2 := hide (HS.out.trans (if_neg (fun h => h1 h.1)))
      clear HS
      go_upto_region 17 with (first
       | ((with_reducible show wpList _ _ _ (_ :: _) _ _); refine wpList_load_at (by rfl) 43 (.tmp 68) (by rfl) (ad.add (k * 17)) (by simp [Act.eval, Act.put]) _ _ (At.sat hatK H.sat) Tryz.underlying43 rfl hsz ?_)
       | ((with_reducible refine isL ?_); first
        | (refine al z43 13 H ?_; clear H; intro w22 g13 H; have := H.c 0 0; have := H.c 0 1)
        | (refine sA 13 0 H ?_; clear H; intro w24 H; have := H.c 0 0; have := H.c 0 1)))
      replace H := H.sub (List.Sublist.cons _ (List.Sublist.cons_cons _ (List.Sublist.cons_cons _ (List.Sublist.cons_cons _ (List.Sublist.cons_cons _ (List.Sublist.cons_cons _ (List.Sublist.cons_cons _ (List.Sublist.cons_cons _ (List.Sublist.cons_cons _ (List.Sublist.cons_cons _ (List.Sublist.cons_cons _ (List.Sublist.refl _))))))))))))
      go_wp2_with fail
      go_roundw
      case rel => exact ⟨k + 1, K7, s, ⟨V8, V11, V6, V10, V14, V12, V9, V7, x8, x11, x6, x10, x14, x12, x9, x7⟩, by omega, by go_num, by rw [HE.out, HS2.out], hK, hV, hd, H⟩
      case measure => simp [intOf]; omega
  · obtain rfl : n = k := by omega
    have htk : defs.take n = defs := by rw [← HN.out]; exact List.take_length
    rw [htk] at hs
    clear htk
    have HS := hide hs
    clear hs
    have ho := dv_one H.tail
    obtain ⟨V8, V11, V6, V10, V14, V12, V9, V7, x8, x11, x6, x10, x14, x12, x9, x7⟩ := V
    replace H : Hp _ _ _ (.box _ [_, _, _, _, _, _, _, _, _, _, _, _, _, _, _, _, _] _ :: _ :: _ :: _ :: _ :: _ :: _ :: _ :: _ :: .box _ [_, _, _, _, _, _, _, _, _, _, _, _, _, _, _, _, _] _ :: M) := H
    try dsimp only at H
    go_upto_region 21 with (fail)
    go_wp2_with (first
     | ((with_reducible refine isL ?_); first
      | (refine ld 11 0 17 Tryz.underlying43 H ?_)
      | (refine sA 4 9 H ?_; clear H; intro w25 H)))
    refine bodyPost_ret (v := .agg #[.int .i64 s.kind, .bool s.ext, .bool s.note.has, .bool s.note.block, .string (str s.note.text), .string (str s.name), V6, V7, V8, V9, V10, V11, V12, .bool s.rep, V14, .int .i64 s.line, .int .i64 s.col]) (results_cell_row rfl _ _ g4 43 _ (0, 0) _ (by rfl) (H.blkAt (i := 9) rfl) Tryz.underlying43 rfl (by kernel_rfl)) rfl ?_
    replace H := H.sub (List.Sublist.cons _ (List.Sublist.cons_cons _ (List.Sublist.cons_cons _ (List.Sublist.cons_cons _ (List.Sublist.cons_cons _ (List.Sublist.cons_cons _ (List.Sublist.cons_cons _ (List.Sublist.cons_cons _ (List.Sublist.cons_cons _ (List.Sublist.cons _ (List.Sublist.refl _)))))))))))
    obtain ⟨K', hle, H, hv⟩ := Hp.freezeDef H hV
    exact ⟨K', _, rfl, hle.trans hK, H, by rw [HS.out]; exact hv⟩
end Go.Proofs.YtbpgkkoeehopjaaGreat.hp
namespace Go.Proofs.YtbpgkkoeehopjaaGreat.hp
open Go.RowKit Go.Proofs.YtbpgkkoeehopjaaGreat.words Go.Proofs.YtbpgkkoeehopjaaGreat.enc Go.Proofs.YtbpgkkoeehopjaaGreat.tree Go.Proofs.YtbpgkkoeehopjaaGreat.gram Go.Proofs.YtbpgkkoeehopjaaGreat.lex Go.Proofs.YtbpgkkoeehopjaaGreat.rd Go.Proofs.YtbpgkkoeehopjaaGreat.dec Go.Proofs.YtbpgkkoeehopjaaGreat.dat Go.Proofs.YtbpgkkoeehopjaaGreat.held
set_option maxRecDepth 100000
attribute [local go_sem ↓] Go.wp_at_zero Go.wp_at_succ
set_option maxHeartbeats 16000000 in
theorem merged_hp (d more : DefD) (V : DV) (cs2 : Array Value) (w0 w K : World) (M : List Ent) (H : Hp w0 w K (DV.rows d V ++ M)) (hV : V.ok K d) (hm : defN d + defN more ≤ 9000000) (hd2 : RL K (defL more) cs2.toList) :
  Calls Tryz.prog 60 #[.agg (DV.cells d V).toArray, .agg cs2] w fun e w' => ∃ K' V', e = .returned (.agg (DV.cells (mergeD d more) V').toArray) ∧ Sat K' K ∧ Hp w0 w' K' (DV.rows (mergeD d more) V' ++ M) ∧ V'.ok K' (mergeD d more) := by
 obtain ⟨V8, V11, V6, V10, V14, V12, V9, V7, x8, x11, x6, x10, x14, x12, x9, x7⟩ := V
 obtain ⟨C6, e6, C7, e7, C8, e8, C9, e9, C10, e10, C11, e11, C12, e12, C14, e14, hcs, -, -, -, -, -, -, -, -⟩ := def_cells hd2
 obtain ⟨k0, hk0, k0z, k0s, k0b⟩ := info_parts Go.Proofs.YtbpgkkoeehopjaaGreat.dat.named_info
 obtain ⟨k1, hk1, k1z, k1s, k1b⟩ := info_parts dir_info
 obtain ⟨k2, hk2, k2z, k2s, k2b⟩ := info_parts field_info
 obtain ⟨k3, hk3, k3z, k3s, k3b⟩ := info_parts input_info
 obtain ⟨k5, hk5, k5z, k5s, k5b⟩ := info_parts value_info
 obtain ⟨k6, hk6, k6z, k6s, k6b⟩ := info_parts root_info
 have hmc : defN more ≤ 9000000 := by omega
 simp only [defN] at hm
 have hld7 := sum_len dirN_pos d.dirs
 have hld8 := sum_len fieldN_pos d.fields
 have hld9 := sum_len inputN_pos d.inputs
 have hld11 := sum_len valueN_pos d.values
 have hlmore7 := sum_len dirN_pos more.dirs
 have hlmore8 := sum_len fieldN_pos more.fields
 have hlmore9 := sum_len inputN_pos more.inputs
 have hlmore11 := sum_len valueN_pos more.values
 obtain rfl : cs2 = #[.int .i64 more.kind, .bool more.ext, .bool more.note.has, .bool more.note.block, .string (str more.note.text), .string (str more.name), .slice C6 more.ifaces.length e6, .slice C7 more.dirs.length e7, .slice C8 more.fields.length e8, .slice C9 more.inputs.length e9, .slice C10 more.members.length e10, .slice C11 more.values.length e11, .slice C12 more.roots.length e12, .bool more.rep, .slice C14 more.places.length e14, .int .i64 more.line, .int .i64 more.col] := Array.toList_inj.1 hcs
 go_enter Tryz.func60, Tryz.ntmps60
 replace H : Hp _ _ _ (_ :: _ :: _ :: _ :: _ :: _ :: _ :: _ :: M) := H
 try dsimp only at H
 obtain ⟨V14A, V14c, rfl, _, _⟩ := H.slice (i := 4) rfl
 have hK := Sat.refl K
 go_upto_region 2 with (first
  | (refine box_hp (by rfl) 43 (.tmp 0) (by rfl) [.int .i64 d.kind, .bool d.ext, .bool d.note.has, .bool d.note.block, .string (str d.note.text), .string (str d.name), V6, V7, V8, V9, V10, V11, V12, .bool d.rep, .slice V14A d.places.length V14c, .int .i64 d.line, .int .i64 d.col] _ (by rfl) (by rfl) (some 2) (by rfl) H ?_; clear H; intro w1 g2 H hg2; clear hg2)
  | (refine box_hp (by rfl) 43 (.tmp 1) (by rfl) [.int .i64 more.kind, .bool more.ext, .bool more.note.has, .bool more.note.block, .string (str more.note.text), .string (str more.name), .slice C6 more.ifaces.length e6, .slice C7 more.dirs.length e7, .slice C8 more.fields.length e8, .slice C9 more.inputs.length e9, .slice C10 more.members.length e10, .slice C11 more.values.length e11, .slice C12 more.roots.length e12, .bool more.rep, .slice C14 more.places.length e14, .int .i64 more.line, .int .i64 more.col] _ (by rfl) (by rfl) (some 3) (by rfl) H ?_; clear H; intro w3 g3 H hg4; clear hg4)
  | (go_at_call 65; refine (copyDef_hp more _ H hmc hd2).mono ?_; clear H; rintro e w5 ⟨K5, cs5, rfl, hle, H, hd5⟩; replace hd2 := hd2.sat hle; replace hV := hV.sat hle; replace hK := hle.trans hK; obtain ⟨D6, f6, D7, f7, D8, f8, D9, f9, D10, f10, D11, f11, D12, f12, D14, f14, hcs5, h6, h7, h8, h9, h10, h11, h12, h14⟩ := def_cells hd5; obtain rfl : cs5 = #[.int .i64 more.kind, .bool more.ext, .bool more.note.has, .bool more.note.block, .string (str more.note.text), .string (str more.name), .slice D6 more.ifaces.length f6, .slice D7 more.dirs.length f7, .slice D8 more.fields.length f8, .slice D9 more.inputs.length f9, .slice D10 more.members.length f10, .slice D11 more.values.length f11, .slice D12 more.roots.length f12, .bool more.rep, .slice D14 more.places.length f14, .int .i64 more.line, .int .i64 more.col] := Array.toList_inj.1 hcs5; clear hcs5 hd5)
  | ((with_reducible refine isL ?_); first
   | (refine al z43 4 H ?_; clear H; intro w5 g4 H)
   | (refine ld 3 1 17 Tryz.underlying43 H ?_)
   | (refine sA 3 1 H ?_; clear H; intro w8 H)))
 have := H.c 2 6
 have := H.c 1 6
 go_upto_region 3 with (first
  | (at_builtin; refine ap 5 e34 h6 (namedsL_len more.ifaces) H ?_; clear H; intro us9 U6A U6c u6 hus9 lus9 _ _ H; dsimp only [List.set] at H; have := H.c 2 6; have := H.c 1 6)
  | ((with_reducible refine isL ?_); first
   | (refine s1 12 2 (.slice U6A (d.ifaces.length + more.ifaces.length) U6c) H ?_; clear H; intro w10 H; have := H.c 2 6; have := H.c 1 6)))
 have := H.c 2 7
 have := H.c 1 7
 go_upto_region 4 with (first
  | (at_builtin; refine ap 10 e35 h7 (dirsL_len more.dirs) H ?_; clear H; intro us11 U7A U7c u7 hus11 lus11 _ _ H; dsimp only [List.set] at H; have := H.c 2 7; have := H.c 1 7)
  | ((with_reducible refine isL ?_); first
   | (refine s1 18 2 (.slice U7A (d.dirs.length + more.dirs.length) U7c) H ?_; clear H; intro w12 H; have := H.c 2 7; have := H.c 1 7)))
 have := H.c 2 8
 have := H.c 1 8
 go_upto_region 5 with (first
  | (at_builtin; refine ap 3 e36 h8 (fieldsL_len more.fields) H ?_; clear H; intro us13 U8A U8c u8 hus13 lus13 _ _ H; dsimp only [List.set] at H; have := H.c 2 8; have := H.c 1 8)
  | ((with_reducible refine isL ?_); first
   | (refine s1 24 2 (.slice U8A (d.fields.length + more.fields.length) U8c) H ?_; clear H; intro w14 H; have := H.c 2 8; have := H.c 1 8)))
 have := H.c 2 9
 have := H.c 1 9
 go_upto_region 6 with (first
  | (at_builtin; refine ap 9 e37 h9 (inputsL_len more.inputs) H ?_; clear H; intro us15 U9A U9c u9 hus15 lus15 _ _ H; dsimp only [List.set] at H; have := H.c 2 9; have := H.c 1 9)
  | ((with_reducible refine isL ?_); first
   | (refine s1 30 2 (.slice U9A (d.inputs.length + more.inputs.length) U9c) H ?_; clear H; intro w16 H; have := H.c 2 9; have := H.c 1 9)))
 have := H.c 2 10
 have := H.c 1 10
 go_upto_region 7 with (first
  | (at_builtin; refine ap 6 e34 h10 (namedsL_len more.members) H ?_; clear H; intro us17 U10A U10c u10 hus17 lus17 _ _ H; dsimp only [List.set] at H; have := H.c 2 10; have := H.c 1 10)
  | ((with_reducible refine isL ?_); first
   | (refine s1 36 2 (.slice U10A (d.members.length + more.members.length) U10c) H ?_; clear H; intro w18 H; have := H.c 2 10; have := H.c 1 10)))
 have := H.c 2 11
 have := H.c 1 11
 go_upto_region 8 with (first
  | (at_builtin; refine ap 4 e38 h11 (valuesL_len more.values) H ?_; clear H; intro us19 U11A U11c u11 hus19 lus19 _ _ H; dsimp only [List.set] at H; have := H.c 2 11; have := H.c 1 11)
  | ((with_reducible refine isL ?_); first
   | (refine s1 42 2 (.slice U11A (d.values.length + more.values.length) U11c) H ?_; clear H; intro w20 H; have := H.c 2 11; have := H.c 1 11)))
 have := H.c 2 12
 have := H.c 1 12
 go_upto_region 9 with (first
  | (at_builtin; refine ap 8 e39 h12 (rootsL_len more.roots) H ?_; clear H; intro us21 U12A U12c u12 hus21 lus21 _ _ H; dsimp only [List.set] at H; have := H.c 2 12; have := H.c 1 12)
  | ((with_reducible refine isL ?_); first
   | (refine s1 48 2 (.slice U12A (d.roots.length + more.roots.length) U12c) H ?_; clear H; intro w22 H; have := H.c 2 12; have := H.c 1 12)))
 go_wp2_with (first
  | ((with_reducible refine isL ?_); first
   | (refine ld 2 2 17 Tryz.underlying43 H ?_)
   | (refine sA 4 0 H ?_; clear H; intro w23 H)))
 refine bodyPost_ret (v := .agg #[.int .i64 d.kind, .bool d.ext, .bool d.note.has, .bool d.note.block, .string (str d.note.text), .string (str d.name), .slice U6A (d.ifaces.length + more.ifaces.length) U6c, .slice U7A (d.dirs.length + more.dirs.length) U7c, .slice U8A (d.fields.length + more.fields.length) U8c, .slice U9A (d.inputs.length + more.inputs.length) U9c, .slice U10A (d.members.length + more.members.length) U10c, .slice U11A (d.values.length + more.values.length) U11c, .slice U12A (d.roots.length + more.roots.length) U12c, .bool d.rep, .slice V14A d.places.length V14c, .int .i64 d.line, .int .i64 d.col]) (results_cell_row rfl _ _ g4 43 _ (0, 0) _ (by rfl) (H.blkAt (i := 0) rfl) Tryz.underlying43 rfl (by kernel_rfl)) rfl ?_
 replace H := H.sub (List.Sublist.cons _ (List.Sublist.cons _ (List.Sublist.cons _ (List.Sublist.cons_cons _ (List.Sublist.cons_cons _ (List.Sublist.cons_cons _ (List.Sublist.cons_cons _ (List.Sublist.cons_cons _ (List.Sublist.cons_cons _ (List.Sublist.cons_cons _ (List.Sublist.cons_cons _ (List.Sublist.refl _))))))))))))
 simp only [← List.length_append] at H ⊢
 refine ⟨K5, ⟨_, _, _, _, _, _, _, _, _, _, _, _, _, _, _, _⟩, rfl, hK, H, ?_⟩
 exact ⟨by dsimp only [mergeD]; rw [fieldsL_app]; exact hV.r8.app (by assumption), by dsimp only [mergeD]; rw [valuesL_app]; exact hV.r11.app (by assumption), by dsimp only [mergeD]; rw [namedsL_app]; exact hV.r6.app (by assumption), by dsimp only [mergeD]; rw [namedsL_app]; exact hV.r10.app (by assumption), hV.r14, by dsimp only [mergeD]; rw [rootsL_app]; exact hV.r12.app (by assumption), by dsimp only [mergeD]; rw [inputsL_app]; exact hV.r9.app (by assumption), by dsimp only [mergeD]; rw [dirsL_app]; exact hV.r7.app (by assumption)⟩
end Go.Proofs.YtbpgkkoeehopjaaGreat.hp
namespace Go.Proofs.YtbpgkkoeehopjaaGreat.hp
open Go.RowKit Go.Proofs.YtbpgkkoeehopjaaGreat.words Go.Proofs.YtbpgkkoeehopjaaGreat.enc Go.Proofs.YtbpgkkoeehopjaaGreat.tree Go.Proofs.YtbpgkkoeehopjaaGreat.gram Go.Proofs.YtbpgkkoeehopjaaGreat.lex Go.Proofs.YtbpgkkoeehopjaaGreat.rd Go.Proofs.YtbpgkkoeehopjaaGreat.dec Go.Proofs.YtbpgkkoeehopjaaGreat.dat Go.Proofs.YtbpgkkoeehopjaaGreat.held Go.Proofs.YtbpgkkoeehopjaaGreat.ty
section
variable {w0 w w' K K' : World} {M : List Ent}
abbrev bents (g ga gd gf go : Nat) (ts ds : List DefD) (VT VD : Value) (TS : List (DefD × DV)) (xD : List Value) : List Ent :=
 [tbox g ga gd gf go VT VD, .map ga (sents (nmap (namesD ts))), .row 43 17 VT ts.length (tcells TS), .map gd (sents (nmap (namesD ds))), .row 43 17 VD ds.length xD]
theorem Bst.of (E : List Ent) {g ga gd gf go : Nat} {ts ds : List DefD} {VT VD : Value} {TS : List (DefD × DV)} {xD : List Value} (hts : ts = TS.map (·.1)) (hok : tok K TS) (hxD : RL K (defsL ds) xD) (H : Hp w0 w K (E ++ (bents g ga gd gf go ts ds VT VD TS xD ++ (trows TS ++ M)))) : Bst g ga gd gf go ts ds w0 w K (E ++ M) := by
 refine ⟨TS, VT, VD, xD, hts, hok, hxD, ?_⟩
 have h : Hp w0 w K (E ++ ((bents g ga gd gf go ts ds VT VD TS xD ++ trows TS) ++ M)) := by rw [List.append_assoc]; exact H
 have h2 := Hp.rot E (bents g ga gd gf go ts ds VT VD TS xD ++ trows TS) (M := M) h
 rw [List.append_assoc] at h2
 exact h2
theorem Bst.to (E : List Ent) {g ga gd gf go : Nat} {ts ds : List DefD} (H : Bst g ga gd gf go ts ds w0 w K (E ++ M)) : ∃ TS VT VD xD, ts = TS.map (·.1) ∧ tok K TS ∧ RL K (defsL ds) xD ∧ Hp w0 w K (E ++ (bents g ga gd gf go ts ds VT VD TS xD ++ (trows TS ++ M))) := by
 obtain ⟨TS, VT, VD, xD, hts, hok, hxD, H⟩ := H
 refine ⟨TS, VT, VD, xD, hts, hok, hxD, ?_⟩
 have h2 : Hp w0 w K ((bents g ga gd gf go ts ds VT VD TS xD ++ trows TS) ++ (E ++ M)) := by rw [List.append_assoc]; exact H
 have h3 := Hp.rot (bents g ga gd gf go ts ds VT VD TS xD ++ trows TS) E (M := M) h2
 rw [List.append_assoc] at h3
 exact h3
theorem addType_at (E : List Ent) (d : DefD) (cs : Array Value) (g ga gd gf go : Nat) (ts ds : List DefD) {VT VD : Value} {TS : List (DefD × DV)} {xD : List Value} (hts : ts = TS.map (·.1)) (hok : tok K TS) (hxD : RL K (defsL ds) xD)
  (H : Hp w0 w K (E ++ (bents g ga gd gf go ts ds VT VD TS xD ++ (trows TS ++ M)))) (hd : RL K (defL d) cs.toList) (hm : defN d ≤ 9000000) (hk : ts.length ≤ 9000000) :
  Calls Tryz.prog 59 #[.pointer (some ⟨g, 0, none⟩), .agg cs] w fun e w' => ∃ K' TS' VT' VD' xD', e = .returned (.tuple #[]) ∧ Sat K' K ∧ addD ts d = TS'.map (·.1) ∧ tok K' TS' ∧ RL K' (defsL ds) xD' ∧ Hp w0 w' K' (E ++ (bents g ga gd gf go (addD ts d) ds VT' VD' TS' xD' ++ (trows TS' ++ M))) :=
 (addType_bst d cs g ga gd gf go ts ds (Bst.of E hts hok hxD H) hd hm hk).mono fun e w' ⟨K', he, hle, H⟩ => by
   obtain ⟨TS', VT', VD', xD', h1, h2, h3, h4⟩ := Bst.to E H
   exact ⟨K', TS', VT', VD', xD', he, hle, h1, h2, h3, h4⟩
theorem addDir_at (E : List Ent) (d : DefD) (cs : Array Value) (g ga gd gf go : Nat) (ts ds : List DefD) {VT VD : Value} {TS : List (DefD × DV)} {xD : List Value} (hts : ts = TS.map (·.1)) (hok : tok K TS) (hxD : RL K (defsL ds) xD)
  (H : Hp w0 w K (E ++ (bents g ga gd gf go ts ds VT VD TS xD ++ (trows TS ++ M)))) (hd : RL K (defL d) cs.toList) (hm : defN d ≤ 9000000) (hk : ds.length ≤ 9000000) :
  Calls Tryz.prog 58 #[.pointer (some ⟨g, 0, none⟩), .agg cs] w fun e w' => ∃ K' TS' VT' VD' xD', e = .returned (.tuple #[]) ∧ Sat K' K ∧ ts = TS'.map (·.1) ∧ tok K' TS' ∧ RL K' (defsL (addD ds d)) xD' ∧ Hp w0 w' K' (E ++ (bents g ga gd gf go ts (addD ds d) VT' VD' TS' xD' ++ (trows TS' ++ M))) :=
 (addDir_bst d cs g ga gd gf go ts ds (Bst.of E hts hok hxD H) hd hm hk).mono fun e w' ⟨K', he, hle, H⟩ => by
   obtain ⟨TS', VT', VD', xD', h1, h2, h3, h4⟩ := Bst.to E H
   exact ⟨K', TS', VT', VD', xD', he, hle, h1, h2, h3, h4⟩
theorem merged_at (E : List Ent) (d more : DefD) (V : DV) (A B : List (DefD × DV)) (cs2 : Array Value) (H : Hp w0 w K (E ++ (trows (A ++ (d, V) :: B) ++ M))) (hok : tok K (A ++ (d, V) :: B)) (hm : defN d + defN more ≤ 9000000) (hd2 : RL K (defL more) cs2.toList) :
  Calls Tryz.prog 60 #[.agg (DV.cells d V).toArray, .agg cs2] w fun e w' => ∃ K' V', e = .returned (.agg (DV.cells (mergeD d more) V').toArray) ∧ Sat K' K ∧ Hp w0 w' K' (E ++ (trows (A ++ (mergeD d more, V') :: B) ++ M)) ∧ tok K' (A ++ (mergeD d more, V') :: B) ∧ ∀ u ∈ DV.cells (mergeD d more) V', u.oneCell' = true := by
 have split : ∀ (e : DefD) (U : DV), trows (A ++ (e, U) :: B) = trows A ++ (DV.rows e U ++ trows B) := fun e U => by rw [trows_app]; simp [trows]
 have H1 : Hp w0 w K ((E ++ trows A) ++ (DV.rows d V ++ (trows B ++ M))) := by
  rw [split] at H
  simpa only [List.append_assoc] using H
 have H2 := Hp.rot (E ++ trows A) (DV.rows d V) (M := trows B ++ M) H1
 refine (merged_hp d more V cs2 w0 w K _ H2 (hok (d, V) (by simp)) hm hd2).mono ?_
 rintro e w' ⟨K', V', rfl, hle, H3, hV'⟩
 refine ⟨K', V', rfl, hle, ?_, ?_, dv_one H3⟩
 · have H4 := Hp.rot (DV.rows (mergeD d more) V') (E ++ trows A) (M := trows B ++ M) H3
   rw [split]
   simpa only [List.append_assoc] using H4
 · intro p hp
   rcases List.mem_append.1 hp with hp | hp
   · exact (hok p (List.mem_append_left _ hp)).sat hle
   · rcases List.mem_cons.1 hp with rfl | hp
     · exact hV'
     · exact (hok p (List.mem_append_right _ (List.mem_cons_of_mem _ hp))).sat hle
theorem row_elem {g n c i : Nat} {A B : List (DefD × DV)} {d : DefD} {V : DV} {k : Nat} (H : Hp w0 w K M) (hi : M[i]? = some (.row 43 17 (.slice (some ⟨g, 0, none⟩) n c) n (tcells (A ++ (d, V) :: B)))) (hk : A.length = k) : At w ((⟨g, 0, none⟩ : Addr).add (k * 17)) (DV.cells d V) := by
 have hc : ∀ j u, (DV.cells d V)[j]? = some u → (tcells (A ++ (d, V) :: B))[k * 17 + j]? = some u := fun j u hu => by
  have h1 : tcells (A ++ (d, V) :: B) = tcells A ++ (DV.cells d V ++ tcells B) := by rw [tcells_app]; simp [tcells]
  have h2 : (tcells A).length = k * 17 := by rw [tcells_len, hk]
  rw [h1, List.getElem?_append_right (by omega), h2, Nat.add_sub_cancel_left, List.getElem?_append_left (List.getElem?_eq_some_iff.1 hu).1]
  exact hu
 refine ⟨fun u hu => ?_, fun j u hu => ?_⟩
 · rw [add_zero_off]; exact H.rowCell hi (hc 0 u hu)
 · rw [add_zero_off]
   exact H.rowCell hi (hc (j + 1) u hu)
theorem row_cell {g n c i : Nat} {A B : List (DefD × DV)} {d : DefD} {V : DV} {k j : Nat} {u : Value} (H : Hp w0 w K M) (hi : M[i]? = some (.row 43 17 (.slice (some ⟨g, 0, none⟩) n c) n (tcells (A ++ (d, V) :: B)))) (hk : A.length = k) (hu : (DV.cells d V)[j]? = some u) : w.cell? ⟨g, k * 17 + j, none⟩ = some u := by
 have h := row_elem H hi hk
 rw [add_zero_off] at h
 cases j with
 | zero => exact h.1 u hu
 | succ j => exact h.2 j u hu
theorem row_range {g n c i : Nat} {A B : List (DefD × DV)} {d : DefD} {V : DV} {k : Nat} (H : Hp w0 w K M) (hi : M[i]? = some (.row 43 17 (.slice (some ⟨g, 0, none⟩) n c) n (tcells (A ++ (d, V) :: B)))) (hk : A.length = k) : w.rangeAt g (k * 17) (DV.cells d V) := fun _ _ hu => row_cell H hi hk hu
theorem row_put {A B : List (DefD × DV)} {d e : DefD} {V U : DV} {k : Nat} (hk : A.length = k) : (tcells (A ++ (d, V) :: B)).take (k * 17) ++ DV.cells e U ++ (tcells (A ++ (d, V) :: B)).drop (k * 17 + (DV.cells e U).length) = tcells (A ++ (e, U) :: B) := by
 have h1 : ∀ (x : DefD) (X : DV), tcells (A ++ (x, X) :: B) = tcells A ++ (DV.cells x X ++ tcells B) := fun x X => by rw [tcells_app]; simp [tcells]
 have h2 : (tcells A).length = k * 17 := by rw [tcells_len, hk]
 rw [h1, h1, List.take_left' h2, ← List.drop_drop, List.drop_left' h2, List.drop_left' (by rfl), List.append_assoc]
end
set_option maxRecDepth 100000
attribute [local go_sem ↓] Go.wp_at_zero Go.wp_at_succ
theorem zero_map (w : World) : (zeroValue 87).run Tryz.prog w = .ok (.map none) w := by kernel_rfl
theorem eq_nil_map (w : World) (r : Option Nat) : (binOp .eql 87 (.map r) (.map none)).run Tryz.prog w = .ok (.bool r.isNone) w := run_eql_map_nil w _ _ _ r Tryz.underlying87
set_option maxHeartbeats 4000000 in
theorem stands_hp (x n : Txt) (m : Nat) (om : OMap) (g go : Nat) (cs : List Value) (w0 w K : World) (M : List Ent) (H : Ost go om w0 w K M) (hT : Kb K g cs 91) (hgo : cs[22]? = some (.map (some go))) :
  Calls Tryz.prog 108 #[.pointer (some ⟨g, 0, none⟩), .string (str x), .string (str n), .int .i64 (m : Int)] w fun e w' => e = .returned (.tuple #[]) ∧ Ost go (addO om x n m) w0 w' K M := by
 obtain ⟨OB, rfl, H⟩ := H
 have hq := eq_nil_map
 rcases ovals_find x OB with ⟨hf, ha⟩ | ⟨A, b, s, B, rfl, hf, ha⟩
 · rw [ha]
   go_enter Tryz.func108, Tryz.ntmps108
   replace H : Hp _ _ _ (_ :: (orows OB ++ M)) := H
   try dsimp only at H
   have cf1 : (w).cell? ⟨g, 22, none⟩ = some (.map (some go)) := H.kcell hT hgo
   go_upto_region 1 with (first
    | (refine lookup_k (by rfl) (.tmp 14) (.tmp 15) 89 false (by rfl) Tryz.underlying89 (keys_s Tryz.underlying9) (.map none) zero_map go (ovals OB) (H.mapAt (i := 0) rfl) (by first | rfl | simp [Act.eval, Act.put]) (x) (by first | rfl | simp [Act.eval, Act.put]) (.map none) (by rw [hf]; rfl) ?_))
   go_upto_region 2 with (fail)
   go_upto_region 3 with (first
    | (refine makeMap_hp (by rfl) 87 (by rfl) (some 19) (by rfl) H ?_; clear H; intro w2 b19 H; replace H : Hp _ _ _ (.map b19 (kents ks []) :: _) := H))
   have cf3 : (w2).cell? ⟨g, 22, none⟩ = some (.map (some go)) := H.kcell hT hgo
   go_upto_region 4 with (first
    | (refine update_k (by rfl) (.tmp 23) (.tmp 24) (.tmp 25) 89 (by rfl) Tryz.underlying89 (keys_s Tryz.underlying9) H 1 go (ovals OB) (by rfl) (by first | rfl | simp [Act.eval, Act.put]) (x) (by first | rfl | simp [Act.eval, Act.put]) (.map (some b19)) (by first | rfl | simp [Act.eval, Act.put]) (ovals OB ++ [(x, .map (some b19))]) (kput_new hf) ?_; clear H; intro w4 H; replace H : Hp _ _ _ (_ :: _ :: (orows OB ++ M)) := H; have cf5 : (w4).cell? ⟨g, 22, none⟩ = some (.map (some go)) := H.kcell hT hgo))
   go_upto_region 5 with (first
    | (refine lookup_k (by rfl) (.tmp 27) (.tmp 28) 87 true (by rfl) Tryz.underlying87 (keys_s Tryz.underlying9) (.int .i64 0) zero_int b19 ([]) (H.mapAt (i := 0) rfl) (by first | rfl | simp [Act.eval, Act.put]) (n) (by first | rfl | simp [Act.eval, Act.put]) (.tuple #[.int .i64 0, .bool false]) (by rfl) ?_))
   go_upto_region 6 with (fail)
   go_wp2_with (first
    | (refine update_k (by rfl) (.tmp 34) (.tmp 35) (.tmp 36) 87 (by rfl) Tryz.underlying87 (keys_s Tryz.underlying9) H 0 b19 [] (by rfl) (by first | rfl | simp [Act.eval, Act.put]) (n) (by first | rfl | simp [Act.eval, Act.put]) (.int .i64 (m : Int)) (by first | rfl | simp [Act.eval, Act.put]) [(n, .int .i64 (m : Int))] (by rfl) ?_; clear H; intro w6 H; replace H : Hp _ _ _ (_ :: _ :: (orows OB ++ M)) := H))
   go_end0
   refine ⟨rfl, OB ++ [(x, b19, [(n, .int .i64 (m : Int))])], by simp [omap], ?_⟩
   have H2 := Hp.rotAt [] [.map b19 (kents ks [(n, .int .i64 (m : Int))])] (.map go (kents ks (ovals OB ++ [(x, .map (some b19))])) :: orows OB) (M := M) H
   have e1 : orows (OB ++ [(x, b19, [(n, .int .i64 (m : Int))])]) = orows OB ++ [.map b19 (kents ks [(n, .int .i64 (m : Int))])] := by simp [orows, sents, kents]
   have e2 : ovals (OB ++ [(x, b19, [(n, .int .i64 (m : Int))])]) = ovals OB ++ [(x, .map (some b19))] := by simp [ovals]
   rw [e1, e2, List.append_assoc]
   exact H2
 · rw [ha]
   have e1 : orows (A ++ (x, b, s) :: B) = orows A ++ .map b (sents s) :: orows B := by simp [orows]
   have H0 := H
   rw [e1, List.append_assoc] at H
   replace H := Hp.rotAt [] (.map go (sents (ovals (A ++ (x, b, s) :: B))) :: orows A) [.map b (sents s)] (M := orows B ++ M) H
   have hback : ∀ s' w', Hp w0 w' K (.map b (sents s') :: .map go (sents (ovals (A ++ (x, b, s) :: B))) :: (orows A ++ (orows B ++ M))) → Ost go (omap A ++ (x, s') :: omap B) w0 w' K M := by
    intro s' w' H
    refine ⟨A ++ (x, b, s') :: B, by simp [omap], ?_⟩
    have e2 : orows (A ++ (x, b, s') :: B) = orows A ++ .map b (sents s') :: orows B := by simp [orows]
    have e3 : ovals (A ++ (x, b, s') :: B) = ovals (A ++ (x, b, s) :: B) := by simp [ovals]
    rw [e2, e3, List.append_assoc]
    exact Hp.rotAt [] [.map b (sents s')] (.map go (sents (ovals (A ++ (x, b, s) :: B))) :: orows A) (M := orows B ++ M) H
   generalize ovals (A ++ (x, b, s) :: B) = ov at H hf hback
   cases hs : kfind s n with
   | some v =>
    go_enter Tryz.func108, Tryz.ntmps108
    replace H : Hp _ _ _ (_ :: _ :: (orows A ++ (orows B ++ M))) := H
    try dsimp only at H
    have cf7 : (w).cell? ⟨g, 22, none⟩ = some (.map (some go)) := H.kcell hT hgo
    go_upto_region 1 with (first
     | (refine lookup_k (by rfl) (.tmp 14) (.tmp 15) 89 false (by rfl) Tryz.underlying89 (keys_s Tryz.underlying9) (.map none) zero_map go (ov) (H.mapAt (i := 1) rfl) (by first | rfl | simp [Act.eval, Act.put]) (x) (by first | rfl | simp [Act.eval, Act.put]) (.map (some b)) (by rw [hf]; rfl) ?_))
    go_upto_region 4 with (fail)
    go_upto_region 5 with (first
     | (refine lookup_k (by rfl) (.tmp 27) (.tmp 28) 87 true (by rfl) Tryz.underlying87 (keys_s Tryz.underlying9) (.int .i64 0) zero_int b (s) (H.mapAt (i := 0) rfl) (by first | rfl | simp [Act.eval, Act.put]) (n) (by first | rfl | simp [Act.eval, Act.put]) (.tuple #[v, .bool true]) (by rw [hs]; rfl) ?_))
    go_wp2_with fail
    go_end0
    have hsa : setAdd s n m = s := by simp [setAdd, hs]
    rw [hsa]
    exact ⟨rfl, hback s _ H⟩
   | none =>
    go_enter Tryz.func108, Tryz.ntmps108
    replace H : Hp _ _ _ (_ :: _ :: (orows A ++ (orows B ++ M))) := H
    try dsimp only at H
    have cf8 : (w).cell? ⟨g, 22, none⟩ = some (.map (some go)) := H.kcell hT hgo
    go_upto_region 1 with (first
     | (refine lookup_k (by rfl) (.tmp 14) (.tmp 15) 89 false (by rfl) Tryz.underlying89 (keys_s Tryz.underlying9) (.map none) zero_map go (ov) (H.mapAt (i := 1) rfl) (by first | rfl | simp [Act.eval, Act.put]) (x) (by first | rfl | simp [Act.eval, Act.put]) (.map (some b)) (by rw [hf]; rfl) ?_))
    go_upto_region 4 with (fail)
    go_upto_region 5 with (first
     | (refine lookup_k (by rfl) (.tmp 27) (.tmp 28) 87 true (by rfl) Tryz.underlying87 (keys_s Tryz.underlying9) (.int .i64 0) zero_int b (s) (H.mapAt (i := 0) rfl) (by first | rfl | simp [Act.eval, Act.put]) (n) (by first | rfl | simp [Act.eval, Act.put]) (.tuple #[.int .i64 0, .bool false]) (by rw [hs]; rfl) ?_))
    go_upto_region 6 with (fail)
    go_wp2_with (first
     | (refine update_k (by rfl) (.tmp 34) (.tmp 35) (.tmp 36) 87 (by rfl) Tryz.underlying87 (keys_s Tryz.underlying9) H 0 b s (by rfl) (by first | rfl | simp [Act.eval, Act.put]) (n) (by first | rfl | simp [Act.eval, Act.put]) (.int .i64 (m : Int)) (by first | rfl | simp [Act.eval, Act.put]) (s ++ [(n, .int .i64 (m : Int))]) (kput_new hs) ?_; clear H; intro w9 H; replace H : Hp _ _ _ (_ :: _ :: (orows A ++ (orows B ++ M))) := H))
    go_end0
    have hsa : setAdd s n m = s ++ [(n, .int .i64 (m : Int))] := by simp [setAdd, hs]
    rw [hsa]
    exact ⟨rfl, hback _ _ H⟩
end Go.Proofs.YtbpgkkoeehopjaaGreat.hp
