/- Part 13 of 18 of a proof: see the last part. -/
import Derived.Test.YtbpgkkoeehopjaaGreatP9
import Derived.Test.YtbpgkkoeehopjaaGreatP12
import Derived.Deep.QuietTactic
import Derived.BigQuiet
set_option linter.unusedVariables false
set_option linter.unusedSimpArgs false
namespace Go.Proofs.YtbpgkkoeehopjaaGreat.hp
open Go.RowKit Go.Proofs.YtbpgkkoeehopjaaGreat.words Go.Proofs.YtbpgkkoeehopjaaGreat.enc Go.Proofs.YtbpgkkoeehopjaaGreat.tree Go.Proofs.YtbpgkkoeehopjaaGreat.gram Go.Proofs.YtbpgkkoeehopjaaGreat.lex Go.Proofs.YtbpgkkoeehopjaaGreat.rd Go.Proofs.YtbpgkkoeehopjaaGreat.dec Go.Proofs.YtbpgkkoeehopjaaGreat.dat Go.Proofs.YtbpgkkoeehopjaaGreat.held Go.Proofs.YtbpgkkoeehopjaaGreat.ty
set_option maxRecDepth 100000
attribute [local go_sem ↓] Go.wp_at_zero Go.wp_at_succ
theorem fieldD_cells {w : World} {a T : Nat} {d : FieldD} {vs : List Value} (h : DatL w a T (fieldL d) vs) :
  ∃ A c A2 c2, vs = [.bool d.note.has, .bool d.note.block, .string (str d.note.text), .string (str d.name), .slice A d.args.length c, .string (str d.ty.1), .string (str d.ty.2), .slice A2 d.dirs.length c2, .int .i64 d.line, .int .i64 d.col] ∧ Dat w a T (.list d.args.length (inputsL d.args)) (.slice A d.args.length c) ∧ Dat w a T (.list d.dirs.length (dirsL d.dirs)) (.slice A2 d.dirs.length c2) := by
 obtain ⟨⟨nh, nb, nt⟩, dn, args, ⟨tn, tw⟩, dirs, dl, dc⟩ := d
 exact field_cells h
theorem namedD_cells {w : World} {a T : Nat} {d : NamedD} {vs : List Value} (h : DatL w a T (namedL d) vs) : vs = [.string (str d.name), .int .i64 d.line, .int .i64 d.col] := by
 obtain ⟨r0, rfl, h0⟩ := h.lit_inv
 obtain ⟨r1, rfl, h1⟩ := h0.lit_inv
 obtain ⟨r2, rfl, h2⟩ := h1.lit_inv
 rw [h2.nil_inv]
theorem field_size : (Tryz.prog.info? 52).map (·.size) = some 10 := by kernel_rfl
theorem named_size : (Tryz.prog.info? 113).map (·.size) = some 3 := by kernel_rfl
theorem kind_is (x : Txt) (kk : Int) (g ga gd gf go : Nat) (sch : List Value) (VT VD : Value) (s : DefD) (ts ds : List DefD) (w0 w K : World) (M : List Ent) (H : Hp w0 w K M) (T : TyA K g ga gd gf go sch VT VD s ts ds) (hk : kindOf ts x = kk) :
  Calls Tryz.prog 79 #[.pointer (some ⟨g, 0, none⟩), .string (str x)] w fun e w' => e = .returned (.int .i64 kk) ∧ Hp w0 w' K M := by
 subst hk; exact kind_hp x g ga gd gf go sch VT VD s ts ds w0 w K M H T
theorem stands_at (A : List Ent) (x n : Txt) (m : Nat) (OB : List (Txt × Nat × List (Txt × Value))) (g go : Nat) (cs : List Value) (w0 w K : World) (M : List Ent) (H : Hp w0 w K (A ++ (.map go (sents (ovals OB)) :: (orows OB ++ M)))) (hT : Kb K g cs 91) (hgo : cs[22]? = some (.map (some go))) :
  Calls Tryz.prog 108 #[.pointer (some ⟨g, 0, none⟩), .string (str x), .string (str n), .int .i64 (m : Int)] w fun e w' => e = .returned (.tuple #[]) ∧ ∃ OB', addO (omap OB) x n m = omap OB' ∧ Hp w0 w' K (A ++ (.map go (sents (ovals OB')) :: (orows OB' ++ M))) := by
 have H1 : Hp w0 w K (.map go (sents (ovals OB)) :: (orows OB ++ (A ++ M))) := by
  have h := Hp.rot A (.map go (sents (ovals OB)) :: orows OB) (M := M) H
  exact h
 refine (stands_hp x n m (omap OB) g go cs w0 w K (A ++ M) ⟨OB, rfl, H1⟩ hT hgo).mono ?_
 rintro e w' ⟨rfl, OB', h1, h2⟩
 exact ⟨rfl, OB', h1, Hp.rot (.map go (sents (ovals OB')) :: orows OB') A (M := M) h2⟩
def ifStep (ts : List DefD) (nm : Txt) (i : Nat) (m : OMap) (n : NamedD) : OMap := if kindOf ts n.name = 4 then addO m n.name nm i else m
def meStep (ts : List DefD) (nm : Txt) (m : OMap) (q : NamedD × Nat) : OMap := if kindOf ts q.1.name = 3 then addO m nm q.1.name q.2 else m
theorem objStep_3 {ts : List DefD} {m : OMap} {d : DefD} {i : Nat} (h : d.kind = 3) : objStep ts m (d, i) = d.ifaces.foldl (ifStep ts d.name i) (addO m d.name d.name i) := by
 unfold objStep; rw [if_pos h]; rfl
theorem objStep_5 {ts : List DefD} {m : OMap} {d : DefD} {i : Nat} (h : d.kind = 5) : objStep ts m (d, i) = d.members.zipIdx.foldl (meStep ts d.name) m := by
 have h3 : ¬ d.kind = 3 := by omega
 unfold objStep; rw [if_neg h3, if_pos h]; rfl
theorem objStep_o {ts : List DefD} {m : OMap} {d : DefD} {i : Nat} (h3 : ¬ d.kind = 3) (h5 : ¬ d.kind = 5) : objStep ts m (d, i) = m := by
 unfold objStep; rw [if_neg h3, if_neg h5]
set_option maxHeartbeats 16000000 in
theorem index_hp (g ga gd gf go : Nat) (sch : List Value) (VT VD : Value) (s : DefD) (ts ds : List DefD) (n : Nat) (w0 w K : World) (M : List Ent) (H : Hp w0 w K (.map gf [] :: .map go [] :: M)) (T : TyA K g ga gd gf go sch VT VD s ts ds) (hn : ts.length = n) (hm : defsN ts ≤ 20000000) :
  Calls Tryz.prog 62 #[.pointer (some ⟨g, 0, none⟩)] w fun e w' => e = .returned (.tuple #[]) ∧ ∃ OB, objectsOf ts = omap OB ∧ Hp w0 w' K (.map gf (kents kp (fieldsOf ts)) :: .map go (sents (ovals OB)) :: (orows OB ++ M)) := by
 have hnl : n ≤ 20000000 := by have := sum_len defN_pos ts; unfold defsN at hm; omega
 obtain ⟨A, c, rfl, hc1, hc2⟩ := slice_of T.types
 rw [hn] at hc1
 have HT := T.types
 have h17 := H.kcell T.box T.c17
 rw [hn] at HT h17
 have HN := hide hn
 clear hn
 go_enter Tryz.func62, Tryz.ntmps62
 go_wp2_with fail
 go_loopw [17] (fun i wr => ∃ (k : Nat) (OB : List (Txt × Nat × List (Txt × Value))), k ≤ n ∧ i = .int .i64 k ∧ (ts.take k).zipIdx.foldl (objStep ts) [] = omap OB ∧ Hp w0 wr K (.map gf (kents kp ((ts.take k).foldl addFs [])) :: .map go (sents (ovals OB)) :: (orows OB ++ M))) (fun i _ => n - (intOf i).toNat)
 case atStart => exact ⟨0, [], Nat.zero_le _, rfl, rfl, H⟩
 case round =>
  clear H h17
  obtain ⟨k, OB, hk, rfl, hom, H⟩ := hrel
  by_cases hlt : k < n
  · have hkI : (k : Int) < (n : Int) := by omega
    obtain ⟨d, hd⟩ : ∃ x, ts[k]? = some x := ⟨_, List.getElem?_eq_getElem (by rw [HN.out]; exact hlt)⟩
    have HE1 := hide (fold_next hd addFs [])
    have HE2 := hide (fold_zip_next hd (objStep ts) [])
    obtain ⟨ad, xs, rfl, hxd, _, hat⟩ := elem_hp (m := 17) (f := defL) defL_len H HT hd (by omega)
    have hdn := defN_at hd
    have hif := ifaces_le d
    have hme := members_le d
    have hfi := fields_le d
    clear hd
    obtain ⟨A6, c6, A7, c7, A8, c8, A9, c9, A10, c10, A11, c11, A12, c12, A14, c14, rfl, d6, -, d8, -, d10, -, -, -⟩ := def_cells hxd
    clear hxd
    obtain ⟨kd, hkd⟩ : ∃ kd, d.kind = kd := ⟨_, rfl⟩
    rw [hkd] at hat
    have HKD := hide hkd
    clear hkd
    have hsz : (Tryz.prog.info? 43).map (·.size) = some 17 := def_size
    generalize hF0 : (ts.take k).foldl addFs [] = F0 at H HE1
    rw [hom] at HE2
    clear hF0 hom
    go_upto_region 3 with (first
     | ((with_reducible show wpList _ _ _ (_ :: _) _ _); refine wpList_load_at (by rfl) 43 (.tmp 20) (by rfl) (ad.add (k * 17)) (by simp [Act.eval, Act.put]) _ _ hat Tryz.underlying43 rfl hsz ?_)
     | ((with_reducible refine isL ?_); first
      | (refine al z43 3 H ?_; clear H; intro w1 g3 H)
      | (refine sA 3 0 H ?_; clear H; intro w3 H)))
    clear hat
    have hF : (w3).cell? ⟨g3, 8, none⟩ = some (.slice A8 d.fields.length c8) := H.cell (i := 0) rfl rfl
    obtain ⟨nf, hnf⟩ : ∃ x, d.fields.length = x := ⟨_, rfl⟩
    have HNF := hide hnf
    rw [hnf] at H hF d8 hfi
    clear hnf
    have hsf := field_size
    have hsn := named_size
    go_wp2_with fail
    go_loopw [25] (fun i wr => ∃ (j : Nat), j ≤ nf ∧ i = .int .i64 j ∧ Hp w0 wr K (.box g3 [.int .i64 kd, .bool d.ext, .bool d.note.has, .bool d.note.block, .string (str d.note.text), .string (str d.name), .slice A6 d.ifaces.length c6, .slice A7 d.dirs.length c7, .slice A8 nf c8, .slice A9 d.inputs.length c9, .slice A10 d.members.length c10, .slice A11 d.values.length c11, .slice A12 d.roots.length c12, .bool d.rep, .slice A14 d.places.length c14, .int .i64 d.line, .int .i64 d.col] 43 :: .map gf (kents kp ((d.fields.take j).zipIdx.foldl (fun m p => addF m d.name p.1.name p.2) F0)) :: .map go (sents (ovals OB)) :: (orows OB ++ M))) (fun i _ => nf - (intOf i).toNat)
    case atStart => exact ⟨0, Nat.zero_le _, rfl, H⟩
    case round =>
     clear H hF
     obtain ⟨j, hj, rfl, H⟩ := hrel
     by_cases hjl : j < nf
     · have hjI : (j : Int) < (nf : Int) := by omega
       obtain ⟨x, hx⟩ : ∃ x, d.fields[j]? = some x := ⟨_, List.getElem?_eq_getElem (by rw [HNF.out]; exact hjl)⟩
       have HE3 := hide (fold_zip_next hx (fun m p => addF m d.name p.1.name p.2) F0)
       obtain ⟨ad2, ys, rfl, hxd2, _, hat2⟩ := elem_hp (m := 10) (f := fieldL) (fun _ => rfl) H d8 hx (by omega)
       clear hx
       obtain ⟨B4, e4, B7, e7, rfl, -, -⟩ := fieldD_cells hxd2
       clear hxd2
       generalize hF1 : (d.fields.take j).zipIdx.foldl (fun m p => addF m d.name p.1.name p.2) F0 = F1 at H HE3
       clear hF1
       go_upto_region 6 with (first
        | ((with_reducible show wpList _ _ _ (_ :: _) _ _); refine wpList_load_at (by rfl) 52 (.tmp 28) (by rfl) (ad2.add (j * 10)) (by simp [Act.eval, Act.put]) _ _ hat2 Tryz.underlying52 rfl hsf ?_)
        | ((with_reducible refine isL ?_); first
         | (refine al z52 5 H ?_; clear H; intro w4 g5 H)
         | (refine sA 5 0 H ?_; clear H; intro w6 H)))
       clear hat2
       cases hf : kfind F1 (d.name, x.name) with
       | some v =>
        have cf7 : (w6).cell? ⟨g, 21, none⟩ = some (.map (some gf)) := H.kcell T.box T.c21
        have := H.c 1 5
        have := H.c 0 3
        have hrun := fun k => run_lookup_k (P := Tryz.prog) (w := (w6).drewN k) (t := 88) (kt := 125) (et := 3) (l := F1) (b := gf) Tryz.underlying88 (keys_p pairT) (.int .i64 0) (zero_int _) ((H.drew k).mapAt (i := 2) rfl) (d.name, x.name) true
        go_quiet (fail)
        replace H := H.drew nq
        obtain ⟨w8, hq9⟩ : ∃ x, (w6).drewN nq = x := ⟨_, rfl⟩
        rw [hq9] at H ⊢
        clear hq9
        replace H : Hp _ _ _ (_ :: _ :: _ :: _ :: (orows OB ++ M)) := H
        go_wp2_with fail
        replace H := H.sub (List.Sublist.cons _ (List.Sublist.cons_cons _ (List.Sublist.cons_cons _ (List.Sublist.cons_cons _ (List.Sublist.refl _)))))
        go_roundw
        case rel => exact ⟨j + 1, by omega, by go_num, by rw [HE3.out]; unfold addF; rw [hf]; exact H⟩
        case measure => simp [intOf]; omega
       | none =>
        have cf10 : (w6).cell? ⟨g, 21, none⟩ = some (.map (some gf)) := H.kcell T.box T.c21
        have := H.c 1 5
        have := H.c 0 3
        have hrun := fun k => run_lookup_k (P := Tryz.prog) (w := (w6).drewN k) (t := 88) (kt := 125) (et := 3) (l := F1) (b := gf) Tryz.underlying88 (keys_p pairT) (.int .i64 0) (zero_int _) ((H.drew k).mapAt (i := 2) rfl) (d.name, x.name) true
        go_quiet (fail)
        replace H := H.drew nq
        obtain ⟨w11, hq12⟩ : ∃ x, (w6).drewN nq = x := ⟨_, rfl⟩
        rw [hq12] at H ⊢
        clear hq12
        replace H : Hp _ _ _ (_ :: _ :: _ :: _ :: (orows OB ++ M)) := H
        clear hrun
        go_upto_region 8 with (fail)
        refine still_hp 10 (by kernel_rfl) (by kernel_rfl) H ?_
        clear H
        intro w13 H
        have cf14 : (w13).cell? ⟨g, 21, none⟩ = some (.map (some gf)) := H.kcell T.box T.c21
        have := H.c 1 5
        have := H.c 0 3
        simp only [List.take_succ_cons, List.take_zero, List.drop_succ_cons, List.drop_zero]
        repeat still_step
        refine wpStill_nil ?_
        replace H : Hp _ _ _ (_ :: _ :: _ :: _ :: (orows OB ++ M)) := H
        have cf15 : (w13).cell? ⟨g, 21, none⟩ = some (.map (some gf)) := H.kcell T.box T.c21
        have := H.c 1 5
        have := H.c 0 3
        go_upto_region 9 with (first
         | (refine update_k (by rfl) (.tmp 48) (.tmp 53) (.tmp 54) 88 (by rfl) Tryz.underlying88 (keys_p pairT) H 2 gf F1 (by rfl) (by first | rfl | simp [Act.eval, Act.put]) ((d.name, x.name)) (by first | rfl | simp [Act.eval, Act.put]) (.int .i64 (j : Int)) (by first | rfl | simp [Act.eval, Act.put]) (F1 ++ [((d.name, x.name), .int .i64 (j : Int))]) (kput_new hf) ?_; clear H; intro w16 H; replace H : Hp _ _ _ (_ :: _ :: _ :: _ :: (orows OB ++ M)) := H; have cf17 : (w16).cell? ⟨g, 21, none⟩ = some (.map (some gf)) := H.kcell T.box T.c21; have := H.c 1 5; have := H.c 0 3))
        replace H := H.sub (List.Sublist.cons _ (List.Sublist.cons_cons _ (List.Sublist.cons_cons _ (List.Sublist.cons_cons _ (List.Sublist.refl _)))))
        go_wp2_with fail
        go_roundw
        case rel => exact ⟨j + 1, by omega, by go_num, by rw [HE3.out]; unfold addF; rw [hf]; exact H⟩
        case measure => simp [intOf]; omega
     · obtain rfl : nf = j := by omega
       have htk : d.fields.take nf = d.fields := by rw [← HNF.out]; exact List.take_length
       rw [htk] at H
       clear htk
       have hFd : d.fields.zipIdx.foldl (fun m p => addF m d.name p.1.name p.2) F0 = addFs F0 d := rfl
       rw [hFd, ← HE1.out] at H
       clear hFd
       generalize hF2 : (ts.take (k + 1)).foldl addFs [] = F2 at H
       have hK0 : (wr).cell? ⟨g3, 0, none⟩ = some (.int .i64 kd) := H.cell (i := 0) rfl rfl
       by_cases h3 : kd = 3
       · subst h3
         obtain ⟨ni, hni⟩ : ∃ x, d.ifaces.length = x := ⟨_, rfl⟩
         have HNI := hide hni
         rw [hni] at H d6 hif
         clear hni
         have := H.c 0 0
         have := H.c 0 5
         go_upto_region 13 with (first
          | (go_at_call 108; refine (stands_at [.box g3 [.int .i64 3, .bool d.ext, .bool d.note.has, .bool d.note.block, .string (str d.note.text), .string (str d.name), .slice A6 ni c6, .slice A7 d.dirs.length c7, .slice A8 nf c8, .slice A9 d.inputs.length c9, .slice A10 d.members.length c10, .slice A11 d.values.length c11, .slice A12 d.roots.length c12, .bool d.rep, .slice A14 d.places.length c14, .int .i64 d.line, .int .i64 d.col] 43, .map gf (kents kp F2)] d.name d.name k OB g go _ _ _ _ M H T.box T.c22).mono ?_; clear H; rintro e w5 ⟨rfl, OB5, hO5, H⟩; have := H.c 0 0; have := H.c 0 5))
         replace H : Hp _ _ _ (.box _ [_, _, _, _, _, _, _, _, _, _, _, _, _, _, _, _, _] _ :: _ :: _ :: (orows OB5 ++ M)) := H
         try dsimp only at H
         have hI : (w5).cell? ⟨g3, 6, none⟩ = some (.slice A6 ni c6) := H.cell (i := 0) rfl rfl
         clear hK0
         go_wp2_with fail
         go_loopw [70] (fun i wr => ∃ (j : Nat) (OB6 : List (Txt × Nat × List (Txt × Value))), j ≤ ni ∧ i = .int .i64 j ∧ (d.ifaces.take j).foldl (ifStep ts d.name k) (addO (omap OB) d.name d.name k) = omap OB6 ∧ Hp w0 wr K (.box g3 [.int .i64 3, .bool d.ext, .bool d.note.has, .bool d.note.block, .string (str d.note.text), .string (str d.name), .slice A6 ni c6, .slice A7 d.dirs.length c7, .slice A8 nf c8, .slice A9 d.inputs.length c9, .slice A10 d.members.length c10, .slice A11 d.values.length c11, .slice A12 d.roots.length c12, .bool d.rep, .slice A14 d.places.length c14, .int .i64 d.line, .int .i64 d.col] 43 :: .map gf (kents kp F2) :: .map go (sents (ovals OB6)) :: (orows OB6 ++ M))) (fun i _ => ni - (intOf i).toNat)
         case atStart => exact ⟨0, OB5, Nat.zero_le _, rfl, hO5, H⟩
         case round =>
          clear H hI
          obtain ⟨j, OB6, hj, rfl, hO6, H⟩ := hrel
          by_cases hjl : j < ni
          · have hjI : (j : Int) < (ni : Int) := by omega
            obtain ⟨x, hx⟩ : ∃ x, d.ifaces[j]? = some x := ⟨_, List.getElem?_eq_getElem (by rw [HNI.out]; exact hjl)⟩
            have HE4 := hide (fold_next hx (ifStep ts d.name k) (addO (omap OB) d.name d.name k))
            obtain ⟨ad3, ys, rfl, hxd3, _, hat3⟩ := elem_hp (m := 3) (f := namedL) (fun _ => rfl) H d6 hx (by omega)
            clear hx
            obtain rfl := namedD_cells hxd3
            clear hxd3
            rw [hO6] at HE4
            clear hO6
            obtain ⟨kk, hkk⟩ : ∃ kk, kindOf ts x.name = kk := ⟨_, rfl⟩
            by_cases h4 : kk = 4
            · subst h4
              have HIF := hide (show ifStep ts d.name k (omap OB6) x = addO (omap OB6) x.name d.name k from if_pos hkk)
              go_upto_region 16 with (first
               | ((with_reducible show wpList _ _ _ (_ :: _) _ _); refine wpList_load_at (by rfl) 113 (.tmp 72) (by rfl) (ad3.add (j * 3)) (by simp [Act.eval, Act.put]) _ _ hat3 Tryz.underlying113 rfl hsn ?_)
               | ((with_reducible refine isL ?_); first
                | (refine al z113 9 H ?_; clear H; intro w19 g9 H)
                | (refine sA 9 0 H ?_; clear H; intro w21 H)))
              clear hat3
              have := H.c 0 0
              go_upto_region 17 with (first
               | (go_at_call 79; refine (kind_is x.name 4 g ga gd gf go sch _ VD s ts ds _ _ _ _ H T hkk).mono ?_; clear H; rintro e w6 ⟨rfl, H⟩; have := H.c 0 0))
              have := H.c 0 0
              have := H.c 1 5
              go_upto_region 18 with (first
               | (go_at_call 108; refine (stands_at [.box g9 [.string (str x.name), .int .i64 x.line, .int .i64 x.col] 113, .box g3 [.int .i64 3, .bool d.ext, .bool d.note.has, .bool d.note.block, .string (str d.note.text), .string (str d.name), .slice (some ad3) ni c6, .slice A7 d.dirs.length c7, .slice A8 nf c8, .slice A9 d.inputs.length c9, .slice A10 d.members.length c10, .slice A11 d.values.length c11, .slice A12 d.roots.length c12, .bool d.rep, .slice A14 d.places.length c14, .int .i64 d.line, .int .i64 d.col] 43, .map gf (kents kp F2)] x.name d.name k OB6 g go _ _ _ _ M H T.box T.c22).mono ?_; clear H; rintro e w7 ⟨rfl, OB7, hO7, H⟩; have := H.c 0 0; have := H.c 1 5))
              replace H : Hp _ _ _ (.box _ [_, _, _] _ :: .box _ [_, _, _, _, _, _, _, _, _, _, _, _, _, _, _, _, _] _ :: _ :: _ :: (orows OB7 ++ M)) := H
              try dsimp only at H
              replace H := H.sub (List.Sublist.cons _ (List.Sublist.cons_cons _ (List.Sublist.cons_cons _ (List.Sublist.cons_cons _ (List.Sublist.refl _)))))
              go_wp2_with fail
              go_roundw
              case rel => exact ⟨j + 1, OB7, by omega, by go_num, by rw [HE4.out, HIF.out, hO7], H⟩
              case measure => simp [intOf]; omega
            · have HIF := hide (show ifStep ts d.name k (omap OB6) x = omap OB6 from if_neg (by rw [hkk]; exact h4))
              go_upto_region 16 with (first
               | ((with_reducible show wpList _ _ _ (_ :: _) _ _); refine wpList_load_at (by rfl) 113 (.tmp 72) (by rfl) (ad3.add (j * 3)) (by simp [Act.eval, Act.put]) _ _ hat3 Tryz.underlying113 rfl hsn ?_)
               | ((with_reducible refine isL ?_); first
                | (refine al z113 9 H ?_; clear H; intro w24 g9 H)
                | (refine sA 9 0 H ?_; clear H; intro w26 H)))
              clear hat3
              have := H.c 0 0
              go_wp2_with (first
               | (go_at_call 79; refine (kind_is x.name kk g ga gd gf go sch _ VD s ts ds _ _ _ _ H T hkk).mono ?_; clear H; rintro e w6 ⟨rfl, H⟩; have := H.c 0 0))
              replace H := H.sub (List.Sublist.cons _ (List.Sublist.cons_cons _ (List.Sublist.cons_cons _ (List.Sublist.cons_cons _ (List.Sublist.refl _)))))
              go_roundw
              case rel => exact ⟨j + 1, OB6, by omega, by go_num, by rw [HE4.out, HIF.out], H⟩
              case measure => simp [intOf]; omega
          · obtain rfl : ni = j := by omega
            have htk : d.ifaces.take ni = d.ifaces := by rw [← HNI.out]; exact List.take_length
            rw [htk] at hO6
            clear htk
            go_wp2_with fail
            replace H := H.tail
            go_roundw
            case rel => exact ⟨k + 1, OB6, by omega, by go_num, by rw [HE2.out, objStep_3 HKD.out]; exact hO6, by rw [hF2]; exact H⟩
            case measure => simp [intOf]; omega
       · by_cases h5 : kd = 5
         · subst h5
           obtain ⟨ni, hni⟩ : ∃ x, d.members.length = x := ⟨_, rfl⟩
           have HNI := hide hni
           rw [hni] at H d10 hme
           clear hni
           have hI : (wr).cell? ⟨g3, 10, none⟩ = some (.slice A10 ni c10) := H.cell (i := 0) rfl rfl
           go_wp2_with fail
           go_loopw [92] (fun i wr => ∃ (j : Nat) (OB6 : List (Txt × Nat × List (Txt × Value))), j ≤ ni ∧ i = .int .i64 j ∧ (d.members.take j).zipIdx.foldl (meStep ts d.name) (omap OB) = omap OB6 ∧ Hp w0 wr K (.box g3 [.int .i64 5, .bool d.ext, .bool d.note.has, .bool d.note.block, .string (str d.note.text), .string (str d.name), .slice A6 d.ifaces.length c6, .slice A7 d.dirs.length c7, .slice A8 nf c8, .slice A9 d.inputs.length c9, .slice A10 ni c10, .slice A11 d.values.length c11, .slice A12 d.roots.length c12, .bool d.rep, .slice A14 d.places.length c14, .int .i64 d.line, .int .i64 d.col] 43 :: .map gf (kents kp F2) :: .map go (sents (ovals OB6)) :: (orows OB6 ++ M))) (fun i _ => ni - (intOf i).toNat)
           case atStart => exact ⟨0, OB, Nat.zero_le _, rfl, rfl, H⟩
           case round =>
            clear H hI hK0
            obtain ⟨j, OB6, hj, rfl, hO6, H⟩ := hrel
            by_cases hjl : j < ni
            · have hjI : (j : Int) < (ni : Int) := by omega
              obtain ⟨x, hx⟩ : ∃ x, d.members[j]? = some x := ⟨_, List.getElem?_eq_getElem (by rw [HNI.out]; exact hjl)⟩
              have HE4 := hide (fold_zip_next hx (meStep ts d.name) (omap OB))
              obtain ⟨ad3, ys, rfl, hxd3, _, hat3⟩ := elem_hp (m := 3) (f := namedL) (fun _ => rfl) H d10 hx (by omega)
              clear hx
              obtain rfl := namedD_cells hxd3
              clear hxd3
              rw [hO6] at HE4
              clear hO6
              obtain ⟨kk, hkk⟩ : ∃ kk, kindOf ts x.name = kk := ⟨_, rfl⟩
              by_cases h4 : kk = 3
              · subst h4
                have HIF := hide (show meStep ts d.name (omap OB6) (x, j) = addO (omap OB6) d.name x.name j from if_pos hkk)
                go_upto_region 23 with (first
                 | ((with_reducible show wpList _ _ _ (_ :: _) _ _); refine wpList_load_at (by rfl) 113 (.tmp 95) (by rfl) (ad3.add (j * 3)) (by simp [Act.eval, Act.put]) _ _ hat3 Tryz.underlying113 rfl hsn ?_)
                 | ((with_reducible refine isL ?_); first
                  | (refine al z113 11 H ?_; clear H; intro w28 g11 H)
                  | (refine sA 11 0 H ?_; clear H; intro w30 H)))
                clear hat3
                have := H.c 0 0
                go_upto_region 24 with (first
                 | (go_at_call 79; refine (kind_is x.name 3 g ga gd gf go sch _ VD s ts ds _ _ _ _ H T hkk).mono ?_; clear H; rintro e w6 ⟨rfl, H⟩; have := H.c 0 0))
                have := H.c 1 5
                have := H.c 0 0
                go_upto_region 25 with (first
                 | (go_at_call 108; refine (stands_at [.box g11 [.string (str x.name), .int .i64 x.line, .int .i64 x.col] 113, .box g3 [.int .i64 5, .bool d.ext, .bool d.note.has, .bool d.note.block, .string (str d.note.text), .string (str d.name), .slice A6 d.ifaces.length c6, .slice A7 d.dirs.length c7, .slice A8 nf c8, .slice A9 d.inputs.length c9, .slice (some ad3) ni c10, .slice A11 d.values.length c11, .slice A12 d.roots.length c12, .bool d.rep, .slice A14 d.places.length c14, .int .i64 d.line, .int .i64 d.col] 43, .map gf (kents kp F2)] d.name x.name j OB6 g go _ _ _ _ M H T.box T.c22).mono ?_; clear H; rintro e w7 ⟨rfl, OB7, hO7, H⟩; have := H.c 1 5; have := H.c 0 0))
                replace H : Hp _ _ _ (.box _ [_, _, _] _ :: .box _ [_, _, _, _, _, _, _, _, _, _, _, _, _, _, _, _, _] _ :: _ :: _ :: (orows OB7 ++ M)) := H
                try dsimp only at H
                replace H := H.sub (List.Sublist.cons _ (List.Sublist.cons_cons _ (List.Sublist.cons_cons _ (List.Sublist.cons_cons _ (List.Sublist.refl _)))))
                go_wp2_with fail
                go_roundw
                case rel => exact ⟨j + 1, OB7, by omega, by go_num, by rw [HE4.out, HIF.out, hO7], H⟩
                case measure => simp [intOf]; omega
              · have HIF := hide (show meStep ts d.name (omap OB6) (x, j) = omap OB6 from if_neg (by rw [hkk]; exact h4))
                go_upto_region 23 with (first
                 | ((with_reducible show wpList _ _ _ (_ :: _) _ _); refine wpList_load_at (by rfl) 113 (.tmp 95) (by rfl) (ad3.add (j * 3)) (by simp [Act.eval, Act.put]) _ _ hat3 Tryz.underlying113 rfl hsn ?_)
                 | ((with_reducible refine isL ?_); first
                  | (refine al z113 11 H ?_; clear H; intro w33 g11 H)
                  | (refine sA 11 0 H ?_; clear H; intro w35 H)))
                clear hat3
                have := H.c 0 0
                go_wp2_with (first
                 | (go_at_call 79; refine (kind_is x.name kk g ga gd gf go sch _ VD s ts ds _ _ _ _ H T hkk).mono ?_; clear H; rintro e w6 ⟨rfl, H⟩; have := H.c 0 0))
                replace H := H.sub (List.Sublist.cons _ (List.Sublist.cons_cons _ (List.Sublist.cons_cons _ (List.Sublist.cons_cons _ (List.Sublist.refl _)))))
                go_roundw
                case rel => exact ⟨j + 1, OB6, by omega, by go_num, by rw [HE4.out, HIF.out], H⟩
                case measure => simp [intOf]; omega
            · obtain rfl : ni = j := by omega
              have htk : d.members.take ni = d.members := by rw [← HNI.out]; exact List.take_length
              rw [htk] at hO6
              clear htk
              go_wp2_with fail
              replace H := H.tail
              go_roundw
              case rel => exact ⟨k + 1, OB6, by omega, by go_num, by rw [HE2.out, objStep_5 HKD.out]; exact hO6, by rw [hF2]; exact H⟩
              case measure => simp [intOf]; omega
         · go_wp2_with fail
           replace H := H.sub (List.Sublist.cons _ (List.Sublist.cons_cons _ (List.Sublist.cons_cons _ (List.Sublist.refl _))))
           go_roundw
           case rel => exact ⟨k + 1, OB, by omega, by go_num, by rw [HE2.out, objStep_o (by rw [HKD.out]; exact h3) (by rw [HKD.out]; exact h5)], by rw [hF2]; exact H⟩
           case measure => simp [intOf]; omega
  · obtain rfl : n = k := by omega
    have htk : ts.take n = ts := by rw [← HN.out]; exact List.take_length
    rw [htk] at H hom
    go_wp2_with fail
    go_end0
    exact ⟨rfl, OB, hom, H⟩
theorem sch_hp (defs ts : List DefD) (n c nt ct : Nat) (A Aty : Option Addr) (g ga gd gf go : Nat) (VD : Value) (w0 w K : World) (M : List Ent) (H : Hp w0 w K (tbox g ga gd gf go (.slice Aty nt ct) VD :: M)) (hn : defs.length = n) (hd : RD K (.list n (defsL defs)) (.slice A n c)) (hm : defsN defs ≤ 3000000)
  (hnt : ts.length = nt) (ht : RD K (.list nt (defsL ts)) (.slice Aty nt ct)) (hat : Km K ga (kents ks (nmap (namesD ts)))) :
  Calls Tryz.prog 61 #[.pointer (some ⟨g, 0, none⟩), .slice A n c] w (SchP (schemaOf defs ts) w0 K (tbox g ga gd gf go (.slice Aty nt ct) VD :: M)) := by
 have hnl : n ≤ 3000000 := by have := sum_len defN_pos defs; unfold defsN at hm; omega
 cases hi : defs.findIdx? isSchema with
 | none =>
  have hf : defs.find? isSchema = none := by
   rw [List.findIdx?_eq_none_iff] at hi
   rw [List.find?_eq_none]
   intro x hx; simp [hi x hx]
  have hs : schemaOf defs ts = { zeroSchema with roots := rootsOf ts } := by unfold schemaOf; rw [hf]
  rw [hs]
  exact schNone_hp defs ts n c nt ct A Aty g ga gd gf go VD w0 w K M H hn hd (by omega) hnt ht hat hi
 | some i =>
  obtain ⟨hlt, h1, h2⟩ := List.findIdx?_eq_some_iff_getElem.1 hi
  have hf : defs.find? isSchema = some defs[i] := List.find?_eq_some_iff_getElem.2 ⟨h1, i, hlt, rfl, fun j hj => by simpa using h2 j hj⟩
  have hs : schemaOf defs ts = defs.foldl schStep defs[i] := by unfold schemaOf; rw [hf]
  rw [hs]
  exact schSome_hp defs _ i n c A g w0 w K _ H hn hd hm (List.getElem?_eq_getElem hlt) hi
theorem own_step {l : List DefD} {k : Nat} {x : DefD} (hn : (namesD l).Nodup) (hx : l[k]? = some x) : kput (nmap ((namesD l).take k)) x.name (.int .i64 (k : Int)) = nmap ((namesD l).take (k + 1)) := by
 have hk : k < (namesD l).length := by have := (List.getElem?_eq_some_iff.1 hx).1; simpa using this
 have hnx : (namesD l)[k]? = some x.name := by simp [namesD, hx]
 have h1 : (namesD l).take (k + 1) = (namesD l).take k ++ [x.name] := by rw [List.take_add_one, hnx]; rfl
 have h2 : ((namesD l).take k).length = k := by rw [List.length_take]; omega
 have hnot : x.name ∉ (namesD l).take k := by
  rw [← List.take_append_drop (k + 1) (namesD l), h1, List.append_assoc, List.nodup_append] at hn
  intro hm
  exact hn.2.2 _ hm _ (by simp) rfl
 have hf : kfind (nmap ((namesD l).take k)) x.name = none := by rw [kfind_s]; exact find_none hnot
 rw [kput_new hf, h1]
 unfold nmap
 rw [List.zipIdx_append, h2]
 simp
theorem givenT_nodup : (namesD givenT).Nodup := of_decide_eq_true (by kernel_rfl)
theorem givenDirs_nodup : (namesD givenDirsD).Nodup := of_decide_eq_true (by kernel_rfl)
theorem bt_hp (w0 w K : World) (M : List Ent) (H : Hp w0 w K M) : Calls Tryz.prog 56 #[] w fun e w' => ∃ K' A c, e = .returned (.slice A 13 c) ∧ Sat K' K ∧ Hp w0 w' K' M ∧ RD K' (.list 13 (defsL givenT)) (.slice A 13 c) :=
 (builtTypes_hp w0 w K M H).mono fun e w' ⟨K', A, c, h1, h2, h3, h4⟩ => ⟨K', A, c, h1, h2, h3, h4⟩
theorem bd_hp (w0 w K : World) (M : List Ent) (H : Hp w0 w K M) : Calls Tryz.prog 57 #[] w fun e w' => ∃ K' A c, e = .returned (.slice A 4 c) ∧ Sat K' K ∧ Hp w0 w' K' M ∧ RD K' (.list 4 (defsL givenDirsD)) (.slice A 4 c) :=
 (builtDirs_hp w0 w K M H).mono fun e w' ⟨K', A, c, h1, h2, h3, h4⟩ => ⟨K', A, c, h1, h2, h3, h4⟩
theorem givenT_len : givenT.length = 13 := by kernel_rfl
theorem givenDirs_len : givenDirsD.length = 4 := by kernel_rfl
theorem given_N : defsN givenT ≤ 1000 ∧ defsN givenDirsD ≤ 1000 := ⟨of_decide_eq_true (by kernel_rfl), of_decide_eq_true (by kernel_rfl)⟩
structure BK (K : World) (defs : List DefD) (n : Nat) (v vg vd : Value) (b36 b37 : Nat) : Prop where
 d : RD K (.list n (defsL defs)) v
 g : RD K (.list 13 (defsL givenT)) vg
 r : RD K (.list 4 (defsL givenDirsD)) vd
 o : Km K b36 (kents ks (nmap (namesD givenT)))
 p : Km K b37 (kents ks (nmap (namesD givenDirsD)))
theorem BK.sat {K K' : World} {defs : List DefD} {n : Nat} {v vg vd : Value} {b36 b37 : Nat} (h : BK K defs n v vg vd b36 b37) (hs : Sat K' K) : BK K' defs n v vg vd b36 b37 := ⟨h.d.sat hs, h.g.sat hs, h.r.sat hs, h.o.sat hs, h.p.sat hs⟩
theorem numOf_mem {l : List DefD} {x : Txt} {i : Nat} (h : numOf l x = some i) : x ∈ namesD l := by
 obtain ⟨d, hd, he⟩ := numOf_some h
 exact List.mem_map.2 ⟨d, List.mem_of_getElem? hd, he⟩
theorem step1_8in {p q : List DefD} {d : DefD} (h : d.kind = 8) (hm : d.name ∈ namesD givenDirsD) : step1 (p, q) d = (p, q) := by unfold step1; rw [if_pos h, if_pos hm]
theorem step1_8 {p q : List DefD} {d : DefD} (h : d.kind = 8) (hm : d.name ∉ namesD givenDirsD) : step1 (p, q) d = (p, addD q d) := by unfold step1; rw [if_pos h, if_neg hm]
theorem step1_no {p q : List DefD} {d : DefD} (h : ¬ d.kind = 8) (hm : ¬ IsTy d) : step1 (p, q) d = (p, q) := by unfold step1; rw [if_neg h, if_neg hm]
theorem step1_in {p q : List DefD} {d : DefD} (h : IsTy d) (hm : d.name ∈ namesD givenT) : step1 (p, q) d = (p, q) := by
 have h8 : ¬ d.kind = 8 := by have := h.2.1; omega
 unfold step1; rw [if_neg h8, if_pos h, if_pos hm]
theorem step1_ty {p q : List DefD} {d : DefD} (h : IsTy d) (hm : d.name ∉ namesD givenT) : step1 (p, q) d = (addD p d, q) := by
 have h8 : ¬ d.kind = 8 := by have := h.2.1; omega
 unfold step1; rw [if_neg h8, if_pos h, if_neg hm]
theorem bare_take (l : List DefD) (k : Nat) (hm : defsN l ≤ 3000000) : ((l.take k).foldl step1 ([], [])).1.length ≤ 3000000 ∧ ((l.take k).foldl step1 ([], [])).2.length ≤ 3000000 := by
 have h1 := bare_N (l.take k) ([], [])
 have h2 := sum_take (f := defN) l k
 have h3 := sum_len defN_pos ((l.take k).foldl step1 ([], [])).1
 have h4 := sum_len defN_pos ((l.take k).foldl step1 ([], [])).2
 have h5 : defsN ([] : List DefD) = 0 := rfl
 simp only [h5] at h1
 unfold defsN at h1 hm
 omega
theorem addD_take (l s : List DefD) (k : Nat) : ((l.take k).foldl addD s).length ≤ defsN s + defsN l := by
 have h1 := foldl_N addD_N (l.take k) s
 have h2 := sum_take (f := defN) l k
 have h3 := sum_len defN_pos ((l.take k).foldl addD s)
 unfold defsN at h1 ⊢
 omega
theorem bareN (l : List DefD) : defsN (bare l).1 ≤ defsN l ∧ defsN (bare l).2 ≤ defsN l := by
 have h1 := bare_N l ([], [])
 have h5 : defsN ([] : List DefD) = 0 := rfl
 simp only [h5] at h1
 unfold bare
 omega
theorem step2_none {l : List DefD} {d : DefD} (h : numOf l d.name = none) : ty.step2 l d = l := by unfold ty.step2; rw [h]
theorem step2_no {l : List DefD} {d e : DefD} {i : Nat} (h : numOf l d.name = some i) (he : l[i]? = some e) (hc : ¬ (d.ext = true ∧ d.kind = e.kind ∧ d.kind ≠ 1 ∧ d.name ∉ namesD givenT)) : ty.step2 l d = l := by
 unfold ty.step2; simp only [h, he]; rw [if_neg hc]
theorem step2_yes {l : List DefD} {d e : DefD} {i : Nat} (h : numOf l d.name = some i) (he : l[i]? = some e) (hc : d.ext = true ∧ d.kind = e.kind ∧ d.kind ≠ 1 ∧ d.name ∉ namesD givenT) : ty.step2 l d = l.set i (mergeD e d) := by
 unfold ty.step2; simp only [h, he]; rw [if_pos hc]
theorem ts_split {TS : List (DefD × DV)} {i : Nat} {e : DefD} (h : (TS.map (·.1))[i]? = some e) : ∃ A V B, TS = A ++ (e, V) :: B ∧ A.length = i := by
 rw [List.getElem?_map] at h
 cases hq : TS[i]? with
 | none => rw [hq] at h; cases h
 | some p =>
  rw [hq] at h
  injection h with h
  obtain ⟨e', V⟩ := p
  simp only at h
  subst h
  obtain ⟨hi, hg⟩ := List.getElem?_eq_some_iff.1 hq
  exact ⟨TS.take i, V, TS.drop (i + 1), by rw [← hg]; simp, by rw [List.length_take]; omega⟩
theorem ts_set {A B : List (DefD × DV)} {d e : DefD} {V U : DV} {i : Nat} (h : A.length = i) : ((A ++ (d, V) :: B).map (·.1)).set i e = (A ++ (e, U) :: B).map (·.1) := by
 subst h
 simp only [List.map_append, List.map_cons]
 rw [List.set_append_right _ _ (by simp)]
 simp
def g1N (d : DefD) : Nat := if d.ext = true then 0 else defN d
def g2N (d : DefD) : Nat := if d.ext = true then defN d else 0
theorem g12 : ∀ l : List DefD, sumN g1N l + sumN g2N l = sumN defN l
 | [] => rfl
 | d :: r => by
  have h := g12 r
  simp only [sumN]
  have h2 : g1N d + g2N d = defN d := by unfold g1N g2N; split <;> omega
  omega
theorem bare_g1 : ∀ (l : List DefD) (p : List DefD × List DefD), defsN (l.foldl step1 p).1 ≤ defsN p.1 + sumN g1N l
 | [], p => by simp [sumN]
 | d :: r, p => by
  have h1 := bare_g1 r (step1 p d)
  have h2 : defsN (step1 p d).1 ≤ defsN p.1 + g1N d := by
   have a1 := addD_N p.1 d
   unfold step1
   split
   · dsimp only; omega
   · split
     · rename_i h
       have hg : g1N d = defN d := by unfold g1N; rw [if_neg]; rw [h.2.2]; exact Bool.false_ne_true
       dsimp only; split <;> omega
     · omega
  simp only [List.foldl_cons, sumN] at h1 ⊢
  omega
theorem fold_g2 : ∀ (l s : List DefD), defsN (l.foldl ty.step2 s) ≤ defsN s + sumN g2N l
 | [], s => by simp [sumN]
 | d :: r, s => by
  have h1 := fold_g2 r (ty.step2 s d)
  have h2 : defsN (ty.step2 s d) ≤ defsN s + g2N d := by
   by_cases he : d.ext = true
   · have hg : g2N d = defN d := if_pos he
     have := step2_N s d
     omega
   · have hs : ty.step2 s d = s := by
      unfold ty.step2
      split
      · rfl
      · split
        · rfl
        · rw [if_neg (fun h => he h.1)]
     rw [hs]; omega
  simp only [List.foldl_cons, sumN] at h1 ⊢
  omega
theorem st2_take {l : List DefD} {k : Nat} {x : DefD} (hx : l[k]? = some x) (he : x.ext = true) : defsN ((l.take k).foldl ty.step2 (types1 l)) + defN x ≤ defsN l + defsN givenT := by
 have h1 := fold_g2 (l.take k) (types1 l)
 have h2 := foldl_N addD_N givenT (bare l).1
 have h3 := bare_g1 l ([], [])
 have h4 := g12 l
 have h5 : sumN g2N (l.take k) + g2N x ≤ sumN g2N l := by
  have hl : l = l.take k ++ x :: l.drop (k + 1) := by
   obtain ⟨hi, rfl⟩ := List.getElem?_eq_some_iff.1 hx
   simp
  conv => rhs; rw [hl]
  rw [sum_app]
  simp only [sumN]
  omega
 have h6 : g2N x = defN x := if_pos he
 have h7 : defsN ([] : List DefD) = 0 := rfl
 simp only [h7] at h3
 unfold types1 bare at h1 h2 ⊢
 unfold defsN at h1 h2 h3 ⊢
 omega
theorem p1_len (l : List DefD) : l.length ≤ defsN l := sum_len defN_pos l
theorem Hp.freezeMaps {w0 w : World} {M : List Ent} : ∀ {OB : List (Txt × Nat × List (Txt × Value))} {K : World}, Hp w0 w K (orows OB ++ M) → ∃ K', Sat K' K ∧ Hp w0 w K' M ∧ ∀ p ∈ OB, Km K' p.2.1 (kents ks p.2.2)
 | [], K, H => ⟨K, Sat.refl K, H, fun _ h => by cases h⟩
 | p :: OB, K, H => by
  have H : Hp w0 w K (.map p.2.1 (kents ks p.2.2) :: (orows OB ++ M)) := H
  obtain ⟨K1, s1, H, h1⟩ := H.freezeKm
  obtain ⟨K2, s2, H, h2⟩ := Hp.freezeMaps (OB := OB) H
  refine ⟨K2, s2.trans s1, H, fun q hq => ?_⟩
  rcases List.mem_cons.1 hq with rfl | hq
  · exact h1.sat s2
  · exact h2 q hq
def BldP (D : TysD) (w0 K : World) (M : List Ent) (e : Ending) (w' : World) : Prop :=
 ∃ K' g, e = .returned (.pointer (some ⟨g, 0, none⟩)) ∧ Sat K' K ∧ Hp w0 w' K' M ∧ TysK K' g D
set_option maxHeartbeats 64000000 in
theorem Build_hp (defs : List DefD) (n c : Nat) (A : Option Addr) (w0 w K : World) (M : List Ent) (H : Hp w0 w K M) (hn : defs.length = n) (hd : RD K (.list n (defsL defs)) (.slice A n c)) (hm : defsN defs ≤ 3000000) :
  Calls Tryz.prog 14 #[.slice A n c] w (BldP (buildD defs) w0 K M) := by
 have hnl : n ≤ 3000000 := by have := sum_len defN_pos defs; unfold defsN at hm; omega
 have HN := hide hn
 clear hn
 have hsz : (Tryz.prog.info? 43).map (·.size) = some 17 := def_size
 have hgl := hide givenT_len
 have hrl := hide givenDirs_len
 go_enter Tryz.func14, Tryz.ntmps14
 have hK := Sat.refl K
 go_upto_region 2 with (first
  | (refine makeMap_hp (by rfl) 87 (by rfl) (some 28) (by rfl) H ?_; clear H; intro w1 b28 H; replace H : Hp _ _ _ (.map b28 (kents ks []) :: _) := H)
  | (refine makeMap_hp (by rfl) 87 (by rfl) (some 29) (by rfl) H ?_; clear H; intro w2 b29 H; replace H : Hp _ _ _ (.map b29 (kents ks []) :: _) := H)
  | (refine makeMap_hp (by rfl) 88 (by rfl) (some 30) (by rfl) H ?_; clear H; intro w3 b30 H; replace H : Hp _ _ _ (.map b30 (kents ks []) :: _) := H)
  | (refine makeMap_hp (by rfl) 89 (by rfl) (some 31) (by rfl) H ?_; clear H; intro w4 b31 H; replace H : Hp _ _ _ (.map b31 (kents ks []) :: _) := H)
  | (refine box_hp (by rfl) 91 (.tmp 32) (by rfl) [.int .i64 0, .bool false, .bool false, .bool false, .string ⟨#[]⟩, .string ⟨#[]⟩, .slice none 0 0, .slice none 0 0, .slice none 0 0, .slice none 0 0, .slice none 0 0, .slice none 0 0, .slice none 0 0, .bool false, .slice none 0 0, .int .i64 0, .int .i64 0, .slice none 0 0, .map (some b28), .slice none 0 0, .map (some b29), .map (some b30), .map (some b31)] _ (by rfl) (by rfl) (some 33) (by rfl) H ?_; clear H; intro w5 g33 H hg6; clear hg6))
 go_upto_region 3 with (first
  | (go_at_call 56; refine (bt_hp _ _ _ _ H).mono ?_; clear H; rintro e w5 ⟨K5, Ag, cg, rfl, hle, H, hgv⟩; replace hd := hd.sat hle; replace hK := hle.trans hK)
  | (go_at_call 57; refine (bd_hp _ _ _ _ H).mono ?_; clear H; rintro e w6 ⟨K6, Ad, cd, rfl, hle, H, hdv⟩; replace hd := hd.sat hle; replace hgv := hgv.sat hle; replace hK := hle.trans hK))
 obtain ⟨M1, hM1⟩ : ∃ x, ((.box g33 [.int .i64 0, .bool false, .bool false, .bool false, .string ⟨#[]⟩, .string ⟨#[]⟩, .slice none 0 0, .slice none 0 0, .slice none 0 0, .slice none 0 0, .slice none 0 0, .slice none 0 0, .slice none 0 0, .bool false, .slice none 0 0, .int .i64 0, .int .i64 0, .slice none 0 0, .map (some b28), .slice none 0 0, .map (some b29), .map (some b30), .map (some b31)] 91 :: .map b31 (kents ks []) :: .map b30 (kents ks []) :: .map b29 (kents ks []) :: .map b28 (kents ks []) :: M)) = x := ⟨_, rfl⟩
 rw [hM1] at H
 go_upto_region 5 with (first
  | (refine makeMap_hp (by rfl) 87 (by rfl) (some 36) (by rfl) H ?_; clear H; intro w9 b36 H; replace H : Hp _ _ _ (.map b36 (kents ks []) :: _) := H)
  | (refine makeMap_hp (by rfl) 87 (by rfl) (some 37) (by rfl) H ?_; clear H; intro w10 b37 H; replace H : Hp _ _ _ (.map b37 (kents ks []) :: _) := H))
 go_wp2_with fail
 go_loopw [40] (fun i wr => ∃ (k : Nat), k ≤ 13 ∧ i = .int .i64 k ∧ Hp w0 wr K6 (.map b37 [] :: .map b36 (kents ks (nmap ((namesD givenT).take k))) :: M1)) (fun i _ => 13 - (intOf i).toNat)
 case atStart => exact ⟨0, Nat.zero_le _, rfl, H⟩
 case round =>
  clear H
  obtain ⟨k, hk, rfl, H⟩ := hrel
  by_cases hlt : k < 13
  · have hkI : (k : Int) < (13 : Int) := by omega
    as_aux_lemma =>
     obtain ⟨x, hx⟩ : ∃ x, givenT[k]? = some x := ⟨_, List.getElem?_eq_getElem (by rw [hgl.out]; exact hlt)⟩
     obtain ⟨ad, xs, had, hxd, hxl, hatK⟩ := elem_k (m := 17) (f := defL) defL_len hgv hx (by omega)
     subst had
     obtain ⟨A6, c6, A7, c7, A8, c8, A9, c9, A10, c10, A11, c11, A12, c12, A14, c14, hxs, -, -, -, -, -, -, -, -⟩ := def_cells hxd
     have hown := own_step givenT_nodup hx
     clear hx hxd
     subst hxs
     go_upto_region 8 with (first
      | ((with_reducible show wpList _ _ _ (_ :: _) _ _); refine wpList_load_at (by rfl) 43 (.tmp 43) (by rfl) (ad.add (k * 17)) (by simp [Act.eval, Act.put]) _ _ (At.sat hatK H.sat) Tryz.underlying43 rfl hsz ?_)
      | ((with_reducible refine isL ?_); first
       | (refine al z43 9 H ?_; clear H; intro w11 g9 H)
       | (refine sA 9 0 H ?_; clear H; intro w13 H)))
     have := H.c 0 5
     go_upto_region 9 with (first
      | (refine update_k (by rfl) (.tmp 45) (.tmp 47) (.tmp 48) 87 (by rfl) Tryz.underlying87 (keys_s Tryz.underlying9) H 2 b36 (nmap ((namesD givenT).take k)) (by rfl) (by first | rfl | simp [Act.eval, Act.put]) (x.name) (by first | rfl | simp [Act.eval, Act.put]) (.int .i64 (k : Int)) (by first | rfl | simp [Act.eval, Act.put]) (nmap ((namesD givenT).take (k + 1))) (hown) ?_; clear H; intro w14 H; replace H : Hp _ _ _ (_ :: _ :: _ :: M1) := H; have := H.c 0 5))
     replace H := H.sub (List.Sublist.cons _ (List.Sublist.cons_cons _ (List.Sublist.cons_cons _ (List.Sublist.refl _))))
     go_wp2_with fail
     go_roundw
     case rel => exact ⟨k + 1, by omega, by go_num, H⟩
     case measure => simp [intOf]; omega
  · have hk13 : k = 13 := by omega
    have hkI : ¬ (k : Int) < 13 := by omega
    rw [hk13] at H
    clear hk13 hlt
    have htk : (namesD givenT).take 13 = namesD givenT := List.take_of_length_le (by rw [List.length_map, hgl.out]; exact Nat.le_refl _)
    rw [htk] at H
    clear htk
    go_wp2_with fail
    go_loopw [52] (fun i wr => ∃ (k : Nat), k ≤ 4 ∧ i = .int .i64 k ∧ Hp w0 wr K6 (.map b37 (kents ks (nmap ((namesD givenDirsD).take k))) :: .map b36 (kents ks (nmap (namesD givenT))) :: M1)) (fun i _ => 4 - (intOf i).toNat)
    case atStart => exact ⟨0, Nat.zero_le _, rfl, H⟩
    case round =>
     clear H
     obtain ⟨k, hk, rfl, H⟩ := hrel
     by_cases hlt : k < 4
     · have hkI : (k : Int) < (4 : Int) := by omega
       as_aux_lemma =>
        obtain ⟨x, hx⟩ : ∃ x, givenDirsD[k]? = some x := ⟨_, List.getElem?_eq_getElem (by rw [hrl.out]; exact hlt)⟩
        obtain ⟨ad, xs, had, hxd, hxl, hatK⟩ := elem_k (m := 17) (f := defL) defL_len hdv hx (by omega)
        subst had
        obtain ⟨A6, c6, A7, c7, A8, c8, A9, c9, A10, c10, A11, c11, A12, c12, A14, c14, hxs, -, -, -, -, -, -, -, -⟩ := def_cells hxd
        have hown := own_step givenDirs_nodup hx
        clear hx hxd
        subst hxs
        go_upto_region 13 with (first
         | ((with_reducible show wpList _ _ _ (_ :: _) _ _); refine wpList_load_at (by rfl) 43 (.tmp 55) (by rfl) (ad.add (k * 17)) (by simp [Act.eval, Act.put]) _ _ (At.sat hatK H.sat) Tryz.underlying43 rfl hsz ?_)
         | ((with_reducible refine isL ?_); first
          | (refine al z43 11 H ?_; clear H; intro w15 g11 H)
          | (refine sA 11 0 H ?_; clear H; intro w17 H)))
        have := H.c 0 5
        go_upto_region 14 with (first
         | (refine update_k (by rfl) (.tmp 57) (.tmp 59) (.tmp 60) 87 (by rfl) Tryz.underlying87 (keys_s Tryz.underlying9) H 1 b37 (nmap ((namesD givenDirsD).take k)) (by rfl) (by first | rfl | simp [Act.eval, Act.put]) (x.name) (by first | rfl | simp [Act.eval, Act.put]) (.int .i64 (k : Int)) (by first | rfl | simp [Act.eval, Act.put]) (nmap ((namesD givenDirsD).take (k + 1))) (hown) ?_; clear H; intro w18 H; replace H : Hp _ _ _ (_ :: _ :: _ :: M1) := H; have := H.c 0 5))
        replace H := H.sub (List.Sublist.cons _ (List.Sublist.cons_cons _ (List.Sublist.cons_cons _ (List.Sublist.refl _))))
        go_wp2_with fail
        go_roundw
        case rel => exact ⟨k + 1, by omega, by go_num, H⟩
        case measure => simp [intOf]; omega
     · have hk4 : k = 4 := by omega
       have hkJ : ¬ (k : Int) < 4 := by omega
       rw [hk4] at H
       clear hk4 hlt
       have htk : (namesD givenDirsD).take 4 = namesD givenDirsD := List.take_of_length_le (by rw [List.length_map, hrl.out]; exact Nat.le_refl _)
       rw [htk] at H
       clear htk
       obtain ⟨K7, s7, H, hod⟩ := H.freezeKm
       obtain ⟨K8, s8, H, how⟩ := H.freezeKm
       have hB : BK K8 defs n (.slice A n c) (.slice Ag 13 cg) (.slice Ad 4 cd) b36 b37 := ⟨(hd.sat s7).sat s8, (hgv.sat s7).sat s8, (hdv.sat s7).sat s8, how, hod.sat s8⟩
       replace hK := (s8.trans s7).trans hK
       clear s7 s8 hod how hd hgv hdv
       subst hM1
       obtain ⟨M2, hM2⟩ : ∃ x, (.map b30 [] :: .map b31 [] :: M) = x := ⟨_, rfl⟩
       have H1 := Hp.rotAt [tbox g33 b28 b29 b30 b31 (.slice none 0 0) (.slice none 0 0)] [.map b31 [], .map b30 [], .map b29 []] [.map b28 []] (M := M) H
       have H2 := Hp.rotAt [tbox g33 b28 b29 b30 b31 (.slice none 0 0) (.slice none 0 0), .map b28 []] [.map b31 [], .map b30 []] [.map b29 []] (M := M) H1
       have H3 := Hp.rotAt [tbox g33 b28 b29 b30 b31 (.slice none 0 0) (.slice none 0 0), .map b28 [], .map b29 []] [.map b31 []] [.map b30 []] (M := M) H2
       have H4 := (H3.nilRow 43 17).nilRow 43 17
       have H5 := Hp.rotAt [] [.row 43 17 (.slice none 0 0) 0 [], .row 43 17 (.slice none 0 0) 0 []] [tbox g33 b28 b29 b30 b31 (.slice none 0 0) (.slice none 0 0), .map b28 []] (M := .map b29 [] :: .map b30 [] :: .map b31 [] :: M) H4
       have H6 := Hp.rotAt [tbox g33 b28 b29 b30 b31 (.slice none 0 0) (.slice none 0 0), .map b28 [], .row 43 17 (.slice none 0 0) 0 []] [.row 43 17 (.slice none 0 0) 0 []] [.map b29 []] (M := .map b30 [] :: .map b31 [] :: M) H5
       have hS : Bst g33 b28 b29 b30 b31 [] [] w0 wr K8 M2 := by
        rw [← hM2]
        exact ⟨[], .slice none 0 0, .slice none 0 0, [], rfl, (fun p hp => by cases hp), RL.z, H6⟩
       clear H H1 H2 H3 H4 H5 H6
       go_wp2_with fail
       go_loopw [64] (fun i wr => ∃ (k : Nat) (K7 : World), k ≤ n ∧ i = .int .i64 k ∧ Sat K7 K ∧ BK K7 defs n (.slice A n c) (.slice Ag 13 cg) (.slice Ad 4 cd) b36 b37 ∧ Bst g33 b28 b29 b30 b31 ((defs.take k).foldl step1 ([], [])).1 ((defs.take k).foldl step1 ([], [])).2 w0 wr K7 M2) (fun i _ => n - (intOf i).toNat)
       case atStart => exact ⟨0, K8, Nat.zero_le _, rfl, hK, hB, hS⟩
       case round =>
        clear hS hB hK
        obtain ⟨k, K7, hk, rfl, hK, hB, hS⟩ := hrel
        by_cases hlt : k < n
        · have hkI : (k : Int) < (n : Int) := by omega
          as_aux_lemma =>
           obtain ⟨x, hx⟩ : ∃ x, defs[k]? = some x := ⟨_, List.getElem?_eq_getElem (by rw [HN.out]; exact hlt)⟩
           obtain ⟨ad, xs, had, hxd, hxl, hatK⟩ := elem_k (m := 17) (f := defL) defL_len hB.d hx (by omega)
           subst had
           obtain ⟨A6, c6, A7, c7, A8, c8, A9, c9, A10, c10, A11, c11, A12, c12, A14, c14, hxs, -, -, -, -, -, -, -, -⟩ := def_cells hxd
           have hxN := defN_at hx
           have hxm : defN x ≤ 9000000 := by omega
           have hpl := bare_take defs k (by omega)
           have HE := hide (fold_next hx step1 ([], []))
           clear hx
           obtain ⟨⟨p1, p2⟩, hp⟩ : ∃ p, (defs.take k).foldl step1 ([], []) = p := ⟨_, rfl⟩
           rw [hp] at HE hS hpl
           clear hp
           obtain ⟨TS, VT, VD, xD, hts, hok, hxD, H⟩ := Bst.to [] hS
           clear hS
           obtain ⟨kd, hkd⟩ : ∃ kd, x.kind = kd := ⟨_, rfl⟩
           obtain ⟨ex, hex⟩ : ∃ ex, x.ext = ex := ⟨_, rfl⟩
           rw [hkd, hex] at hxs
           have HKD := hide hkd
           have HEX := hide hex
           clear hkd hex
           subst hxs
           have hqr := nmap_kfind givenDirsD x.name
           have hqg := nmap_kfind givenT x.name
           replace H : Hp _ _ _ (.box _ [_, _, _, _, _, _, _, _, _, _, _, _, _, _, _, _, _, _, _, _, _, _, _] _ :: _ :: _ :: _ :: _ :: (trows TS ++ M2)) := H
           try dsimp only at H
           go_upto_region 18 with (first
            | ((with_reducible show wpList _ _ _ (_ :: _) _ _); refine wpList_load_at (by rfl) 43 (.tmp 66) (by rfl) (ad.add (k * 17)) (by simp [Act.eval, Act.put]) _ _ (At.sat hatK H.sat) Tryz.underlying43 rfl hsz ?_)
            | ((with_reducible refine isL ?_); first
             | (refine al z43 13 H ?_; clear H; intro w19 g13 H)
             | (refine sA 13 0 H ?_; clear H; intro w21 H)))
           clear hatK
           by_cases h8 : kd = 8
           · subst h8
             cases hi : numOf givenDirsD x.name with
             | some i =>
              rw [hi] at hqr
              have HST := hide (step1_8in (p := p1) (q := p2) HKD.out (numOf_mem hi))
              have := H.c 0 0
              have := H.c 0 5
              go_wp2_with (first
               | (refine lookup_k (by rfl) (.tmp 73) (.tmp 75) 87 true (by rfl) Tryz.underlying87 (keys_s Tryz.underlying9) (.int .i64 0) zero_int b37 (nmap (namesD givenDirsD)) (H.kmap hB.p) (by first | rfl | simp [Act.eval, Act.put]) (x.name) (by first | rfl | simp [Act.eval, Act.put]) (.tuple #[.int .i64 (i : Int), .bool true]) (by rw [hqr]; rfl) ?_))
              replace H := H.sub (List.Sublist.cons _ (List.Sublist.cons_cons _ (List.Sublist.cons_cons _ (List.Sublist.cons_cons _ (List.Sublist.cons_cons _ (List.Sublist.cons_cons _ (List.Sublist.refl _)))))))
              go_roundw
              case rel => exact ⟨k + 1, K7, by omega, by go_num, hK, hB, by rw [HE.out, HST.out]; exact Bst.of [] hts hok hxD H⟩
              case measure => simp [intOf]; omega
             | none =>
              rw [hi] at hqr
              have HST := hide (step1_8 (p := p1) (q := p2) HKD.out (numOf_none hi))
              have := H.c 0 0
              have := H.c 0 5
              go_upto_region 21 with (first
               | (refine lookup_k (by rfl) (.tmp 73) (.tmp 75) 87 true (by rfl) Tryz.underlying87 (keys_s Tryz.underlying9) (.int .i64 0) zero_int b37 (nmap (namesD givenDirsD)) (H.kmap hB.p) (by first | rfl | simp [Act.eval, Act.put]) (x.name) (by first | rfl | simp [Act.eval, Act.put]) (.tuple #[.int .i64 0, .bool false]) (by rw [hqr]; rfl) ?_))
              go_wp2_with (first
               | (go_at_call 58; refine (addDir_at [.box g13 [.int .i64 8, .bool ex, .bool x.note.has, .bool x.note.block, .string (str x.note.text), .string (str x.name), .slice A6 x.ifaces.length c6, .slice A7 x.dirs.length c7, .slice A8 x.fields.length c8, .slice A9 x.inputs.length c9, .slice A10 x.members.length c10, .slice A11 x.values.length c11, .slice A12 x.roots.length c12, .bool x.rep, .slice A14 x.places.length c14, .int .i64 x.line, .int .i64 x.col] 43] x _ g33 b28 b29 b30 b31 p1 p2 hts hok hxD H hxd hxm (by omega)).mono ?_; clear H; rintro e w9 ⟨K9, TS9, VT9, VD9, xD9, rfl, hle9, hts9, hok9, hxD9, H⟩)
               | ((with_reducible refine isL ?_); first
                | (refine ld 13 0 17 Tryz.underlying43 H ?_)))
              replace H := Hp.tail H
              go_roundw
              case rel => exact ⟨k + 1, K9, by omega, by go_num, hle9.trans hK, hB.sat hle9, by rw [HE.out, HST.out]; exact Bst.of [] hts9 hok9 hxD9 H⟩
              case measure => simp [intOf]; omega
           · have HN8 : ¬ x.kind = 8 := by rw [HKD.out]; exact h8
             have HN8 := hide HN8
             by_cases hty : 2 ≤ kd ∧ kd ≤ 7 ∧ ex = false
             · obtain ⟨h2, h7, hx0⟩ := hty
               subst hx0
               have HTY : IsTy x := ⟨by rw [HKD.out]; exact h2, by rw [HKD.out]; exact h7, HEX.out⟩
               have HTY := hide HTY
               cases hi : numOf givenT x.name with
               | some i =>
                rw [hi] at hqg
                have HST := hide (step1_in (p := p1) (q := p2) HTY.out (numOf_mem hi))
                have cfK : (w21).cell? ⟨g13, 0, none⟩ = some (.int .i64 kd) := H.cell (i := 0) rfl rfl
                go_upto_region 22 with (fail)
                have := H.c 0 0
                have := H.c 0 1
                have := H.c 0 5
                go_wp2_with (first
                 | (refine lookup_k (by rfl) (.tmp 99) (.tmp 101) 87 true (by rfl) Tryz.underlying87 (keys_s Tryz.underlying9) (.int .i64 0) zero_int b36 (nmap (namesD givenT)) (H.kmap hB.o) (by first | rfl | simp [Act.eval, Act.put]) (x.name) (by first | rfl | simp [Act.eval, Act.put]) (.tuple #[.int .i64 (i : Int), .bool true]) (by rw [hqg]; rfl) ?_))
                replace H := H.sub (List.Sublist.cons _ (List.Sublist.cons_cons _ (List.Sublist.cons_cons _ (List.Sublist.cons_cons _ (List.Sublist.cons_cons _ (List.Sublist.cons_cons _ (List.Sublist.refl _)))))))
                go_roundw
                case rel => exact ⟨k + 1, K7, by omega, by go_num, hK, hB, by rw [HE.out, HST.out]; exact Bst.of [] hts hok hxD H⟩
                case measure => simp [intOf]; omega
               | none =>
                rw [hi] at hqg
                have HST := hide (step1_ty (p := p1) (q := p2) HTY.out (numOf_none hi))
                have cfK : (w21).cell? ⟨g13, 0, none⟩ = some (.int .i64 kd) := H.cell (i := 0) rfl rfl
                go_upto_region 22 with (fail)
                have := H.c 0 0
                have := H.c 0 1
                have := H.c 0 5
                go_upto_region 25 with (first
                 | (refine lookup_k (by rfl) (.tmp 99) (.tmp 101) 87 true (by rfl) Tryz.underlying87 (keys_s Tryz.underlying9) (.int .i64 0) zero_int b36 (nmap (namesD givenT)) (H.kmap hB.o) (by first | rfl | simp [Act.eval, Act.put]) (x.name) (by first | rfl | simp [Act.eval, Act.put]) (.tuple #[.int .i64 0, .bool false]) (by rw [hqg]; rfl) ?_))
                go_wp2_with (first
                 | (go_at_call 59; refine (addType_at [.box g13 [.int .i64 kd, .bool false, .bool x.note.has, .bool x.note.block, .string (str x.note.text), .string (str x.name), .slice A6 x.ifaces.length c6, .slice A7 x.dirs.length c7, .slice A8 x.fields.length c8, .slice A9 x.inputs.length c9, .slice A10 x.members.length c10, .slice A11 x.values.length c11, .slice A12 x.roots.length c12, .bool x.rep, .slice A14 x.places.length c14, .int .i64 x.line, .int .i64 x.col] 43] x _ g33 b28 b29 b30 b31 p1 p2 hts hok hxD H hxd hxm (by omega)).mono ?_; clear H; rintro e w9 ⟨K9, TS9, VT9, VD9, xD9, rfl, hle9, hts9, hok9, hxD9, H⟩)
                 | ((with_reducible refine isL ?_); first
                  | (refine ld 13 0 17 Tryz.underlying43 H ?_)))
                replace H := Hp.tail H
                go_roundw
                case rel => exact ⟨k + 1, K9, by omega, by go_num, hle9.trans hK, hB.sat hle9, by rw [HE.out, HST.out]; exact Bst.of [] hts9 hok9 hxD9 H⟩
                case measure => simp [intOf]; omega
             · have HNT : ¬ IsTy x := fun h => hty ⟨by rw [← HKD.out]; exact h.1, by rw [← HKD.out]; exact h.2.1, by rw [← HEX.out]; exact h.2.2⟩
               have HST := hide (step1_no (p := p1) (q := p2) HN8.out HNT)
               clear HNT
               have cfK : (w21).cell? ⟨g13, 0, none⟩ = some (.int .i64 kd) := H.cell (i := 0) rfl rfl
               go_upto_region 22 with (fail)
               by_cases h2 : 2 ≤ kd
               · by_cases h7 : kd ≤ 7
                 · have hx1 : ex = true := by
                    cases ex with
                    | true => rfl
                    | false => exact absurd ⟨h2, h7, rfl⟩ hty
                   clear hty
                   subst hx1
                   have := H.c 0 0
                   have := H.c 0 1
                   go_wp2_with fail
                   replace H := H.sub (List.Sublist.cons _ (List.Sublist.cons_cons _ (List.Sublist.cons_cons _ (List.Sublist.cons_cons _ (List.Sublist.cons_cons _ (List.Sublist.cons_cons _ (List.Sublist.refl _)))))))
                   go_roundw
                   case rel => exact ⟨k + 1, K7, by omega, by go_num, hK, hB, by rw [HE.out, HST.out]; exact Bst.of [] hts hok hxD H⟩
                   case measure => simp [intOf]; omega
                 · clear hty
                   have := H.c 0 0
                   have := H.c 0 1
                   go_wp2_with fail
                   replace H := H.sub (List.Sublist.cons _ (List.Sublist.cons_cons _ (List.Sublist.cons_cons _ (List.Sublist.cons_cons _ (List.Sublist.cons_cons _ (List.Sublist.cons_cons _ (List.Sublist.refl _)))))))
                   go_roundw
                   case rel => exact ⟨k + 1, K7, by omega, by go_num, hK, hB, by rw [HE.out, HST.out]; exact Bst.of [] hts hok hxD H⟩
                   case measure => simp [intOf]; omega
               · clear hty
                 have := H.c 0 0
                 have := H.c 0 1
                 go_wp2_with fail
                 replace H := H.sub (List.Sublist.cons _ (List.Sublist.cons_cons _ (List.Sublist.cons_cons _ (List.Sublist.cons_cons _ (List.Sublist.cons_cons _ (List.Sublist.cons_cons _ (List.Sublist.refl _)))))))
                 go_roundw
                 case rel => exact ⟨k + 1, K7, by omega, by go_num, hK, hB, by rw [HE.out, HST.out]; exact Bst.of [] hts hok hxD H⟩
                 case measure => simp [intOf]; omega
        · obtain rfl : n = k := by omega
          have htk : defs.take n = defs := by rw [← HN.out]; exact List.take_length
          rw [htk] at hS
          clear htk
          have hb12 := bareN defs
          have hgN := given_N
          go_wp2_with fail
          go_loopw [113] (fun i wr => ∃ (k : Nat) (K7 : World), k ≤ 13 ∧ i = .int .i64 k ∧ Sat K7 K ∧ BK K7 defs n (.slice A n c) (.slice Ag 13 cg) (.slice Ad 4 cd) b36 b37 ∧ Bst g33 b28 b29 b30 b31 ((givenT.take k).foldl addD (bare defs).1) (bare defs).2 w0 wr K7 M2) (fun i _ => 13 - (intOf i).toNat)
          case atStart => exact ⟨0, K7, Nat.zero_le _, rfl, hK, hB, hS⟩
          case round =>
           clear hS hB hK
           obtain ⟨k, K7, hk, rfl, hK, hB, hS⟩ := hrel
           by_cases hlt : k < 13
           · have hkI : (k : Int) < (13 : Int) := by omega
             as_aux_lemma =>
              obtain ⟨x, hx⟩ : ∃ x, givenT[k]? = some x := ⟨_, List.getElem?_eq_getElem (by rw [hgl.out]; exact hlt)⟩
              obtain ⟨ad, xs, had, hxd, hxl, hatK⟩ := elem_k (m := 17) (f := defL) defL_len hB.g hx (by omega)
              subst had
              obtain ⟨A6, c6, A7, c7, A8, c8, A9, c9, A10, c10, A11, c11, A12, c12, A14, c14, hxs, -, -, -, -, -, -, -, -⟩ := def_cells hxd
              have hxN := defN_at hx
              have hxm : defN x ≤ 9000000 := by omega
              have hpl := addD_take givenT (bare defs).1 k
              have HE := hide (fold_next hx addD (bare defs).1)
              clear hx
              obtain ⟨p1, hp⟩ : ∃ p, (givenT.take k).foldl addD (bare defs).1 = p := ⟨_, rfl⟩
              rw [hp] at HE hS hpl
              clear hp
              obtain ⟨TS, VT, VD, xD, hts, hok, hxD, H⟩ := Bst.to [] hS
              clear hS
              subst hxs
              replace H : Hp _ _ _ (.box _ [_, _, _, _, _, _, _, _, _, _, _, _, _, _, _, _, _, _, _, _, _, _, _] _ :: _ :: _ :: _ :: _ :: (trows TS ++ M2)) := H
              try dsimp only at H
              go_upto_region 30 with (first
               | ((with_reducible show wpList _ _ _ (_ :: _) _ _); refine wpList_load_at (by rfl) 43 (.tmp 115) (by rfl) (ad.add (k * 17)) (by simp [Act.eval, Act.put]) _ _ (At.sat hatK H.sat) Tryz.underlying43 rfl hsz ?_)
               | ((with_reducible refine isL ?_); first
                | (refine al z43 19 H ?_; clear H; intro w24 g19 H)
                | (refine sA 19 0 H ?_; clear H; intro w26 H)))
              clear hatK
              go_wp2_with (first
               | (go_at_call 59; refine (addType_at [.box g19 [.int .i64 x.kind, .bool x.ext, .bool x.note.has, .bool x.note.block, .string (str x.note.text), .string (str x.name), .slice A6 x.ifaces.length c6, .slice A7 x.dirs.length c7, .slice A8 x.fields.length c8, .slice A9 x.inputs.length c9, .slice A10 x.members.length c10, .slice A11 x.values.length c11, .slice A12 x.roots.length c12, .bool x.rep, .slice A14 x.places.length c14, .int .i64 x.line, .int .i64 x.col] 43] x _ g33 b28 b29 b30 b31 p1 (bare defs).2 hts hok hxD H hxd hxm (by omega)).mono ?_; clear H; rintro e w9 ⟨K9, TS9, VT9, VD9, xD9, rfl, hle9, hts9, hok9, hxD9, H⟩)
               | ((with_reducible refine isL ?_); first
                | (refine ld 19 0 17 Tryz.underlying43 H ?_)))
              replace H := Hp.tail H
              go_roundw
              case rel => exact ⟨k + 1, K9, by omega, by go_num, hle9.trans hK, hB.sat hle9, by rw [HE.out]; exact Bst.of [] hts9 hok9 hxD9 H⟩
              case measure => simp [intOf]; omega
           · have hk13 : k = 13 := by omega
             have hkI : ¬ (k : Int) < 13 := by omega
             rw [hk13] at hS
             clear hk13 hlt
             have htk : givenT.take 13 = givenT := List.take_of_length_le (by rw [hgl.out]; exact Nat.le_refl _)
             rw [htk] at hS
             clear htk
             go_wp2_with fail
             go_loopw [123] (fun i wr => ∃ (k : Nat) (K7 : World), k ≤ 4 ∧ i = .int .i64 k ∧ Sat K7 K ∧ BK K7 defs n (.slice A n c) (.slice Ag 13 cg) (.slice Ad 4 cd) b36 b37 ∧ Bst g33 b28 b29 b30 b31 (types1 defs) ((givenDirsD.take k).foldl addD (bare defs).2) w0 wr K7 M2) (fun i _ => 4 - (intOf i).toNat)
             case atStart => exact ⟨0, K7, Nat.zero_le _, rfl, hK, hB, hS⟩
             case round =>
              clear hS hB hK
              obtain ⟨k, K7, hk, rfl, hK, hB, hS⟩ := hrel
              by_cases hlt : k < 4
              · have hkI : (k : Int) < (4 : Int) := by omega
                as_aux_lemma =>
                 obtain ⟨x, hx⟩ : ∃ x, givenDirsD[k]? = some x := ⟨_, List.getElem?_eq_getElem (by rw [hrl.out]; exact hlt)⟩
                 obtain ⟨ad, xs, had, hxd, hxl, hatK⟩ := elem_k (m := 17) (f := defL) defL_len hB.r hx (by omega)
                 subst had
                 obtain ⟨A6, c6, A7, c7, A8, c8, A9, c9, A10, c10, A11, c11, A12, c12, A14, c14, hxs, -, -, -, -, -, -, -, -⟩ := def_cells hxd
                 have hxN := defN_at hx
                 have hxm : defN x ≤ 9000000 := by omega
                 have hpl := addD_take givenDirsD (bare defs).2 k
                 have HE := hide (fold_next hx addD (bare defs).2)
                 clear hx
                 obtain ⟨p1, hp⟩ : ∃ p, (givenDirsD.take k).foldl addD (bare defs).2 = p := ⟨_, rfl⟩
                 rw [hp] at HE hS hpl
                 clear hp
                 obtain ⟨TS, VT, VD, xD, hts, hok, hxD, H⟩ := Bst.to [] hS
                 clear hS
                 subst hxs
                 replace H : Hp _ _ _ (.box _ [_, _, _, _, _, _, _, _, _, _, _, _, _, _, _, _, _, _, _, _, _, _, _] _ :: _ :: _ :: _ :: _ :: (trows TS ++ M2)) := H
                 try dsimp only at H
                 go_upto_region 35 with (first
                  | ((with_reducible show wpList _ _ _ (_ :: _) _ _); refine wpList_load_at (by rfl) 43 (.tmp 125) (by rfl) (ad.add (k * 17)) (by simp [Act.eval, Act.put]) _ _ (At.sat hatK H.sat) Tryz.underlying43 rfl hsz ?_)
                  | ((with_reducible refine isL ?_); first
                   | (refine al z43 21 H ?_; clear H; intro w28 g21 H)
                   | (refine sA 21 0 H ?_; clear H; intro w30 H)))
                 clear hatK
                 go_wp2_with (first
                  | (go_at_call 58; refine (addDir_at [.box g21 [.int .i64 x.kind, .bool x.ext, .bool x.note.has, .bool x.note.block, .string (str x.note.text), .string (str x.name), .slice A6 x.ifaces.length c6, .slice A7 x.dirs.length c7, .slice A8 x.fields.length c8, .slice A9 x.inputs.length c9, .slice A10 x.members.length c10, .slice A11 x.values.length c11, .slice A12 x.roots.length c12, .bool x.rep, .slice A14 x.places.length c14, .int .i64 x.line, .int .i64 x.col] 43] x _ g33 b28 b29 b30 b31 (types1 defs) p1 hts hok hxD H hxd hxm (by omega)).mono ?_; clear H; rintro e w9 ⟨K9, TS9, VT9, VD9, xD9, rfl, hle9, hts9, hok9, hxD9, H⟩)
                  | ((with_reducible refine isL ?_); first
                   | (refine ld 21 0 17 Tryz.underlying43 H ?_)))
                 replace H := Hp.tail H
                 go_roundw
                 case rel => exact ⟨k + 1, K9, by omega, by go_num, hle9.trans hK, hB.sat hle9, by rw [HE.out]; exact Bst.of [] hts9 hok9 hxD9 H⟩
                 case measure => simp [intOf]; omega
              · have hk4 : k = 4 := by omega
                have hkJ : ¬ (k : Int) < 4 := by omega
                rw [hk4] at hS
                clear hk4 hlt
                have htk : givenDirsD.take 4 = givenDirsD := List.take_of_length_le (by rw [hrl.out]; exact Nat.le_refl _)
                rw [htk] at hS
                clear htk
                have hds : givenDirsD.foldl addD (bare defs).2 = dirsOf defs := rfl
                rw [hds] at hS
                clear hds
                go_wp2_with fail
                go_loopw [133] (fun i wr => ∃ (k : Nat) (K7 : World), k ≤ n ∧ i = .int .i64 k ∧ Sat K7 K ∧ BK K7 defs n (.slice A n c) (.slice Ag 13 cg) (.slice Ad 4 cd) b36 b37 ∧ Bst g33 b28 b29 b30 b31 ((defs.take k).foldl ty.step2 (types1 defs)) (dirsOf defs) w0 wr K7 M2) (fun i _ => n - (intOf i).toNat)
                case atStart => exact ⟨0, K7, Nat.zero_le _, rfl, hK, hB, by rw [List.take_zero, List.foldl_nil]; exact hS⟩
                case round =>
                 clear hS hB hK
                 obtain ⟨k, K7, hk, rfl, hK, hB, hS⟩ := hrel
                 by_cases hlt : k < n
                 · have hkI : (k : Int) < (n : Int) := by omega
                   obtain ⟨x, hx⟩ : ∃ x, defs[k]? = some x := ⟨_, List.getElem?_eq_getElem (by rw [HN.out]; exact hlt)⟩
                   obtain ⟨ad, xs, had, hxd, hxl, hatK⟩ := elem_k (m := 17) (f := defL) defL_len hB.d hx (by omega)
                   subst had
                   obtain ⟨A6, c6, A7, c7, A8, c8, A9, c9, A10, c10, A11, c11, A12, c12, A14, c14, hxs, -, -, -, -, -, -, -, -⟩ := def_cells hxd
                   have HST2 := hide (fun he => st2_take (l := defs) (k := k) (x := x) hx he)
                   have HE := hide (fold_next hx ty.step2 (types1 defs))
                   clear hx
                   obtain ⟨p1, hp⟩ : ∃ p, (defs.take k).foldl ty.step2 (types1 defs) = p := ⟨_, rfl⟩
                   rw [hp] at HE hS HST2
                   clear hp
                   obtain ⟨TS, VT, VD, xD, hts, hok, hxD, H⟩ := Bst.to [] hS
                   clear hS
                   obtain ⟨kd, hkd⟩ : ∃ kd, x.kind = kd := ⟨_, rfl⟩
                   obtain ⟨ex, hex⟩ : ∃ ex, x.ext = ex := ⟨_, rfl⟩
                   rw [hkd, hex] at hxs
                   have HKD := hide hkd
                   have HEX := hide hex
                   clear hkd hex
                   subst hxs
                   have hq := nmap_kfind p1 x.name
                   have hqg := nmap_kfind givenT x.name
                   cases hi : numOf p1 x.name with
                   | none =>
                    as_aux_lemma =>
                     rw [hi] at hq
                     replace hq : kfind (nmap (namesD p1)) x.name = none := hq
                     have HST := hide (step2_none hi)
                     clear hi
                     replace H : Hp _ _ _ (.box _ [_, _, _, _, _, _, _, _, _, _, _, _, _, _, _, _, _, _, _, _, _, _, _] _ :: _ :: _ :: _ :: _ :: (trows TS ++ M2)) := H
                     try dsimp only at H
                     go_upto_region 40 with (first
                      | ((with_reducible show wpList _ _ _ (_ :: _) _ _); refine wpList_load_at (by rfl) 43 (.tmp 135) (by rfl) (ad.add (k * 17)) (by simp [Act.eval, Act.put]) _ _ (At.sat hatK H.sat) Tryz.underlying43 rfl hsz ?_)
                      | ((with_reducible refine isL ?_); first
                       | (refine al z43 23 H ?_; clear H; intro w32 g23 H)
                       | (refine sA 23 0 H ?_; clear H; intro w34 H)))
                     clear hatK
                     have := H.c 1 18
                     have := H.c 0 5
                     have hrun := fun k => run_lookup_k (P := Tryz.prog) (w := (w34).drewN k) (t := 87) (kt := 9) (et := 3) (l := nmap (namesD p1)) (b := b28) Tryz.underlying87 (keys_s Tryz.underlying9) (.int .i64 0) (zero_int _) ((H.drew k).mapAt (i := 2) rfl) x.name true
                     simp only [hq, Option.getD_none, Option.isSome_none, Option.getD_some, Option.isSome_some, if_true] at hrun
                     go_quiet (fail)
                     replace H := H.drew nq
                     obtain ⟨w35, hq36⟩ : ∃ x, (w34).drewN nq = x := ⟨_, rfl⟩
                     rw [hq36] at H ⊢
                     clear hq36
                     replace H : Hp _ _ _ (_ :: _ :: _ :: _ :: _ :: _ :: (trows TS ++ M2)) := H
                     clear hrun
                     go_upto_region 41 with (fail)
                     go_quiet (fail)
                     replace H := H.drew nq
                     obtain ⟨w37, hq38⟩ : ∃ x, (w35).drewN nq = x := ⟨_, rfl⟩
                     rw [hq38] at H ⊢
                     clear hq38
                     replace H : Hp _ _ _ (_ :: _ :: _ :: _ :: _ :: _ :: (trows TS ++ M2)) := H
                     go_wp2_with fail
                     replace H := H.sub (List.Sublist.cons _ (List.Sublist.cons_cons _ (List.Sublist.cons_cons _ (List.Sublist.cons_cons _ (List.Sublist.cons_cons _ (List.Sublist.cons_cons _ (List.Sublist.refl _)))))))
                     go_roundw
                     case rel => exact ⟨k + 1, K7, by omega, by go_num, hK, hB, by rw [HE.out, HST.out]; exact Bst.of [] hts hok hxD H⟩
                     case measure => simp [intOf]; omega
                   | some i =>
                    rw [hi] at hq
                    replace hq : kfind (nmap (namesD p1)) x.name = some (.int .i64 (i : Int)) := hq
                    obtain ⟨e, he, -⟩ := numOf_some hi
                    have hil := numOf_lt hi
                    have hiI : (i : Int) < (p1.length : Int) := by omega
                    have HNO := fun hc => step2_no (d := x) hi he hc
                    have HYES := fun hc => step2_yes (d := x) hi he hc
                    have HNO := hide HNO
                    have HYES := hide HYES
                    clear hi
                    obtain ⟨TA, V, TB, hTS, hTA⟩ := ts_split (hts ▸ he)
                    have HE2 := hide he
                    have HTA := hide hTA
                    have HTS := hide hts
                    clear he hts
                    subst hTS
                    obtain ⟨gr, cr, hVT, hc1, hc2, hvl⟩ := H.rowAt (i := 2) rfl (by omega)
                    have hvl := hide hvl
                    subst hVT
                    replace H : Hp _ _ _ (.box _ [_, _, _, _, _, _, _, _, _, _, _, _, _, _, _, _, _, _, _, _, _, _, _] _ :: _ :: _ :: _ :: _ :: (trows (TA ++ (e, V) :: TB) ++ M2)) := H
                    try dsimp only at H
                    go_upto_region 40 with (first
                     | ((with_reducible show wpList _ _ _ (_ :: _) _ _); refine wpList_load_at (by rfl) 43 (.tmp 135) (by rfl) (ad.add (k * 17)) (by simp [Act.eval, Act.put]) _ _ (At.sat hatK H.sat) Tryz.underlying43 rfl hsz ?_)
                     | ((with_reducible refine isL ?_); first
                      | (refine al z43 23 H ?_; clear H; intro w39 g23 H)
                      | (refine sA 23 0 H ?_; clear H; intro w41 H)))
                    clear hatK
                    have := H.c 1 18
                    have := H.c 0 5
                    have hrun := fun k => run_lookup_k (P := Tryz.prog) (w := (w41).drewN k) (t := 87) (kt := 9) (et := 3) (l := nmap (namesD p1)) (b := b28) Tryz.underlying87 (keys_s Tryz.underlying9) (.int .i64 0) (zero_int _) ((H.drew k).mapAt (i := 2) rfl) x.name true
                    simp only [hq, Option.getD_none, Option.isSome_none, Option.getD_some, Option.isSome_some, if_true] at hrun
                    go_quiet (fail)
                    replace H := H.drew nq
                    obtain ⟨w42, hq43⟩ : ∃ x, (w41).drewN nq = x := ⟨_, rfl⟩
                    rw [hq43] at H ⊢
                    clear hq43
                    replace H : Hp _ _ _ (_ :: _ :: _ :: _ :: _ :: _ :: (trows (TA ++ (e, V) :: TB) ++ M2)) := H
                    clear hrun
                    go_upto_region 41 with (fail)
                    cases ex with
                    | false =>
                     as_aux_lemma =>
                      have HST := hide (HNO.out (fun h => by rw [HEX.out] at h; exact Bool.false_ne_true h.1))
                      have := H.c 0 1
                      go_quiet (fail)
                      replace H := H.drew nq
                      obtain ⟨w44, hq45⟩ : ∃ x, (w42).drewN nq = x := ⟨_, rfl⟩
                      rw [hq45] at H ⊢
                      clear hq45
                      replace H : Hp _ _ _ (_ :: _ :: _ :: _ :: _ :: _ :: (trows (TA ++ (e, V) :: TB) ++ M2)) := H
                      go_wp2_with fail
                      replace H := H.sub (List.Sublist.cons _ (List.Sublist.cons_cons _ (List.Sublist.cons_cons _ (List.Sublist.cons_cons _ (List.Sublist.cons_cons _ (List.Sublist.cons_cons _ (List.Sublist.refl _)))))))
                      go_roundw
                      case rel => exact ⟨k + 1, K7, by omega, by go_num, hK, hB, by rw [HE.out, HST.out]; exact Bst.of [] HTS.out hok hxD H⟩
                      case measure => simp [intOf]; omega
                    | true =>
                     have hce := (row_elem H (i := 3) rfl HTA.out).1 _ rfl
                     rw [add_zero_off] at hce
                     by_cases hkk : kd = e.kind
                     · rw [← hkk] at hce
                       by_cases h1 : kd = 1
                       · have HST := hide (HNO.out (fun h => h.2.2.1 (by rw [HKD.out]; exact h1)))
                         as_aux_lemma =>
                          have hb1 : (kd == 1) = true := by simp [h1]
                          have hb2 : (kd != 1) = false := by simp [h1]
                          clear h1 hkk
                          have := H.c 0 1
                          have := H.c 0 0
                          have := H.c 1 17
                          go_quiet (fail)
                          replace H := H.drew nq
                          obtain ⟨w46, hq47⟩ : ∃ x, (w42).drewN nq = x := ⟨_, rfl⟩
                          rw [hq47] at H ⊢
                          clear hq47
                          replace H : Hp _ _ _ (_ :: _ :: _ :: _ :: _ :: _ :: (trows (TA ++ (e, V) :: TB) ++ M2)) := H
                          go_wp2_with fail
                          replace H := H.sub (List.Sublist.cons _ (List.Sublist.cons_cons _ (List.Sublist.cons_cons _ (List.Sublist.cons_cons _ (List.Sublist.cons_cons _ (List.Sublist.cons_cons _ (List.Sublist.refl _)))))))
                          go_roundw
                          case rel => exact ⟨k + 1, K7, by omega, by go_num, hK, hB, by rw [HE.out, HST.out]; exact Bst.of [] HTS.out hok hxD H⟩
                          case measure => simp [intOf]; omega
                       · have hb1 : (kd == 1) = false := by simp [h1]
                         have hb2 : (kd != 1) = true := by simp [h1]
                         cases hj : numOf givenT x.name with
                         | some j =>
                          as_aux_lemma =>
                           rw [hj] at hqg
                           have HST := hide (HNO.out (fun h => h.2.2.2 (numOf_mem hj)))
                           clear h1 hkk hj
                           have := H.c 0 1
                           have := H.c 0 0
                           have := H.c 1 17
                           go_quiet (fail)
                           replace H := H.drew nq
                           obtain ⟨w48, hq49⟩ : ∃ x, (w42).drewN nq = x := ⟨_, rfl⟩
                           rw [hq49] at H ⊢
                           clear hq49
                           replace H : Hp _ _ _ (_ :: _ :: _ :: _ :: _ :: _ :: (trows (TA ++ (e, V) :: TB) ++ M2)) := H
                           go_upto_region 42 with (fail)
                           have := H.c 0 5
                           go_wp2_with (first
                            | (refine lookup_k (by rfl) (.tmp 171) (.tmp 173) 87 true (by rfl) Tryz.underlying87 (keys_s Tryz.underlying9) (.int .i64 0) zero_int b36 (nmap (namesD givenT)) (H.kmap hB.o) (by first | rfl | simp [Act.eval, Act.put]) (x.name) (by first | rfl | simp [Act.eval, Act.put]) (.tuple #[.int .i64 (j : Int), .bool true]) (by rw [hqg]; rfl) ?_))
                           replace H := H.sub (List.Sublist.cons _ (List.Sublist.cons_cons _ (List.Sublist.cons_cons _ (List.Sublist.cons_cons _ (List.Sublist.cons_cons _ (List.Sublist.cons_cons _ (List.Sublist.refl _)))))))
                           go_roundw
                           case rel => exact ⟨k + 1, K7, by omega, by go_num, hK, hB, by rw [HE.out, HST.out]; exact Bst.of [] HTS.out hok hxD H⟩
                           case measure => simp [intOf]; omega
                         | none =>
                          rw [hj] at hqg
                          have HST := hide (HYES.out ⟨HEX.out, by rw [HKD.out]; exact hkk, by rw [HKD.out]; exact h1, numOf_none hj⟩)
                          have hmN := HST2.out HEX.out
                          have hgN := given_N.1
                          have heN := defN_at HE2.out
                          have hmN : defN e + defN x ≤ 9000000 := by omega
                          clear h1 hkk hj hgN heN
                          have := H.c 0 1
                          have := H.c 0 0
                          have := H.c 1 17
                          go_quiet (fail)
                          replace H := H.drew nq
                          obtain ⟨w50, hq51⟩ : ∃ x, (w42).drewN nq = x := ⟨_, rfl⟩
                          rw [hq51] at H ⊢
                          clear hq51
                          replace H : Hp _ _ _ (_ :: _ :: _ :: _ :: _ :: _ :: (trows (TA ++ (e, V) :: TB) ++ M2)) := H
                          go_upto_region 42 with (fail)
                          have := H.c 0 5
                          go_upto_region 44 with (first
                           | (refine lookup_k (by rfl) (.tmp 171) (.tmp 173) 87 true (by rfl) Tryz.underlying87 (keys_s Tryz.underlying9) (.int .i64 0) zero_int b36 (nmap (namesD givenT)) (H.kmap hB.o) (by first | rfl | simp [Act.eval, Act.put]) (x.name) (by first | rfl | simp [Act.eval, Act.put]) (.tuple #[.int .i64 0, .bool false]) (by rw [hqg]; rfl) ?_))
                          refine held.begin_ (fun w' => w'.cell? ⟨g33, 17, none⟩ = some (.slice (some ⟨gr, 0, none⟩) p1.length cr) ∧ w'.cell? ⟨g23, 0, none⟩ = some (.int .i64 kd) ∧ w'.cell? ⟨g23, 1, none⟩ = some (.bool true) ∧ w'.cell? ⟨g23, 2, none⟩ = some (.bool x.note.has) ∧ w'.cell? ⟨g23, 3, none⟩ = some (.bool x.note.block) ∧ w'.cell? ⟨g23, 4, none⟩ = some (.string (str x.note.text)) ∧ w'.cell? ⟨g23, 5, none⟩ = some (.string (str x.name)) ∧ w'.cell? ⟨g23, 6, none⟩ = some (.slice A6 x.ifaces.length c6) ∧ w'.cell? ⟨g23, 7, none⟩ = some (.slice A7 x.dirs.length c7) ∧ w'.cell? ⟨g23, 8, none⟩ = some (.slice A8 x.fields.length c8) ∧ w'.cell? ⟨g23, 9, none⟩ = some (.slice A9 x.inputs.length c9) ∧ w'.cell? ⟨g23, 10, none⟩ = some (.slice A10 x.members.length c10) ∧ w'.cell? ⟨g23, 11, none⟩ = some (.slice A11 x.values.length c11) ∧ w'.cell? ⟨g23, 12, none⟩ = some (.slice A12 x.roots.length c12) ∧ w'.cell? ⟨g23, 13, none⟩ = some (.bool x.rep) ∧ w'.cell? ⟨g23, 14, none⟩ = some (.slice A14 x.places.length c14) ∧ w'.cell? ⟨g23, 15, none⟩ = some (.int .i64 x.line) ∧ w'.cell? ⟨g23, 16, none⟩ = some (.int .i64 x.col) ∧ w'.rangeAt gr (i * 17) (DV.cells e V)) [15] (by kernel_rfl) ?_
                          replace H := H.drew1
                          obtain ⟨w52, hq53⟩ : ∃ x, (w50).drew = x := ⟨_, rfl⟩
                          rw [hq53] at H ⊢
                          clear hq53
                          have hS54 : w52.cell? ⟨g33, 17, none⟩ = some (.slice (some ⟨gr, 0, none⟩) p1.length cr) ∧ w52.cell? ⟨g23, 0, none⟩ = some (.int .i64 kd) ∧ w52.cell? ⟨g23, 1, none⟩ = some (.bool true) ∧ w52.cell? ⟨g23, 2, none⟩ = some (.bool x.note.has) ∧ w52.cell? ⟨g23, 3, none⟩ = some (.bool x.note.block) ∧ w52.cell? ⟨g23, 4, none⟩ = some (.string (str x.note.text)) ∧ w52.cell? ⟨g23, 5, none⟩ = some (.string (str x.name)) ∧ w52.cell? ⟨g23, 6, none⟩ = some (.slice A6 x.ifaces.length c6) ∧ w52.cell? ⟨g23, 7, none⟩ = some (.slice A7 x.dirs.length c7) ∧ w52.cell? ⟨g23, 8, none⟩ = some (.slice A8 x.fields.length c8) ∧ w52.cell? ⟨g23, 9, none⟩ = some (.slice A9 x.inputs.length c9) ∧ w52.cell? ⟨g23, 10, none⟩ = some (.slice A10 x.members.length c10) ∧ w52.cell? ⟨g23, 11, none⟩ = some (.slice A11 x.values.length c11) ∧ w52.cell? ⟨g23, 12, none⟩ = some (.slice A12 x.roots.length c12) ∧ w52.cell? ⟨g23, 13, none⟩ = some (.bool x.rep) ∧ w52.cell? ⟨g23, 14, none⟩ = some (.slice A14 x.places.length c14) ∧ w52.cell? ⟨g23, 15, none⟩ = some (.int .i64 x.line) ∧ w52.cell? ⟨g23, 16, none⟩ = some (.int .i64 x.col) ∧ w52.rangeAt gr (i * 17) (DV.cells e V) := ⟨H.cell (i := 1) rfl rfl, H.cell (i := 0) rfl rfl, H.cell (i := 0) rfl rfl, H.cell (i := 0) rfl rfl, H.cell (i := 0) rfl rfl, H.cell (i := 0) rfl rfl, H.cell (i := 0) rfl rfl, H.cell (i := 0) rfl rfl, H.cell (i := 0) rfl rfl, H.cell (i := 0) rfl rfl, H.cell (i := 0) rfl rfl, H.cell (i := 0) rfl rfl, H.cell (i := 0) rfl rfl, H.cell (i := 0) rfl rfl, H.cell (i := 0) rfl rfl, H.cell (i := 0) rfl rfl, H.cell (i := 0) rfl rfl, H.cell (i := 0) rfl rfl, row_range H (i := 3) rfl HTA.out⟩
                          refine held.take (i := 0) (v := ?_) rfl (by kernel_rfl) (by kernel_rfl) (by kernel_rfl) (by kernel_rfl) (by kernel_rfl) (fun _ _ _ h => h) (Or.inl ⟨by rfl, ?_⟩) hS54 ?_
                          rotate_left
                          · intro w hSw
                            try dsimp only at hSw
                            go_simp
                            try with_reducible rfl
                          try simp only [Act.put, List.getElem_toArray, List.getElem_cons_zero, List.getElem_cons_succ, List.setIfInBounds_toArray, List.set_cons_zero, List.set_cons_succ]
                          refine held.take (i := 1) (v := ?_) rfl (by kernel_rfl) (by kernel_rfl) (by kernel_rfl) (by kernel_rfl) (by kernel_rfl) (fun _ _ _ h => h) (Or.inl ⟨by rfl, ?_⟩) hS54 ?_
                          rotate_left
                          · intro w hSw
                            try dsimp only at hSw
                            go_simp
                            try with_reducible rfl
                          try simp only [Act.put, List.getElem_toArray, List.getElem_cons_zero, List.getElem_cons_succ, List.setIfInBounds_toArray, List.set_cons_zero, List.set_cons_succ]
                          refine held.take (i := 2) (v := ?_) rfl (by kernel_rfl) (by kernel_rfl) (by kernel_rfl) (by kernel_rfl) (by kernel_rfl) (fun _ _ _ h => h) (Or.inl ⟨by rfl, ?_⟩) hS54 ?_
                          rotate_left
                          · intro w hSw
                            try dsimp only at hSw
                            go_simp
                            try with_reducible rfl
                          try simp only [Act.put, List.getElem_toArray, List.getElem_cons_zero, List.getElem_cons_succ, List.setIfInBounds_toArray, List.set_cons_zero, List.set_cons_succ]
                          refine held.take (i := 3) (v := ?_) rfl (by kernel_rfl) (by kernel_rfl) (by kernel_rfl) (by kernel_rfl) (by kernel_rfl) (fun _ _ _ h => h) (Or.inl ⟨by rfl, ?_⟩) hS54 ?_
                          rotate_left
                          · intro w hSw
                            try dsimp only at hSw
                            go_simp
                            try with_reducible rfl
                          try simp only [Act.put, List.getElem_toArray, List.getElem_cons_zero, List.getElem_cons_succ, List.setIfInBounds_toArray, List.set_cons_zero, List.set_cons_succ]
                          refine held.take (i := 4) (v := ?_) rfl (by kernel_rfl) (by kernel_rfl) (by kernel_rfl) (by kernel_rfl) (by kernel_rfl) (fun _ _ _ h => h) (Or.inl ⟨by rfl, ?_⟩) hS54 ?_
                          rotate_left
                          · intro w hSw
                            try dsimp only at hSw
                            go_simp
                            try with_reducible rfl
                          try simp only [Act.put, List.getElem_toArray, List.getElem_cons_zero, List.getElem_cons_succ, List.setIfInBounds_toArray, List.set_cons_zero, List.set_cons_succ]
                          refine held.take (i := 5) (v := ?_) rfl (by kernel_rfl) (by kernel_rfl) (by kernel_rfl) (by kernel_rfl) (by kernel_rfl) (fun _ _ _ h => h) (Or.inl ⟨by rfl, ?_⟩) hS54 ?_
                          rotate_left
                          · intro w hSw
                            try dsimp only at hSw
                            go_simp
                            try with_reducible rfl
                          try simp only [Act.put, List.getElem_toArray, List.getElem_cons_zero, List.getElem_cons_succ, List.setIfInBounds_toArray, List.set_cons_zero, List.set_cons_succ]
                          refine held.take (i := 6) (v := ?_) rfl (by kernel_rfl) (by kernel_rfl) (by kernel_rfl) (by kernel_rfl) (by kernel_rfl) (fun _ _ _ h => h) (Or.inl ⟨by rfl, ?_⟩) hS54 ?_
                          rotate_left
                          · intro w hSw
                            try dsimp only at hSw
                            go_simp
                            try with_reducible rfl
                          try simp only [Act.put, List.getElem_toArray, List.getElem_cons_zero, List.getElem_cons_succ, List.setIfInBounds_toArray, List.set_cons_zero, List.set_cons_succ]
                          refine held.take (i := 7) (v := ?_) rfl (by kernel_rfl) (by kernel_rfl) (by kernel_rfl) (by kernel_rfl) (by kernel_rfl) (fun _ _ _ h => h) (Or.inl ⟨by rfl, ?_⟩) hS54 ?_
                          rotate_left
                          · intro w hSw
                            try dsimp only at hSw
                            go_simp
                            try with_reducible rfl
                          try simp only [Act.put, List.getElem_toArray, List.getElem_cons_zero, List.getElem_cons_succ, List.setIfInBounds_toArray, List.set_cons_zero, List.set_cons_succ]
                          refine held.take (i := 8) (v := ?_) rfl (by kernel_rfl) (by kernel_rfl) (by kernel_rfl) (by kernel_rfl) (by kernel_rfl) (fun _ _ _ h => h) (Or.inl ⟨by rfl, ?_⟩) hS54 ?_
                          rotate_left
                          · intro w hSw
                            try dsimp only at hSw
                            go_simp
                            try with_reducible rfl
                          try simp only [Act.put, List.getElem_toArray, List.getElem_cons_zero, List.getElem_cons_succ, List.setIfInBounds_toArray, List.set_cons_zero, List.set_cons_succ]
                          refine held.take (i := 9) (v := ?_) rfl (by kernel_rfl) (by kernel_rfl) (by kernel_rfl) (by kernel_rfl) (by kernel_rfl) (fun _ _ _ h => h) (Or.inl ⟨by rfl, ?_⟩) hS54 ?_
                          rotate_left
                          · intro w hSw
                            try dsimp only at hSw
                            go_simp
                            try with_reducible rfl
                          try simp only [Act.put, List.getElem_toArray, List.getElem_cons_zero, List.getElem_cons_succ, List.setIfInBounds_toArray, List.set_cons_zero, List.set_cons_succ]
                          refine held.take (i := 10) (v := ?_) rfl (by kernel_rfl) (by kernel_rfl) (by kernel_rfl) (by kernel_rfl) (by kernel_rfl) (fun _ _ _ h => h) (Or.inl ⟨by rfl, ?_⟩) hS54 ?_
                          rotate_left
                          · intro w hSw
                            try dsimp only at hSw
                            go_simp
                            try with_reducible rfl
                          try simp only [Act.put, List.getElem_toArray, List.getElem_cons_zero, List.getElem_cons_succ, List.setIfInBounds_toArray, List.set_cons_zero, List.set_cons_succ]
                          refine held.take (i := 11) (v := _) rfl (by kernel_rfl) (by kernel_rfl) (by kernel_rfl) (by kernel_rfl) (by kernel_rfl) (fun _ _ _ h => h) (yieldsIf_load_mid (by rfl) 43 (.tmp 189) (by rfl) gr (i * 17) (by first | rfl | simp [Act.eval, Act.put]) (DV.cells e V) _ (fun w h => h.2.2.2.2.2.2.2.2.2.2.2.2.2.2.2.2.2.2) Tryz.underlying43 rfl hsz) hS54 ?_
                          try simp only [Act.put, List.getElem_toArray, List.getElem_cons_zero, List.getElem_cons_succ, List.setIfInBounds_toArray, List.set_cons_zero, List.set_cons_succ]
                          refine held.take (i := 12) (v := ?_) rfl (by kernel_rfl) (by kernel_rfl) (by kernel_rfl) (by kernel_rfl) (by kernel_rfl) (fun _ _ _ h => h) (Or.inl ⟨by rfl, ?_⟩) hS54 ?_
                          rotate_left
                          · intro w hSw
                            try dsimp only at hSw
                            go_simp
                            try with_reducible rfl
                          try simp only [Act.put, List.getElem_toArray, List.getElem_cons_zero, List.getElem_cons_succ, List.setIfInBounds_toArray, List.set_cons_zero, List.set_cons_succ]
                          refine held.step (i := 13) (by kernel_rfl) rfl (fun Kq hKq => ?_)
                          go_simp
                          refine (merged_at [.box g23 [.int .i64 kd, .bool true, .bool x.note.has, .bool x.note.block, .string (str x.note.text), .string (str x.name), .slice A6 x.ifaces.length c6, .slice A7 x.dirs.length c7, .slice A8 x.fields.length c8, .slice A9 x.inputs.length c9, .slice A10 x.members.length c10, .slice A11 x.values.length c11, .slice A12 x.roots.length c12, .bool x.rep, .slice A14 x.places.length c14, .int .i64 x.line, .int .i64 x.col] 43, .box g33 [.int .i64 0, .bool false, .bool false, .bool false, .string ⟨#[]⟩, .string ⟨#[]⟩, .slice none 0 0, .slice none 0 0, .slice none 0 0, .slice none 0 0, .slice none 0 0, .slice none 0 0, .slice none 0 0, .bool false, .slice none 0 0, .int .i64 0, .int .i64 0, .slice (some ⟨gr, 0, none⟩) p1.length cr, .map (some b28), VD, .map (some b29), .map (some b30), .map (some b31)] 91, .map b28 (sents (nmap (namesD p1))), .row 43 17 (.slice (some ⟨gr, 0, none⟩) p1.length cr) (p1.length) ((tcells (TA ++ (e, V) :: TB))), .map b29 (sents (nmap (namesD (dirsOf defs)))), .row 43 17 (VD) ((dirsOf defs).length) (xD)] e x V TA TB _ H hok hmN hxd).mono ?_
                          clear H
                          rintro e1 w9 ⟨K9, V9, rfl, hle9, H, hok9, hone9⟩
                          replace hK := hle9.trans hK
                          replace H : Hp _ _ _ (_ :: _ :: _ :: _ :: _ :: _ :: (trows (TA ++ (mergeD e x, V9) :: TB) ++ M2)) := H
                          try go_simp
                          have hS55 : w9.cell? ⟨g33, 17, none⟩ = some (.slice (some ⟨gr, 0, none⟩) p1.length cr) ∧ w9.cell? ⟨g23, 0, none⟩ = some (.int .i64 kd) ∧ w9.cell? ⟨g23, 1, none⟩ = some (.bool true) ∧ w9.cell? ⟨g23, 2, none⟩ = some (.bool x.note.has) ∧ w9.cell? ⟨g23, 3, none⟩ = some (.bool x.note.block) ∧ w9.cell? ⟨g23, 4, none⟩ = some (.string (str x.note.text)) ∧ w9.cell? ⟨g23, 5, none⟩ = some (.string (str x.name)) ∧ w9.cell? ⟨g23, 6, none⟩ = some (.slice A6 x.ifaces.length c6) ∧ w9.cell? ⟨g23, 7, none⟩ = some (.slice A7 x.dirs.length c7) ∧ w9.cell? ⟨g23, 8, none⟩ = some (.slice A8 x.fields.length c8) ∧ w9.cell? ⟨g23, 9, none⟩ = some (.slice A9 x.inputs.length c9) ∧ w9.cell? ⟨g23, 10, none⟩ = some (.slice A10 x.members.length c10) ∧ w9.cell? ⟨g23, 11, none⟩ = some (.slice A11 x.values.length c11) ∧ w9.cell? ⟨g23, 12, none⟩ = some (.slice A12 x.roots.length c12) ∧ w9.cell? ⟨g23, 13, none⟩ = some (.bool x.rep) ∧ w9.cell? ⟨g23, 14, none⟩ = some (.slice A14 x.places.length c14) ∧ w9.cell? ⟨g23, 15, none⟩ = some (.int .i64 x.line) ∧ w9.cell? ⟨g23, 16, none⟩ = some (.int .i64 x.col) ∧ w9.rangeAt gr (i * 17) (DV.cells e V) := ⟨H.cell (i := 1) rfl rfl, H.cell (i := 0) rfl rfl, H.cell (i := 0) rfl rfl, H.cell (i := 0) rfl rfl, H.cell (i := 0) rfl rfl, H.cell (i := 0) rfl rfl, H.cell (i := 0) rfl rfl, H.cell (i := 0) rfl rfl, H.cell (i := 0) rfl rfl, H.cell (i := 0) rfl rfl, H.cell (i := 0) rfl rfl, H.cell (i := 0) rfl rfl, H.cell (i := 0) rfl rfl, H.cell (i := 0) rfl rfl, H.cell (i := 0) rfl rfl, H.cell (i := 0) rfl rfl, H.cell (i := 0) rfl rfl, H.cell (i := 0) rfl rfl, row_range H (i := 3) rfl HTA.out⟩
                          refine hKq.out _ _ (fun _ => hS55) (fun _ => ?_)
                          clear hKq Kq
                          refine held.take (i := 14) (v := ?_) rfl (by kernel_rfl) (by kernel_rfl) (by kernel_rfl) (by kernel_rfl) (by kernel_rfl) (fun _ _ _ h => h) (Or.inl ⟨by rfl, ?_⟩) hS55 ?_
                          rotate_left
                          · intro w hSw
                            try dsimp only at hSw
                            go_simp
                            try with_reducible rfl
                          try simp only [Act.put, List.getElem_toArray, List.getElem_cons_zero, List.getElem_cons_succ, List.setIfInBounds_toArray, List.set_cons_zero, List.set_cons_succ]
                          refine held.step (i := 15) (by kernel_rfl) rfl (fun Kq hKq => ?_)
                          refine step_store_row_hp (by rfl) 43 (.tmp 193) (.tmp 192) (by rfl) gr (i * 17) (by first | rfl | simp [Act.eval, Act.put]) (.agg (DV.cells (mergeD e x) V9).toArray) (by first | rfl | simp [Act.eval, Act.put]) (DV.cells (mergeD e x) V9) (by rfl) (hone9) (hsz) H 3 43 17 (p1.length) cr ((tcells (TA ++ (e, V) :: TB))) (tcells (TA ++ (mergeD e x, V9) :: TB)) (by rfl) (by rw [hvl.out]; show i * 17 + 17 ≤ p1.length * 17; omega) (row_put HTA.out) ?_
                          clear H
                          intro w56 H
                          refine hKq.out _ _ (fun h => absurd (List.mem_singleton.2 rfl) h) (fun _ => ?_)
                          clear hKq Kq
                          refine held.done (by kernel_rfl) ?_ _
                          simp only [Act.put, List.getElem_toArray, List.getElem_cons_zero, List.getElem_cons_succ, List.setIfInBounds_toArray, List.set_cons_zero, List.set_cons_succ]
                          replace H : Hp _ _ _ (_ :: _ :: _ :: _ :: _ :: _ :: (trows (TA ++ (mergeD e x, V9) :: TB) ++ M2)) := H
                          go_upto_region 45 with (fail)
                          replace H := H.sub (List.Sublist.cons _ (List.Sublist.cons_cons _ (List.Sublist.cons_cons _ (List.Sublist.cons_cons _ (List.Sublist.cons_cons _ (List.Sublist.cons_cons _ (List.Sublist.refl _)))))))
                          have HTS9 : p1.set i (mergeD e x) = (TA ++ (mergeD e x, V9) :: TB).map (·.1) := by rw [HTS.out]; exact ts_set HTA.out
                          have H9 : Hp w0 w56 K9 ([] ++ (bents g33 b28 b29 b30 b31 (p1.set i (mergeD e x)) (dirsOf defs) (.slice (some ⟨gr, 0, none⟩) p1.length cr) VD (TA ++ (mergeD e x, V9) :: TB) xD ++ (trows (TA ++ (mergeD e x, V9) :: TB) ++ M2))) := by
                           unfold bents
                           rw [List.length_set, namesD_set (e' := mergeD e x) HE2.out rfl]
                           exact H
                          go_wp2_with fail
                          go_roundw
                          case rel => exact ⟨k + 1, K9, by omega, by go_num, hK, hB.sat hle9, by rw [HE.out, HST.out]; exact Bst.of [] HTS9 hok9 (hxD.sat hle9) H9⟩
                          case measure => simp [intOf]; omega
                     · have hkb : (kd == e.kind) = false := by simp [hkk]
                       as_aux_lemma =>
                        have HST := hide (HNO.out (fun h => hkk (by rw [← HKD.out]; exact h.2.1)))
                        clear hkk
                        have := H.c 0 1
                        have := H.c 0 0
                        have := H.c 1 17
                        go_quiet (fail)
                        replace H := H.drew nq
                        obtain ⟨w57, hq58⟩ : ∃ x, (w42).drewN nq = x := ⟨_, rfl⟩
                        rw [hq58] at H ⊢
                        clear hq58
                        replace H : Hp _ _ _ (_ :: _ :: _ :: _ :: _ :: _ :: (trows (TA ++ (e, V) :: TB) ++ M2)) := H
                        go_wp2_with fail
                        replace H := H.sub (List.Sublist.cons _ (List.Sublist.cons_cons _ (List.Sublist.cons_cons _ (List.Sublist.cons_cons _ (List.Sublist.cons_cons _ (List.Sublist.cons_cons _ (List.Sublist.refl _)))))))
                        go_roundw
                        case rel => exact ⟨k + 1, K7, by omega, by go_num, hK, hB, by rw [HE.out, HST.out]; exact Bst.of [] HTS.out hok hxD H⟩
                        case measure => simp [intOf]; omega
                 · obtain rfl : n = k := by omega
                   have htk : defs.take n = defs := by rw [← HN.out]; exact List.take_length
                   rw [htk] at hS
                   clear htk
                   have hto : defs.foldl ty.step2 (types1 defs) = typesOf defs := rfl
                   rw [hto] at hS
                   clear hto
                   obtain ⟨TS, VT, VD, xD, hts, hok, hxD, H⟩ := Bst.to [] hS
                   clear hS
                   obtain ⟨nt, hnt⟩ : ∃ x, (typesOf defs).length = x := ⟨_, rfl⟩
                   have HNT := hide hnt
                   have htN := types_N defs
                   have hgN := given_N.1
                   have hntl := p1_len (typesOf defs)
                   have H2 := Hp.rot (bents g33 b28 b29 b30 b31 (typesOf defs) (dirsOf defs) VT VD TS xD) (trows TS) (M := M2) H
                   clear H
                   obtain ⟨K1, s1, H, hT⟩ := Hp.freezeDefs H2 hok
                   rw [← hts] at hT
                   replace hxD := hxD.sat s1
                   have H3 := Hp.rotAt [] [tbox g33 b28 b29 b30 b31 VT VD] [.map b28 (sents (nmap (namesD (typesOf defs)))), .row 43 17 VT (typesOf defs).length (tcells TS), .map b29 (sents (nmap (namesD (dirsOf defs)))), .row 43 17 VD (dirsOf defs).length xD] (M := M2) H
                   clear H H2
                   obtain ⟨K2, s2, H, hA⟩ := Hp.freezeKm H3
                   obtain ⟨K3, s3, H, hTy⟩ := Hp.freezeRow H (hT.sat s2)
                   obtain ⟨K4, s4, H, hDA⟩ := Hp.freezeKm H
                   obtain ⟨K5, s5, H, hDi⟩ := Hp.freezeRow H (((hxD.sat s2).sat s3).sat s4)
                   clear H3 hT hxD hok hts
                   replace hK := s5.trans (s4.trans (s3.trans (s2.trans (s1.trans hK))))
                   replace hA := ((hA.sat s3).sat s4).sat s5
                   replace hTy := (hTy.sat s4).sat s5
                   replace hDA := hDA.sat s5
                   replace hB := ((((hB.sat s1).sat s2).sat s3).sat s4).sat s5
                   clear s1 s2 s3 s4 s5
                   obtain ⟨Aty, ct, hVT, -, -⟩ := slice_of hTy
                   subst hVT
                   rw [hnt] at H hTy
                   clear hnt
                   replace H : Hp _ _ _ (.box _ [_, _, _, _, _, _, _, _, _, _, _, _, _, _, _, _, _, _, _, _, _, _, _] _ :: M2) := H
                   try dsimp only at H
                   go_upto_region 46 with (fail)
                   go_upto_region 47 with (first
                    | (go_at_call 61; refine (sch_hp defs (typesOf defs) n c nt ct A Aty g33 b28 b29 b30 b31 VD _ _ _ M2 H HN.out hB.d hm HNT.out hTy hA).mono ?_; clear H; rintro e1 w9 ⟨K9, cs9, rfl, hle9, H, hsch⟩; replace hA := hA.sat hle9; replace hTy := hTy.sat hle9; replace hDA := hDA.sat hle9; replace hB := hB.sat hle9; replace hDi := hDi.sat hle9; replace hK := hle9.trans hK; obtain ⟨s, hs⟩ : ∃ s, schemaOf defs (typesOf defs) = s := ⟨_, rfl⟩; rw [hs] at hsch; obtain ⟨A6, c6, A7, c7, A8, c8, A9, c9, A10, c10, A11, c11, A12, c12, A14, c14, hcs, -, -, -, -, -, -, -, -⟩ := def_cells hsch; obtain rfl := Array.toList_inj.1 (hcs.trans (List.toList_toArray ..).symm))
                    | ((with_reducible refine isL ?_); first
                     | (refine sA 200 0 H ?_; clear H; intro w60 H)))
                   obtain ⟨K10, s10, H, hbox⟩ := H.freezeKb
                   have T : TyA K10 g33 b28 b29 b30 b31 _ (.slice Aty nt ct) VD s (typesOf defs) (dirsOf defs) := ⟨hbox, hsch.sat s10, by rw [HNT.out]; exact hTy.sat s10, hDi.sat s10, hA.sat s10, hDA.sat s10⟩
                   replace hK := s10.trans hK
                   clear hbox hsch hTy hDi hA hDA hB s10
                   subst hM2
                   go_wp2_with (first
                    | (go_at_call 62; refine (index_hp g33 b28 b29 b30 b31 _ _ VD s (typesOf defs) (dirsOf defs) nt _ _ _ M H T HNT.out (by omega)).mono ?_; clear H; rintro e1 w11 ⟨rfl, OB, hOB, H⟩))
                   obtain ⟨K11, s11, H, hf⟩ := H.freezeKm
                   obtain ⟨K12, s12, H, ho⟩ := H.freezeKm
                   obtain ⟨K13, s13, H, hsets⟩ := Hp.freezeMaps H
                   go_ret
                   have HF := H
                   subst hs
                   exact ⟨K13, g33, rfl, s13.trans (s12.trans (s11.trans hK)), HF, b28, b29, b30, b31, _, _, VD, OB, ⟨((T.sat s11).sat s12).sat s13, (hf.sat s12).sat s13, ho.sat s13, hOB, hsets⟩⟩
end Go.Proofs.YtbpgkkoeehopjaaGreat.hp
