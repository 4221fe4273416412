/- Part 14 of 18 of a proof: see the last part. -/
import Derived.Test.YtbpgkkoeehopjaaGreatP9
import Derived.Test.YtbpgkkoeehopjaaGreatP13
import Derived.Laws.ResultCell
import Derived.Deep.QuietTactic
import Derived.BigQuiet
import Derived.Maps.RangeRun
import Derived.Shelf.SlSortCmp.Whole1
import Derived.KernelRfl
import Derived.Shelf.SlSortCmp.NoneTotal
set_option linter.unusedVariables false
set_option linter.unusedSimpArgs false
namespace Go.Proofs.YtbpgkkoeehopjaaGreat.hp
open Go.RowKit Go.Proofs.YtbpgkkoeehopjaaGreat.lex Go.Proofs.YtbpgkkoeehopjaaGreat.gram Go.Proofs.YtbpgkkoeehopjaaGreat.dat Go.Proofs.YtbpgkkoeehopjaaGreat.ty
theorem typesN (l : List DefD) : defsN (typesOf l) ≤ defsN l + 1000 := by
 have h1 := fold_g2 l (types1 l)
 have h2 := foldl_N addD_N givenT (bare l).1
 have h3 := bare_g1 l ([], [])
 have h4 := g12 l
 have h5 := given_N.1
 have h7 : defsN ([] : List DefD) = 0 := rfl
 simp only [h7] at h3
 unfold typesOf types1 bare at *
 unfold defsN at *
 omega
theorem dirsN (l : List DefD) : defsN (dirsOf l) ≤ defsN l + 1000 := by
 have h1 := dirs_N l
 have h5 := given_N.2
 omega
theorem schemaN (l : List DefD) (ts : List DefD) : defN (schemaOf l ts) ≤ 2 * defsN l + 10 := by
 unfold schemaOf
 split
 · have hr : (rootsOf ts).length ≤ 3 := by
    unfold rootsOf; rw [List.length_map]; exact Nat.le_trans (List.length_filter_le _ _) (by rw [List.length_zipIdx]; exact Nat.le_refl _)
   unfold defN zeroSchema
   simp only [List.length_nil, sumN]
   omega
 · rename_i d hd
   have h1 := fold_schN l d
   obtain ⟨i, hi⟩ := List.mem_iff_getElem?.1 (List.mem_of_find?_eq_some hd)
   have h2 := defN_at hi
   omega
structure TyW (D : TysD) : Prop where
 nd : (namesD D.types).Nodup
 ndd : (namesD D.dirs).Nodup
 nT : defsN D.types ≤ 3002000
 nD : defsN D.dirs ≤ 3002000
 nS : defN D.schema ≤ 9000000
 f : FOk D.types D.fields
 o : OOk D.types D.objects
theorem buildD_W (l : List DefD) (h : defsN l ≤ 2900000) : TyW (buildD l) := by
 have h1 := typesN l
 have h2 := dirsN l
 have h3 := schemaN l (typesOf l)
 exact ⟨types_nodup l, dirs_nodup l, by show defsN (typesOf l) ≤ _; omega, by show defsN (dirsOf l) ≤ _; omega, by show defN (schemaOf l (typesOf l)) ≤ _; omega, fieldsOf_ok _, objectsOf_ok (types_nodup l)⟩
def Tp (K : World) (v : Value) (D : TysD) : Prop := (v = .pointer none ∧ D = buildD []) ∨ ∃ g, v = .pointer (some ⟨g, 0, none⟩) ∧ TysK K g D
theorem Tp.sat {K K' : World} {v : Value} {D : TysD} (h : Tp K v D) (hs : Sat K' K) : Tp K' v D := by
 rcases h with h | ⟨g, h1, h2⟩
 · exact .inl h
 · exact .inr ⟨g, h1, h2.sat hs⟩
theorem TysK.tp {K : World} {g : Nat} {D : TysD} (h : TysK K g D) : Tp K (.pointer (some ⟨g, 0, none⟩)) D := .inr ⟨g, rfl, h⟩
open Go.Proofs.YtbpgkkoeehopjaaGreat.words Go.Proofs.YtbpgkkoeehopjaaGreat.enc Go.Proofs.YtbpgkkoeehopjaaGreat.tree Go.Proofs.YtbpgkkoeehopjaaGreat.rd Go.Proofs.YtbpgkkoeehopjaaGreat.dec Go.Proofs.YtbpgkkoeehopjaaGreat.held
set_option maxRecDepth 100000
attribute [local go_sem ↓] Go.wp_at_zero Go.wp_at_succ
theorem all_t (v : Value) (D : TysD) (w0 w K : World) (M : List Ent) (H : Hp w0 w K M) (T : Tp K v D) :
  Calls Tryz.prog 64 #[v] w fun e w' => ∃ K' g, e = .returned (.pointer (some ⟨g, 0, none⟩)) ∧ Sat K' K ∧ Hp w0 w' K' M ∧ TysK K' g D := by
 rcases T with ⟨rfl, rfl⟩ | ⟨g, rfl, T⟩
 · have hz : RD K (.list 0 (defsL [])) (.slice none 0 0) := RD.z
   go_enter Tryz.func64, Tryz.ntmps64
   go_wp2_with (first
    | (go_at_call 14; refine (Build_hp [] 0 0 none w0 _ K M H rfl hz (by simp [defsN, sumN])).mono ?_; clear H; rintro e w1 ⟨K1, g, rfl, hle, H, hT⟩))
   go_ret
   exact ⟨K1, g, rfl, hle, H, hT⟩
 · skip
   go_enter Tryz.func64, Tryz.ntmps64
   go_wp2_with fail
   go_ret
   exact ⟨K, g, rfl, Sat.refl K, H, T⟩
def DefR (d : DefD) (K : World) (v : Value) : Prop := ∃ cs, v = .agg cs ∧ RL K (defL d) cs.toList
theorem Kb.range {w : World} {g : Nat} {cs us : List Value} {t : TypeId} (h : Kb w g (us ++ cs) t) : w.rangeAt g 0 us := fun k u hu => by
 rw [Nat.zero_add]
 exact h.cell (by rw [List.getElem?_append_left (List.getElem?_eq_some_iff.1 hu).1]; exact hu)
theorem Schema_t (v : Value) (D : TysD) (d : DefD) (w0 w K : World) (M : List Ent) (H : Hp w0 w K M) (hv : Tp K v D) (hW : TyW D) (hD : D.schema = d) :
  Calls Tryz.prog 18 #[v] w (Post w0 K M (DefR d)) := by
 have hN : defN d ≤ 9000000 := hD ▸ hW.nS
 have hsz : (Tryz.prog.info? 43).map (·.size) = some 17 := def_size
 go_enter Tryz.func18, Tryz.ntmps18
 have hK := Sat.refl K
 go_upto_region 1 with (first
  | ((with_reducible refine isL ?_); first
   | (refine al z43 2 H ?_; clear H; intro w5 g2 H)))
 go_wp2_with (first
  | (go_at_call 64; refine (all_t _ D _ _ K _ H hv).mono ?_; clear H; rintro e w5 ⟨K5, g5, rfl, hle, H, hT5⟩; replace hK := hle.trans hK; obtain ⟨ga, gd, gf, go, sch, VT, VD, OB, T⟩ := hT5; have hs := T.a.sch; rw [hD] at hs; have hlen := T.a.len)
  | (go_at_call 65; refine (copyDef_hp d sch.toArray H hN hs).mono ?_; clear H; rintro e w6 ⟨K6, cs5, rfl, hle6, H, hd5⟩; replace hK := hle6.trans hK; obtain ⟨B6, e6, B7, e7, B8, e8, B9, e9, B10, e10, B11, e11, B12, e12, B14, e14, hcs5, -, -, -, -, -, -, -, -⟩ := def_cells hd5; obtain rfl : cs5 = #[.int .i64 d.kind, .bool d.ext, .bool d.note.has, .bool d.note.block, .string (str d.note.text), .string (str d.name), .slice B6 d.ifaces.length e6, .slice B7 d.dirs.length e7, .slice B8 d.fields.length e8, .slice B9 d.inputs.length e9, .slice B10 d.members.length e10, .slice B11 d.values.length e11, .slice B12 d.roots.length e12, .bool d.rep, .slice B14 d.places.length e14, .int .i64 d.line, .int .i64 d.col] := Array.toList_inj.1 hcs5; clear hcs5)
  | ((with_reducible show wpList _ _ _ (_ :: _) _ _); refine wpList_load_mid (by rfl) 43 (.tmp 6) (by rfl) g5 0 (by first | rfl | simp [Act.eval, Act.put]) sch _ (Kb.range (T.a.box.sat H.sat)) Tryz.underlying43 rfl (by rw [hlen]; exact hsz) ?_)
  | ((with_reducible refine isL ?_); first
   | (refine sA 2 0 H ?_; clear H; intro w9 H)))
 refine bodyPost_ret (v := .agg #[.int .i64 d.kind, .bool d.ext, .bool d.note.has, .bool d.note.block, .string (str d.note.text), .string (str d.name), .slice B6 d.ifaces.length e6, .slice B7 d.dirs.length e7, .slice B8 d.fields.length e8, .slice B9 d.inputs.length e9, .slice B10 d.members.length e10, .slice B11 d.values.length e11, .slice B12 d.roots.length e12, .bool d.rep, .slice B14 d.places.length e14, .int .i64 d.line, .int .i64 d.col]) (results_cell_row rfl _ _ g2 43 _ (0, 0) _ (by rfl) (H.blkAt (i := 0) rfl) Tryz.underlying43 rfl (by kernel_rfl)) rfl ?_
 replace H := H.sub (List.Sublist.cons _ (List.Sublist.refl _))
 exact ⟨K6, _, rfl, hK, H, _, rfl, hd5⟩
def lookD (l : List DefD) (x : Txt) : Option DefD := (numOf l x).bind fun i => l[i]?
def zeroD : DefD := { zeroSchema with kind := 0 }
def DefO (o : Option DefD) (K : World) (v : Value) : Prop := ∃ cs, v = .tuple #[.agg cs, .bool o.isSome] ∧ RL K (defL (o.getD zeroD)) cs.toList
theorem rl_zeroD {K : World} : RL K (defL zeroD) [.int .i64 0, .bool false, .bool false, .bool false, .string ⟨#[]⟩, .string ⟨#[]⟩, .slice none 0 0, .slice none 0 0, .slice none 0 0, .slice none 0 0, .slice none 0 0, .slice none 0 0, .slice none 0 0, .bool false, .slice none 0 0, .int .i64 0, .int .i64 0] := .lit (.lit (.lit (.lit (.lit (.lit (.cons RD.z (.cons RD.z (.cons RD.z (.cons RD.z (.cons RD.z (.cons RD.z (.cons RD.z (.lit (.cons RD.z (.lit (.lit RL.z))))))))))))))))
theorem lookD_none {l : List DefD} {x : Txt} (h : numOf l x = none) : lookD l x = none := by unfold lookD; rw [h]; rfl
theorem lookD_some {l : List DefD} {x : Txt} {i : Nat} {d : DefD} (h : numOf l x = some i) (hd : l[i]? = some d) : lookD l x = some d := by unfold lookD; rw [h]; exact hd
theorem Type_t (v : Value) (x : Txt) (D : TysD) (w0 w K : World) (M : List Ent) (H : Hp w0 w K M) (hv : Tp K v D) (hW : TyW D) :
  Calls Tryz.prog 19 #[v, .string (str x)] w (Post w0 K M (DefO (lookD D.types x))) := by
 have hq := nmap_kfind D.types x
 have hN := hW.nT
 have hsz : (Tryz.prog.info? 43).map (·.size) = some 17 := def_size
 cases hi : numOf D.types x with
 | none =>
  rw [hi] at hq
  replace hq : kfind (nmap (namesD D.types)) x = none := hq
  rw [lookD_none hi]
  clear hi
  go_enter Tryz.func19, Tryz.ntmps19
  have hK := Sat.refl K
  go_upto_region 1 with (first
   | ((with_reducible refine isL ?_); first
    | (refine al z43 4 H ?_; clear H; intro w10 g4 H)))
  go_upto_region 2 with (first
   | (go_at_call 64; refine (all_t _ D _ _ K _ H hv).mono ?_; clear H; rintro e w5 ⟨K5, g5, rfl, hle, H, hT5⟩; replace hK := hle.trans hK))
  obtain ⟨ga, gd, gf, go, sch, VT, VD, OB, T⟩ := hT5
  have hcA := H.kcell T.a.box T.a.c18
  go_wp2_with (first
   | (refine lookup_k (by rfl) (.tmp 14) (.tmp 15) 87 true (by rfl) Tryz.underlying87 (keys_s Tryz.underlying9) (.int .i64 0) zero_int ga (nmap (namesD D.types)) (H.kmap T.a.at_) (by first | rfl | simp [Act.eval, Act.put]) (x) (by first | rfl | simp [Act.eval, Act.put]) (.tuple #[.int .i64 0, .bool false]) (by rw [hq]; rfl) ?_)
   | ((with_reducible refine isL ?_); first
    | (refine sA 4 0 H ?_; clear H; intro w13 H)))
  refine bodyPost_ret (results_box2 rfl _ _ g4 43 _ (0, 0) _ (by rfl) (H.blkAt (i := 0) rfl) Tryz.underlying43 rfl (by kernel_rfl)) rfl ?_
  replace H := H.sub (List.Sublist.cons _ (List.Sublist.refl _))
  exact ⟨K5, _, rfl, hK, H, _, rfl, rl_zeroD⟩
 | some i =>
  rw [hi] at hq
  replace hq : kfind (nmap (namesD D.types)) x = some (.int .i64 (i : Int)) := hq
  obtain ⟨d, hd, -⟩ := numOf_some hi
  rw [lookD_some hi hd]
  have hlt := numOf_lt hi
  have hltI : (i : Int) < (D.types.length : Int) := by omega
  have hdn := defN_at hd
  have hdm : defN d ≤ 9000000 := by omega
  clear hi
  go_enter Tryz.func19, Tryz.ntmps19
  have hK := Sat.refl K
  go_upto_region 1 with (first
   | ((with_reducible refine isL ?_); first
    | (refine al z43 4 H ?_; clear H; intro w14 g4 H)))
  go_upto_region 2 with (first
   | (go_at_call 64; refine (all_t _ D _ _ K _ H hv).mono ?_; clear H; rintro e w5 ⟨K5, g5, rfl, hle, H, hT5⟩; replace hK := hle.trans hK))
  obtain ⟨ga, gd, gf, go, sch, VT, VD, OB, T⟩ := hT5
  have hcA := H.kcell T.a.box T.a.c18
  have hcT := H.kcell T.a.box T.a.c17
  have hTy := T.a.types
  obtain ⟨A, c, hVT, hc1, hc2⟩ := slice_of hTy
  rw [hVT] at hTy hcT
  obtain ⟨ad, xs, hA, hxd, hxl, hatK⟩ := elem_k (m := 17) (f := defL) defL_len hTy hd (by omega)
  subst hA
  go_upto_region 3 with (first
   | (refine lookup_k (by rfl) (.tmp 14) (.tmp 15) 87 true (by rfl) Tryz.underlying87 (keys_s Tryz.underlying9) (.int .i64 0) zero_int ga (nmap (namesD D.types)) (H.kmap T.a.at_) (by first | rfl | simp [Act.eval, Act.put]) (x) (by first | rfl | simp [Act.eval, Act.put]) (.tuple #[.int .i64 (i : Int), .bool true]) (by rw [hq]; rfl) ?_))
  go_upto_region 5 with (fail)
  go_wp2_with (first
   | (go_at_call 65; refine (copyDef_hp d xs.toArray H hdm hxd).mono ?_; clear H; rintro e w6 ⟨K6, cs5, rfl, hle6, H, hd5⟩; replace hK := hle6.trans hK; obtain ⟨B6, e6, B7, e7, B8, e8, B9, e9, B10, e10, B11, e11, B12, e12, B14, e14, hcs5, -, -, -, -, -, -, -, -⟩ := def_cells hd5; obtain rfl : cs5 = #[.int .i64 d.kind, .bool d.ext, .bool d.note.has, .bool d.note.block, .string (str d.note.text), .string (str d.name), .slice B6 d.ifaces.length e6, .slice B7 d.dirs.length e7, .slice B8 d.fields.length e8, .slice B9 d.inputs.length e9, .slice B10 d.members.length e10, .slice B11 d.values.length e11, .slice B12 d.roots.length e12, .bool d.rep, .slice B14 d.places.length e14, .int .i64 d.line, .int .i64 d.col] := Array.toList_inj.1 hcs5; clear hcs5)
   | ((with_reducible show wpList _ _ _ (_ :: _) _ _); refine wpList_load_at (by rfl) 43 (.tmp 27) (by rfl) (ad.add (i * 17)) (by simp [Act.eval, Act.put]) _ _ (At.sat hatK H.sat) Tryz.underlying43 rfl (by rw [hxl]; exact hsz) ?_)
   | ((with_reducible refine isL ?_); first
    | (refine sA 4 0 H ?_; clear H; intro w18 H)))
  refine bodyPost_ret (results_box2 rfl _ _ g4 43 _ (0, 0) _ (by rfl) (H.blkAt (i := 0) rfl) Tryz.underlying43 rfl (by kernel_rfl)) rfl ?_
  replace H := H.sub (List.Sublist.cons _ (List.Sublist.refl _))
  exact ⟨K6, _, rfl, hK, H, _, rfl, hd5⟩
theorem Directive_t (v : Value) (x : Txt) (D : TysD) (w0 w K : World) (M : List Ent) (H : Hp w0 w K M) (hv : Tp K v D) (hW : TyW D) :
  Calls Tryz.prog 22 #[v, .string (str x)] w (Post w0 K M (DefO (lookD D.dirs x))) := by
 have hq := nmap_kfind D.dirs x
 have hN := hW.nD
 have hsz : (Tryz.prog.info? 43).map (·.size) = some 17 := def_size
 cases hi : numOf D.dirs x with
 | none =>
  rw [hi] at hq
  replace hq : kfind (nmap (namesD D.dirs)) x = none := hq
  rw [lookD_none hi]
  clear hi
  go_enter Tryz.func22, Tryz.ntmps22
  have hK := Sat.refl K
  go_upto_region 1 with (first
   | ((with_reducible refine isL ?_); first
    | (refine al z43 4 H ?_; clear H; intro w19 g4 H)))
  go_upto_region 2 with (first
   | (go_at_call 64; refine (all_t _ D _ _ K _ H hv).mono ?_; clear H; rintro e w5 ⟨K5, g5, rfl, hle, H, hT5⟩; replace hK := hle.trans hK))
  obtain ⟨ga, gd, gf, go, sch, VT, VD, OB, T⟩ := hT5
  have hcA := H.kcell T.a.box T.a.c20
  go_wp2_with (first
   | (refine lookup_k (by rfl) (.tmp 14) (.tmp 15) 87 true (by rfl) Tryz.underlying87 (keys_s Tryz.underlying9) (.int .i64 0) zero_int gd (nmap (namesD D.dirs)) (H.kmap T.a.dirAt) (by first | rfl | simp [Act.eval, Act.put]) (x) (by first | rfl | simp [Act.eval, Act.put]) (.tuple #[.int .i64 0, .bool false]) (by rw [hq]; rfl) ?_)
   | ((with_reducible refine isL ?_); first
    | (refine sA 4 0 H ?_; clear H; intro w22 H)))
  refine bodyPost_ret (results_box2 rfl _ _ g4 43 _ (0, 0) _ (by rfl) (H.blkAt (i := 0) rfl) Tryz.underlying43 rfl (by kernel_rfl)) rfl ?_
  replace H := H.sub (List.Sublist.cons _ (List.Sublist.refl _))
  exact ⟨K5, _, rfl, hK, H, _, rfl, rl_zeroD⟩
 | some i =>
  rw [hi] at hq
  replace hq : kfind (nmap (namesD D.dirs)) x = some (.int .i64 (i : Int)) := hq
  obtain ⟨d, hd, -⟩ := numOf_some hi
  rw [lookD_some hi hd]
  have hlt := numOf_lt hi
  have hltI : (i : Int) < (D.dirs.length : Int) := by omega
  have hdn := defN_at hd
  have hdm : defN d ≤ 9000000 := by omega
  clear hi
  go_enter Tryz.func22, Tryz.ntmps22
  have hK := Sat.refl K
  go_upto_region 1 with (first
   | ((with_reducible refine isL ?_); first
    | (refine al z43 4 H ?_; clear H; intro w23 g4 H)))
  go_upto_region 2 with (first
   | (go_at_call 64; refine (all_t _ D _ _ K _ H hv).mono ?_; clear H; rintro e w5 ⟨K5, g5, rfl, hle, H, hT5⟩; replace hK := hle.trans hK))
  obtain ⟨ga, gd, gf, go, sch, VT, VD, OB, T⟩ := hT5
  have hcA := H.kcell T.a.box T.a.c20
  have hcT := H.kcell T.a.box T.a.c19
  have hTy := T.a.dirs
  obtain ⟨A, c, hVT, hc1, hc2⟩ := slice_of hTy
  rw [hVT] at hTy hcT
  obtain ⟨ad, xs, hA, hxd, hxl, hatK⟩ := elem_k (m := 17) (f := defL) defL_len hTy hd (by omega)
  subst hA
  go_upto_region 3 with (first
   | (refine lookup_k (by rfl) (.tmp 14) (.tmp 15) 87 true (by rfl) Tryz.underlying87 (keys_s Tryz.underlying9) (.int .i64 0) zero_int gd (nmap (namesD D.dirs)) (H.kmap T.a.dirAt) (by first | rfl | simp [Act.eval, Act.put]) (x) (by first | rfl | simp [Act.eval, Act.put]) (.tuple #[.int .i64 (i : Int), .bool true]) (by rw [hq]; rfl) ?_))
  go_upto_region 5 with (fail)
  go_wp2_with (first
   | (go_at_call 65; refine (copyDef_hp d xs.toArray H hdm hxd).mono ?_; clear H; rintro e w6 ⟨K6, cs5, rfl, hle6, H, hd5⟩; replace hK := hle6.trans hK; obtain ⟨B6, e6, B7, e7, B8, e8, B9, e9, B10, e10, B11, e11, B12, e12, B14, e14, hcs5, -, -, -, -, -, -, -, -⟩ := def_cells hd5; obtain rfl : cs5 = #[.int .i64 d.kind, .bool d.ext, .bool d.note.has, .bool d.note.block, .string (str d.note.text), .string (str d.name), .slice B6 d.ifaces.length e6, .slice B7 d.dirs.length e7, .slice B8 d.fields.length e8, .slice B9 d.inputs.length e9, .slice B10 d.members.length e10, .slice B11 d.values.length e11, .slice B12 d.roots.length e12, .bool d.rep, .slice B14 d.places.length e14, .int .i64 d.line, .int .i64 d.col] := Array.toList_inj.1 hcs5; clear hcs5)
   | ((with_reducible show wpList _ _ _ (_ :: _) _ _); refine wpList_load_at (by rfl) 43 (.tmp 27) (by rfl) (ad.add (i * 17)) (by simp [Act.eval, Act.put]) _ _ (At.sat hatK H.sat) Tryz.underlying43 rfl (by rw [hxl]; exact hsz) ?_)
   | ((with_reducible refine isL ?_); first
    | (refine sA 4 0 H ?_; clear H; intro w27 H)))
  refine bodyPost_ret (results_box2 rfl _ _ g4 43 _ (0, 0) _ (by rfl) (H.blkAt (i := 0) rfl) Tryz.underlying43 rfl (by kernel_rfl)) rfl ?_
  replace H := H.sub (List.Sublist.cons _ (List.Sublist.refl _))
  exact ⟨K6, _, rfl, hK, H, _, rfl, hd5⟩
theorem rootD_cells {w : World} {a T : Nat} {d : RootD} {vs : List Value} (h : DatL w a T (rootL d) vs) : vs = [.int .i64 d.op, .string (str d.type), .int .i64 d.line, .int .i64 d.col] := by
 obtain ⟨r0, rfl, h0⟩ := h.lit_inv
 obtain ⟨r1, rfl, h1⟩ := h0.lit_inv
 obtain ⟨r2, rfl, h2⟩ := h1.lit_inv
 obtain ⟨r3, rfl, h3⟩ := h2.lit_inv
 rw [h3.nil_inv]
theorem find_at {α : Type} {p : α → Bool} : ∀ {l : List α} {k : Nat} {x : α}, (∀ y ∈ l.take k, p y = false) → l[k]? = some x → p x = true → l.find? p = some x
 | [], k, x, _, h, _ => by simp at h
 | a :: r, 0, x, _, h, hp => by
  simp only [List.getElem?_cons_zero, Option.some.injEq] at h
  subst h
  simp [List.find?_cons, hp]
 | a :: r, k + 1, x, h0, h, hp => by
  have ha : p a = false := h0 a (by simp)
  have := find_at (l := r) (k := k) (fun y hy => h0 y (by rw [List.take_succ_cons]; exact List.mem_cons_of_mem _ hy)) (by simpa using h) hp
  simp [List.find?_cons, ha, this]
theorem find_no {α : Type} {p : α → Bool} {l : List α} (h : ∀ y ∈ l, p y = false) : l.find? p = none := by
 rw [List.find?_eq_none]; intro y hy; rw [h y hy]; exact Bool.false_ne_true
theorem all_next {α : Type} {p : α → Bool} {l : List α} {k : Nat} {x : α} (h : ∀ y ∈ l.take k, p y = false) (hx : l[k]? = some x) (hp : p x = false) : ∀ y ∈ l.take (k + 1), p y = false := by
 intro y hy
 rw [take_next hx] at hy
 rcases List.mem_append.1 hy with hy | hy
 · exact h y hy
 · obtain rfl := List.mem_singleton.1 hy; exact hp
theorem root_size : (Tryz.prog.info? 100).map (·.size) = some 4 := by kernel_rfl
def rootNm (rs : List RootD) (op : Int) : Txt := ((rs.find? fun r => r.op == op).map (·.type)).getD []
set_option maxHeartbeats 4000000 in
theorem Root_t (v : Value) (op : Int) (D : TysD) (w0 w K : World) (M : List Ent) (H : Hp w0 w K M) (hv : Tp K v D) (hW : TyW D) :
  Calls Tryz.prog 17 #[v, .int .i64 op] w fun e w' => ∃ K', e = .returned (.string (str (rootNm D.schema.roots op))) ∧ Sat K' K ∧ Hp w0 w' K' M := by
 have hsz := root_size
 have hrl : D.schema.roots.length ≤ 9000000 := by have := hW.nS; unfold defN at this; omega
 obtain ⟨rs, hrs⟩ : ∃ rs, D.schema.roots = rs := ⟨_, rfl⟩
 obtain ⟨n, hn⟩ : ∃ n, rs.length = n := ⟨_, rfl⟩
 rw [hrs] at hrl ⊢
 rw [hn] at hrl
 have HN := hide hn
 go_enter Tryz.func17, Tryz.ntmps17
 have hK := Sat.refl K
 go_wp2_with (first
  | (go_at_call 64; refine (all_t _ D _ _ K _ H hv).mono ?_; clear H; rintro e w5 ⟨K5, g5, rfl, hle, H, hT5⟩; replace hK := hle.trans hK; obtain ⟨ga, gd, gf, go, sch, VT, VD, OB, T⟩ := hT5; obtain ⟨A6, c6, A7, c7, A8, c8, A9, c9, A10, c10, A11, c11, A12, c12, A14, c14, hcs, -, -, -, -, -, -, hr, -⟩ := def_cells T.a.sch; subst hcs; have h12 := H.kcell (j := 12) T.a.box rfl; rw [hrs, hn] at hr; rw [hrs, hn] at h12))
 clear hn hrs h12 T
 go_loopw [14] (fun i wr => ∃ k : Nat, k ≤ n ∧ i = .int .i64 k ∧ Hp w0 wr K5 M ∧ ∀ y ∈ rs.take k, (y.op == op) = false) (fun i _ => n - (intOf i).toNat)
 case atStart => exact ⟨0, Nat.zero_le _, rfl, H, by simp⟩
 case round =>
  clear H
  obtain ⟨k, hk, rfl, H, hno⟩ := hrel
  by_cases hlt : k < n
  · have hkI : (k : Int) < (n : Int) := by omega
    obtain ⟨x, hx⟩ : ∃ x, rs[k]? = some x := ⟨_, List.getElem?_eq_getElem (by rw [HN.out]; exact hlt)⟩
    have HX := hide hx
    obtain ⟨ad, xs, hA, hxd, _, hatK⟩ := elem_k (m := 4) (f := rootL) (fun _ => rfl) hr hx (by omega)
    subst hA
    clear hx
    obtain rfl := rootD_cells hxd
    clear hxd
    have hno := hide hno
    obtain ⟨xo, hxo⟩ : ∃ xo, x.op = xo := ⟨_, rfl⟩
    rw [hxo] at hatK
    by_cases hop : xo = op
    · subst hop
      go_wp2_with (first
       | ((with_reducible show wpList _ _ _ (_ :: _) _ _); refine wpList_load_at (by rfl) 100 (.tmp 16) (by rfl) (ad.add (k * 4)) (by simp [Act.eval, Act.put]) _ _ (At.sat hatK H.sat) Tryz.underlying100 rfl hsz ?_)
       | ((with_reducible refine isL ?_); first
        | (refine al z100 6 H ?_; clear H; intro w1 g6 H; have := H.c 0 0; have := H.c 0 1)
        | (refine sA 6 0 H ?_; clear H; intro w3 H; have := H.c 0 0; have := H.c 0 1)))
      replace H := H.sub (List.Sublist.cons _ (List.Sublist.refl _))
      go_ret
      exact ⟨K5, by unfold rootNm; rw [find_at hno.out HX.out (by simp [hxo])]; rfl, hK, H⟩
    · have hb : (x.op == op) = false := by simp [hxo, hop]
      go_wp2_with (first
       | ((with_reducible show wpList _ _ _ (_ :: _) _ _); refine wpList_load_at (by rfl) 100 (.tmp 16) (by rfl) (ad.add (k * 4)) (by simp [Act.eval, Act.put]) _ _ (At.sat hatK H.sat) Tryz.underlying100 rfl hsz ?_)
       | ((with_reducible refine isL ?_); first
        | (refine al z100 6 H ?_; clear H; intro w4 g6 H; have := H.c 0 0)
        | (refine sA 6 0 H ?_; clear H; intro w6 H; have := H.c 0 0)))
      replace H := H.sub (List.Sublist.cons _ (List.Sublist.refl _))
      go_roundw
      case rel => exact ⟨k + 1, by omega, by go_num, H, all_next hno.out HX.out hb⟩
      case measure => simp [intOf]; omega
  · obtain rfl : n = k := by omega
    have htk : rs.take n = rs := by rw [← HN.out]; exact List.take_length
    rw [htk] at hno
    have hno := hide hno
    go_wp2_with fail
    go_ret
    exact ⟨K5, by unfold rootNm; rw [find_no hno.out]; rfl, hK, H⟩
def inK (k : Int) : Bool := k == 2 || k == 6 || k == 7
def outK (k : Int) : Bool := k == 2 || k == 6 || k == 3 || k == 4 || k == 5
theorem Input_t (v : Value) (x : Txt) (D : TysD) (w0 w K : World) (M : List Ent) (H : Hp w0 w K M) (hv : Tp K v D) :
  Calls Tryz.prog 31 #[v, .string (str x)] w fun e w' => ∃ K', e = .returned (.bool (inK (kindOf D.types x))) ∧ Sat K' K ∧ Hp w0 w' K' M := by
 obtain ⟨kk, hkk⟩ : ∃ kk, kindOf D.types x = kk := ⟨_, rfl⟩
 have hg : ∀ (b : Bool), inK kk = b → Calls Tryz.prog 31 #[v, .string (str x)] w fun e w' => ∃ K', e = .returned (.bool b) ∧ Sat K' K ∧ Hp w0 w' K' M := by
  intro b hb
  have hK := Sat.refl K
  go_enter Tryz.func31, Tryz.ntmps31
  go_upto_region 2 with (first
   | (go_at_call 64; refine (all_t _ D _ _ K _ H hv).mono ?_; clear H; rintro e w5 ⟨K5, g5, rfl, hle, H, hT5⟩; replace hK := hle.trans hK; obtain ⟨ga, gd, gf, go, sch, VT, VD, OB, T⟩ := hT5)
   | (go_at_call 79; refine (kind_is x kk g5 ga gd gf go sch VT VD D.schema D.types D.dirs _ _ _ _ H T.a hkk).mono ?_; clear H; rintro e w6 ⟨rfl, H⟩))
  clear T
  rcases (show kk = 2 ∨ kk = 6 ∨ kk = 7 ∨ (kk ≠ 2 ∧ kk ≠ 6 ∧ kk ≠ 7) by omega) with rfl | rfl | rfl | ⟨h1, h2, h3⟩ <;> (go_wp2_with fail; go_ret; exact ⟨K5, by subst hb; simp [inK, outK, *], hK, H⟩)
 rw [hkk]
 exact hg _ rfl
theorem Output_t (v : Value) (x : Txt) (D : TysD) (w0 w K : World) (M : List Ent) (H : Hp w0 w K M) (hv : Tp K v D) :
  Calls Tryz.prog 33 #[v, .string (str x)] w fun e w' => ∃ K', e = .returned (.bool (outK (kindOf D.types x))) ∧ Sat K' K ∧ Hp w0 w' K' M := by
 obtain ⟨kk, hkk⟩ : ∃ kk, kindOf D.types x = kk := ⟨_, rfl⟩
 have hg : ∀ (b : Bool), outK kk = b → Calls Tryz.prog 33 #[v, .string (str x)] w fun e w' => ∃ K', e = .returned (.bool b) ∧ Sat K' K ∧ Hp w0 w' K' M := by
  intro b hb
  have hK := Sat.refl K
  go_enter Tryz.func33, Tryz.ntmps33
  go_upto_region 2 with (first
   | (go_at_call 64; refine (all_t _ D _ _ K _ H hv).mono ?_; clear H; rintro e w5 ⟨K5, g5, rfl, hle, H, hT5⟩; replace hK := hle.trans hK; obtain ⟨ga, gd, gf, go, sch, VT, VD, OB, T⟩ := hT5)
   | (go_at_call 79; refine (kind_is x kk g5 ga gd gf go sch VT VD D.schema D.types D.dirs _ _ _ _ H T.a hkk).mono ?_; clear H; rintro e w6 ⟨rfl, H⟩))
  clear T
  rcases (show kk = 2 ∨ kk = 6 ∨ kk = 3 ∨ kk = 4 ∨ kk = 5 ∨ (kk ≠ 2 ∧ kk ≠ 6 ∧ kk ≠ 3 ∧ kk ≠ 4 ∧ kk ≠ 5) by omega) with rfl | rfl | rfl | rfl | rfl | ⟨h1, h2, h3, h4, h5⟩ <;> (go_wp2_with fail; go_ret; exact ⟨K5, by subst hb; simp [inK, outK, *], hK, H⟩)
 rw [hkk]
 exact hg _ rfl
theorem spot_none {w : World} {p : Addr} {v : Value} (h : w.cell? p = some v) : ∃ B O, p = ⟨B, O, none⟩ := by
 obtain ⟨b, o, sp⟩ := p
 cases sp with
 | none => exact ⟨b, o, rfl⟩
 | some x =>
  unfold World.cell? at h
  split at h
  · simp at h
  · cases h
theorem slice_plain {K : World} {α : Type} {f : α → List Leaf} {m n c : Nat} {ad : Addr} {l : List α} (hf : ∀ x, (f x).length = m) (h : RD K (.list n (l.flatMap f)) (.slice (some ad) n c)) (hl : 0 < l.length) (hm : 0 < m) : ∃ B O, ad = ⟨B, O, none⟩ := by
 obtain ⟨ad', vs, h1, _, h3, h4⟩ := elem_k hf h (List.getElem?_eq_getElem hl) hm
 injection h1 with h1
 subst h1
 have h0 : ad.add (0 * m) = ad := by unfold Addr.add; simp
 rw [h0] at h4
 cases vs with
 | nil => simp at h3; omega
 | cons v r => exact spot_none (h4.1 v rfl)
theorem plain_add (B O k : Nat) : (⟨B, O, none⟩ : Addr).add k = ⟨B, O + k, none⟩ := by unfold Addr.add; split <;> simp_all
theorem in1_hp (x : NamedD) (b : Txt) (gb i : Nat) (w0 w K : World) (M : List Ent) (H : Hp w0 w K M) (hb : M[i]? = some (.box gb [.string (str b)] 9)) :
  Calls Tryz.prog 82 #[.agg #[.string (str x.name), .int .i64 x.line, .int .i64 x.col], .pointer (some ⟨gb, 0, none⟩)] w fun e w' => e = .returned (.bool (decide (x.name = b))) ∧ Hp w0 w' K M := by
 have hs := str_toList x.name b
 go_enter Tryz.func82, Tryz.ntmps82
 go_wp2_with (first
  | ((with_reducible show wpList _ _ _ (_ :: _) _ _); refine box_hp (by rfl) 113 (.tmp 0) (by rfl) [.string (str x.name), .int .i64 x.line, .int .i64 x.col] _ (by rfl) (by rfl) (some 2) (by rfl) H ?_; clear H; intro w1 g2 H hg1; clear hg1; have c1 : (w1).cell? ⟨g2, 0, none⟩ = some (.string (str x.name)) := H.cell (i := 0) rfl rfl; have c2 : (w1).cell? ⟨gb, 0, none⟩ = some (.string (str b)) := H.cell (i := i + 1) (by simpa using hb) rfl))
 replace H := Hp.tail H
 go_ret
 exact ⟨by rw [← hs]; rfl, H⟩
set_option maxHeartbeats 4000000 in
theorem inIdx_hp (l : List NamedD) (b : Txt) (gb i n c : Nat) (A : Option Addr) (w0 w K : World) (M : List Ent) (H : Hp w0 w K M) (hb : M[i]? = some (.box gb [.string (str b)] 9)) (hn : l.length = n) (hd : RD K (.list n (namedsL l)) (.slice A n c)) (hm : n ≤ 20000000) :
  Calls Tryz.prog 127 #[.slice A n c, .func (.func 82) #[] #[.pointer (some ⟨gb, 0, none⟩)]] w fun e w' => e = .returned (.int .i64 (idxI (l.findIdx? fun d => decide (d.name = b)))) ∧ Hp w0 w' K M := by
 have HN := hide hn
 clear hn
 go_enter Tryz.func127, Tryz.ntmps127
 go_wp2_with fail
 go_loopw [8] (fun i wr => ∃ k : Nat, k ≤ n ∧ i = .int .i64 k ∧ Hp w0 wr K M ∧ ∀ y ∈ l.take k, decide (y.name = b) = false) (fun i _ => n - (intOf i).toNat)
 case atStart => exact ⟨0, Nat.zero_le _, rfl, H, by simp⟩
 case round =>
  clear H
  obtain ⟨k, hk, rfl, H, hno⟩ := hrel
  by_cases hlt : k < n
  · have hkI : (k : Int) < (n : Int) := by omega
    obtain ⟨x, hx⟩ : ∃ x, l[k]? = some x := ⟨_, List.getElem?_eq_getElem (by rw [HN.out]; exact hlt)⟩
    have HX := hide hx
    obtain ⟨ad, xs, hA, hxd, _, hatK⟩ := elem_k (m := 3) (f := namedL) (fun _ => rfl) hd hx (by omega)
    subst hA
    clear hx
    have hsz := named_size
    obtain rfl := namedD_cells hxd
    clear hxd
    have hno := hide hno
    cases hq : decide (x.name = b) with
    | true =>
     go_wp2_with (first
      | ((with_reducible show wpList _ _ _ (_ :: _) _ _); refine wpList_load_at (by rfl) 113 (.tmp 14) (by rfl) (ad.add (k * 3)) (by simp [Act.eval, Act.put]) _ _ (At.sat hatK H.sat) Tryz.underlying113 rfl hsz ?_)
      | (go_at_call 82; refine (in1_hp x b gb i _ _ _ _ H hb).mono ?_; clear H; rintro e w1 ⟨rfl, H⟩; rw [hq]))
     go_ret
     exact ⟨by rw [findIdx_at hno.out HX.out hq]; rfl, H⟩
    | false =>
     go_wp2_with (first
      | ((with_reducible show wpList _ _ _ (_ :: _) _ _); refine wpList_load_at (by rfl) 113 (.tmp 14) (by rfl) (ad.add (k * 3)) (by simp [Act.eval, Act.put]) _ _ (At.sat hatK H.sat) Tryz.underlying113 rfl hsz ?_)
      | (go_at_call 82; refine (in1_hp x b gb i _ _ _ _ H hb).mono ?_; clear H; rintro e w1 ⟨rfl, H⟩; rw [hq]))
     go_roundw
     case rel => exact ⟨k + 1, by omega, by go_num, H, all_next hno.out HX.out hq⟩
     case measure => simp [intOf]; omega
  · obtain rfl : n = k := by omega
    have htk : l.take n = l := by rw [← HN.out]; exact List.take_length
    rw [htk] at hno
    have hno := hide hno
    go_wp2_with fail
    go_ret
    exact ⟨by rw [findIdx_no hno.out]; rfl, H⟩
theorem idx_any {α : Type} (p : α → Bool) (l : List α) : decide (0 ≤ idxI (l.findIdx? p)) = l.any p := by
 cases h : l.findIdx? p with
 | none =>
  rw [List.findIdx?_eq_none_iff] at h
  have : l.any p = false := by rw [List.any_eq_false]; intro x hx; rw [h x hx]; exact Bool.false_ne_true
  rw [this]; rfl
 | some i =>
  obtain ⟨hi, h1, _⟩ := List.findIdx?_eq_some_iff_getElem.1 h
  have : l.any p = true := List.any_eq_true.2 ⟨l[i], List.getElem_mem hi, h1⟩
  rw [this]; simp [idxI]
theorem inHas_hp (l : List NamedD) (b : Txt) (gb i n c : Nat) (A : Option Addr) (w0 w K : World) (M : List Ent) (H : Hp w0 w K M) (hb : M[i]? = some (.box gb [.string (str b)] 9)) (hn : l.length = n) (hd : RD K (.list n (namedsL l)) (.slice A n c)) (hm : n ≤ 20000000) :
  Calls Tryz.prog 81 #[.slice A n c, .func (.func 82) #[] #[.pointer (some ⟨gb, 0, none⟩)]] w fun e w' => e = .returned (.bool (l.any fun d => decide (d.name = b))) ∧ Hp w0 w' K M := by
 have hi := idx_any (fun d : NamedD => decide (d.name = b)) l
 obtain ⟨q, hq⟩ : ∃ q, idxI (l.findIdx? fun d => decide (d.name = b)) = q := ⟨_, rfl⟩
 rw [← hi, hq]
 clear hi
 go_enter Tryz.func81, Tryz.ntmps81
 go_wp2_with (first
  | (go_at_call 127; refine (inIdx_hp l b gb i n c A _ _ _ M H hb hn hd hm).mono ?_; clear H; rintro e w1 ⟨rfl, H⟩; rw [hq]))
 go_ret
 exact ⟨by first | rfl | simp, H⟩
theorem oset (x : Txt) : ∀ OB : List (Txt × Nat × List (Txt × Value)), (kfind (ovals OB) x = none ∧ setOf (omap OB) x = []) ∨ ∃ p ∈ OB, kfind (ovals OB) x = some (.map (some p.2.1)) ∧ setOf (omap OB) x = p.2.2
 | [] => .inl ⟨rfl, rfl⟩
 | p :: r => by
  by_cases h : p.1 = x
  · exact .inr ⟨p, List.mem_cons_self .., by simp [kfind, ovals, h], by simp [setOf, omap, h]⟩
  · have h1 : kfind (ovals (p :: r)) x = kfind (ovals r) x := by simp [kfind, ovals, h]
    have h2 : setOf (omap (p :: r)) x = setOf (omap r) x := by simp [setOf, omap, h]
    rw [h1, h2]
    rcases oset x r with h | ⟨q, hq, h⟩
    · exact .inl h
    · exact .inr ⟨q, List.mem_cons_of_mem _ hq, h⟩
theorem run_lookup_nilmap {P : Program} {t kt et : Nat} {w : World} {z : Value} (ht : P.underlying t = some (.map kt et)) (hk : P.underlying kt = some .string) (hz : (zeroValue et).run P w = .ok z w) (x : Txt) (ok : Bool) :
  (Instr.lookup t (.map none) (.string (str x)) ok).run P w = .ok (if ok then .tuple #[z, .bool false] else z) w := by
 have hf : (Instr.findKey kt (.string (str x)) []).run P w = .ok none w := findKey_s (P := P) (w := w) (l := []) hk x
 unfold Instr.lookup
 cases ok <;> simp [Sem.run_bind, run_underlying ht w, Result.andThen_ok, checkKey_s hk, hf, hz, Sem.run_pure]
theorem lookup_set (OB : List (Txt × Nat × List (Txt × Value))) (go : Nat) (x y : Txt) :
  ∃ mv, ∀ w, Km w go (kents ks (ovals OB)) → (∀ p ∈ OB, Km w p.2.1 (kents ks p.2.2)) → (Instr.lookup 89 (.map (some go)) (.string (str x)) false).run Tryz.prog w = .ok mv w ∧ (Instr.lookup 87 mv (.string (str y)) true).run Tryz.prog w = .ok (.tuple #[(kfind (setOf (omap OB) x) y).getD (.int .i64 0), .bool (kfind (setOf (omap OB) x) y).isSome]) w := by
 have h1 := fun w ho => run_lookup_k (P := Tryz.prog) (w := w) (t := 89) (kt := 9) (et := 87) (l := ovals OB) (b := go) Tryz.underlying89 (keys_s Tryz.underlying9) (.map none) (zero_map w) ho x false
 rcases oset x OB with ⟨hf, hS⟩ | ⟨p, hp, hf, hS⟩
 · rw [hf] at h1
   refine ⟨.map none, fun w ho hs => ⟨h1 w ho, ?_⟩⟩
   rw [hS]
   exact run_lookup_nilmap Tryz.underlying87 Tryz.underlying9 (zero_int w) y true
 · rw [hf] at h1
   refine ⟨.map (some p.2.1), fun w ho hs => ⟨h1 w ho, ?_⟩⟩
   rw [hS]
   exact run_lookup_k (P := Tryz.prog) (w := w) (t := 87) (kt := 9) (et := 3) (l := p.2.2) (b := p.2.1) Tryz.underlying87 (keys_s Tryz.underlying9) (.int .i64 0) (zero_int w) (hs p hp) y true
def withinD (D : TysD) (a b : Txt) : Bool :=
 if kindOf D.types a = 0 ∨ kindOf D.types b = 0 then false
 else if a = b then true
 else if kindOf D.types b = 5 then (kfind (setOf D.objects b) a).isSome
 else if kindOf D.types b ≠ 4 ∨ (kindOf D.types a ≠ 3 ∧ kindOf D.types a ≠ 4) then false
 else (((lookD D.types a).map (·.ifaces)).getD []).any fun n => decide (n.name = b)
theorem kindOf_nz {ts : List DefD} {x : Txt} (h : kindOf ts x ≠ 0) : ∃ i d, numOf ts x = some i ∧ ts[i]? = some d ∧ d.kind = kindOf ts x := by
 cases hi : numOf ts x with
 | none => exact absurd (kindOf_none hi) h
 | some i =>
  obtain ⟨d, hd, _⟩ := numOf_some hi
  exact ⟨i, d, rfl, hd, (kindOf_some hi hd).symm⟩
set_option maxHeartbeats 16000000 in
theorem Within_t (v : Value) (a b : Txt) (D : TysD) (w0 w K : World) (M : List Ent) (H : Hp w0 w K M) (hv : Tp K v D) (hW : TyW D) :
  Calls Tryz.prog 37 #[v, .string (str a), .string (str b)] w fun e w' => ∃ K', e = .returned (.bool (withinD D a b)) ∧ Sat K' K ∧ Hp w0 w' K' M := by
 have hwd : withinD D a b = withinD D a b := rfl
 conv at hwd => rhs; unfold withinD
 obtain ⟨ka, hka⟩ : ∃ kk, kindOf D.types a = kk := ⟨_, rfl⟩
 obtain ⟨kb, hkb⟩ : ∃ kk, kindOf D.types b = kk := ⟨_, rfl⟩
 rw [hka, hkb] at hwd
 have hst := str_toList a b
 have HW := hide hwd
 clear hwd
 go_enter Tryz.func37, Tryz.ntmps37
 have hK := Sat.refl K
 go_upto_region 1 with (first
  | (refine box_hp (by rfl) 9 (.tmp 2) (by rfl) [.string (str b)] _ (by rfl) (by rfl) (some 5) (by rfl) H ?_; clear H; intro w1 g5 H hg2; clear hg2))
 go_upto_region 2 with (first
  | (go_at_call 64; refine (all_t _ D _ _ K _ H hv).mono ?_; clear H; rintro e w5 ⟨K5, g5_1, rfl, hle, H, hT5⟩; replace hK := hle.trans hK))
 obtain ⟨ga, gd, gf, go, sch, VT, VD, OB, T⟩ := hT5
 by_cases ha0 : ka = 0
 · subst ha0
   have HR := hide (HW.out.trans (if_pos (.inl rfl)))
   have := H.c 0 0
   go_wp2_with (first
    | (go_at_call 79; refine (kind_is a _ g5_1 ga gd gf go sch VT VD D.schema D.types D.dirs _ _ _ _ H T.a hka).mono ?_; clear H; rintro e wa ⟨rfl, H⟩; have := H.c 0 0))
   replace H := H.sub (List.Sublist.cons _ (List.Sublist.refl _))
   go_ret
   exact ⟨K5, by rw [HR.out]; rfl, hK, H⟩
 · have ha0' : (ka == 0) = false := by simp [ha0]
   by_cases hb0 : kb = 0
   · subst hb0
     have HR := hide (HW.out.trans (if_pos (.inr rfl)))
     have := H.c 0 0
     have tk5 : True := trivial
     go_wp2_with (first
      | (go_at_call 79; have tk_ := tk5; clear tk_ tk5; have tk6 : True := trivial; refine (kind_is a _ g5_1 ga gd gf go sch VT VD D.schema D.types D.dirs _ _ _ _ H T.a hka).mono ?_; clear H; rintro e wa ⟨rfl, H⟩; have := H.c 0 0)
      | (go_at_call 79; have tk_ := tk6; clear tk_ tk6; refine (kind_is b _ g5_1 ga gd gf go sch VT VD D.schema D.types D.dirs _ _ _ _ H T.a hkb).mono ?_; clear H; rintro e wb ⟨rfl, H⟩; have := H.c 0 0))
     replace H := H.sub (List.Sublist.cons _ (List.Sublist.refl _))
     go_ret
     exact ⟨K5, by rw [HR.out]; rfl, hK, H⟩
   · have hb0' : (kb == 0) = false := by simp [hb0]
     have HW2 := hide (HW.out.trans (if_neg (fun h => h.elim ha0 hb0)))
     clear HW
     have := H.c 0 0
     have tk7 : True := trivial
     go_upto_region 4 with (first
      | (go_at_call 79; have tk_ := tk7; clear tk_ tk7; have tk8 : True := trivial; refine (kind_is a _ g5_1 ga gd gf go sch VT VD D.schema D.types D.dirs _ _ _ _ H T.a hka).mono ?_; clear H; rintro e wa ⟨rfl, H⟩; have := H.c 0 0)
      | (go_at_call 79; have tk_ := tk8; clear tk_ tk8; refine (kind_is b _ g5_1 ga gd gf go sch VT VD D.schema D.types D.dirs _ _ _ _ H T.a hkb).mono ?_; clear H; rintro e wb ⟨rfl, H⟩; have := H.c 0 0))
     by_cases hab : a = b
     · have HR := hide (HW2.out.trans (if_pos hab))
       have hab' : ((str a).toList == (str b).toList) = true := by rw [hst]; exact decide_eq_true hab
       clear hst
       have := H.c 0 0
       go_wp2_with fail
       replace H := H.sub (List.Sublist.cons _ (List.Sublist.refl _))
       go_ret
       exact ⟨K5, by rw [HR.out]; rfl, hK, H⟩
     · have HW3 := hide (HW2.out.trans (if_neg hab))
       have hab' : ((str a).toList == (str b).toList) = false := by rw [hst]; exact decide_eq_false hab
       clear hst HW2
       have cb : (wb).cell? ⟨g5, 0, none⟩ = some (.string (str b)) := H.cell (i := 0) rfl rfl
       go_upto_region 6 with (fail)
       by_cases h5 : kb = 5
       · subst h5
         have HR := hide (HW3.out.trans (if_pos rfl))
         obtain ⟨mv, hmv⟩ := lookup_set OB go b a
         have := H.c 0 0
         go_upto_region 7 with (first
          | (go_at_call 79; refine (kind_is b _ g5_1 ga gd gf go sch VT VD D.schema D.types D.dirs _ _ _ _ H T.a hkb).mono ?_; clear H; rintro e wb ⟨rfl, H⟩; have := H.c 0 0))
         have h22 := H.kcell T.a.box T.a.c22
         have := H.c 0 0
         have hr1 := fun k => (hmv ((wb).drewN k) (T.objects.sat (H.drew k).sat) (fun p hp => (T.sets p hp).sat (H.drew k).sat)).1
         have hr2 := fun k => (hmv ((wb).drewN k) (T.objects.sat (H.drew k).sat) (fun p hp => (T.sets p hp).sat (H.drew k).sat)).2
         go_quiet (fail)
         replace H := H.drew nq
         obtain ⟨w10, hq11⟩ : ∃ x, (wb).drewN nq = x := ⟨_, rfl⟩
         rw [hq11] at H ⊢
         clear hq11
         replace H : Hp _ _ _ (_ :: M) := H
         go_wp2_with fail
         replace H := H.sub (List.Sublist.cons _ (List.Sublist.refl _))
         go_ret
         exact ⟨K5, by rw [HR.out, T.om]; rfl, hK, H⟩
       · have HW4 := hide (HW3.out.trans (if_neg h5))
         clear HW3
         have h5' : (kb == 5) = false := by simp [h5]
         have cb1 : (wb).cell? ⟨g5, 0, none⟩ = some (.string (str b)) := H.cell (i := 0) rfl rfl
         have := H.c 0 0
         go_upto_region 9 with (first
          | (go_at_call 79; refine (kind_is b _ g5_1 ga gd gf go sch VT VD D.schema D.types D.dirs _ _ _ _ H T.a hkb).mono ?_; clear H; rintro e wb ⟨rfl, H⟩; have := H.c 0 0))
         by_cases h4 : kb = 4
         · subst h4
           by_cases ha3 : ka = 3
           · subst ha3
             have HR := hide (HW4.out.trans (if_neg (by simp)))
             have := H.c 0 0
             have tk13 : True := trivial
             go_upto_region 11 with (first
              | (go_at_call 79; have tk_ := tk13; clear tk_ tk13; have tk14 : True := trivial; refine (kind_is b _ g5_1 ga gd gf go sch VT VD D.schema D.types D.dirs _ _ _ _ H T.a hkb).mono ?_; clear H; rintro e wb ⟨rfl, H⟩; have := H.c 0 0)
              | (go_at_call 79; have tk_ := tk14; clear tk_ tk14; refine (kind_is a _ g5_1 ga gd gf go sch VT VD D.schema D.types D.dirs _ _ _ _ H T.a hka).mono ?_; clear H; rintro e wa ⟨rfl, H⟩; have := H.c 0 0))
             obtain ⟨i, d, hi, hd, hdk⟩ := kindOf_nz (ts := D.types) (x := a) (by rw [hka]; omega)
             have hN := hW.nT
             have hdn := defN_at hd
             have hif := ifaces_le d
             have hlt := numOf_lt hi
             have hltI : (i : Int) < (D.types.length : Int) := by omega
             have hlk := lookD_some hi hd
             have hq := nmap_kfind D.types a
             rw [hi] at hq
             replace hq : kfind (nmap (namesD D.types)) a = some (.int .i64 (i : Int)) := hq
             have hTy := T.a.types
             obtain ⟨A, c, hVT, hc1, hc2⟩ := slice_of hTy
             have hcT := T.a.c17
             rw [hVT] at hTy
             obtain ⟨ad, xs, hA, hxd, hxl, hatK⟩ := elem_k (m := 17) (f := defL) defL_len hTy hd (by omega)
             subst hA
             obtain ⟨B, O, hBO⟩ := slice_plain (m := 17) (f := defL) defL_len hTy (by omega) (by omega)
             subst hBO
             obtain ⟨A6, c6, A7, c7, A8, c8, A9, c9, A10, c10, A11, c11, A12, c12, A14, c14, hcs, hfa, -, -, -, -, -, -, -⟩ := def_cells hxd
             subst hcs
             subst hVT
             rw [plain_add] at hatK
             have hcI := hatK.2 5 _ rfl
             refine held.begin_ (fun w' => w'.cell? ⟨g5_1, 17, none⟩ = some (.slice (some ⟨B, O, none⟩) D.types.length c) ∧ w'.cell? ⟨g5_1, 18, none⟩ = some (.map (some ga)) ∧ w'.cell? ⟨B, O + i * 17 + (5 + 1), none⟩ = some (.slice A6 d.ifaces.length c6) ∧ (Instr.lookup 87 (.map (some ga)) (.string (str a)) false).run Tryz.prog w' = .ok (.int .i64 (i : Int)) w') [] (by kernel_rfl) ?_
             replace H := H.drew1
             obtain ⟨w15, hq16⟩ : ∃ x, (wa).drew = x := ⟨_, rfl⟩
             rw [hq16] at H ⊢
             clear hq16
             have hS17 : w15.cell? ⟨g5_1, 17, none⟩ = some (.slice (some ⟨B, O, none⟩) D.types.length c) ∧ w15.cell? ⟨g5_1, 18, none⟩ = some (.map (some ga)) ∧ w15.cell? ⟨B, O + i * 17 + (5 + 1), none⟩ = some (.slice A6 d.ifaces.length c6) ∧ (Instr.lookup 87 (.map (some ga)) (.string (str a)) false).run Tryz.prog w15 = .ok (.int .i64 (i : Int)) w15 := ⟨H.kcell T.a.box T.a.c17, H.kcell T.a.box T.a.c18, H.sat.cell hcI, (run_lookup_k Tryz.underlying87 (keys_s Tryz.underlying9) (.int .i64 0) (zero_int _) (H.kmap T.a.at_) a false).trans (by rw [hq]; rfl)⟩
             refine held.take (i := 0) (v := ?_) rfl (by kernel_rfl) (by kernel_rfl) (by kernel_rfl) (by kernel_rfl) (by kernel_rfl) (fun _ _ _ h => h) (Or.inl ⟨by rfl, ?_⟩) hS17 ?_
             rotate_left
             · intro w hSw
               try dsimp only at hSw
               go_simp
               try with_reducible rfl
             try simp only [Act.put, List.getElem_toArray, List.getElem_cons_zero, List.getElem_cons_succ, List.setIfInBounds_toArray, List.set_cons_zero, List.set_cons_succ]
             refine held.take (i := 1) (v := ?_) rfl (by kernel_rfl) (by kernel_rfl) (by kernel_rfl) (by kernel_rfl) (by kernel_rfl) (fun _ _ _ h => h) (Or.inl ⟨by rfl, ?_⟩) hS17 ?_
             rotate_left
             · intro w hSw
               try dsimp only at hSw
               go_simp
               try with_reducible rfl
             try simp only [Act.put, List.getElem_toArray, List.getElem_cons_zero, List.getElem_cons_succ, List.setIfInBounds_toArray, List.set_cons_zero, List.set_cons_succ]
             refine held.take (i := 2) (v := ?_) rfl (by kernel_rfl) (by kernel_rfl) (by kernel_rfl) (by kernel_rfl) (by kernel_rfl) (fun _ _ _ h => h) (Or.inl ⟨by rfl, ?_⟩) hS17 ?_
             rotate_left
             · intro w hSw
               try dsimp only at hSw
               go_simp
               try with_reducible rfl
             try simp only [Act.put, List.getElem_toArray, List.getElem_cons_zero, List.getElem_cons_succ, List.setIfInBounds_toArray, List.set_cons_zero, List.set_cons_succ]
             refine held.take (i := 3) (v := ?_) rfl (by kernel_rfl) (by kernel_rfl) (by kernel_rfl) (by kernel_rfl) (by kernel_rfl) (fun _ _ _ h => h) (Or.inl ⟨by rfl, ?_⟩) hS17 ?_
             rotate_left
             · intro w hSw
               try dsimp only at hSw
               go_simp
               try with_reducible rfl
             try simp only [Act.put, List.getElem_toArray, List.getElem_cons_zero, List.getElem_cons_succ, List.setIfInBounds_toArray, List.set_cons_zero, List.set_cons_succ]
             refine held.take (i := 4) (v := ?_) rfl (by kernel_rfl) (by kernel_rfl) (by kernel_rfl) (by kernel_rfl) (by kernel_rfl) (fun _ _ _ h => h) (Or.inl ⟨by rfl, ?_⟩) hS17 ?_
             rotate_left
             · intro w hSw
               try dsimp only at hSw
               go_simp
               try with_reducible rfl
             try simp only [Act.put, List.getElem_toArray, List.getElem_cons_zero, List.getElem_cons_succ, List.setIfInBounds_toArray, List.set_cons_zero, List.set_cons_succ]
             refine held.take (i := 5) (v := ?_) rfl (by kernel_rfl) (by kernel_rfl) (by kernel_rfl) (by kernel_rfl) (by kernel_rfl) (fun _ _ _ h => h) (Or.inl ⟨by rfl, ?_⟩) hS17 ?_
             rotate_left
             · intro w hSw
               try dsimp only at hSw
               go_simp
               try with_reducible rfl
             try simp only [Act.put, List.getElem_toArray, List.getElem_cons_zero, List.getElem_cons_succ, List.setIfInBounds_toArray, List.set_cons_zero, List.set_cons_succ]
             refine held.take (i := 6) (v := ?_) rfl (by kernel_rfl) (by kernel_rfl) (by kernel_rfl) (by kernel_rfl) (by kernel_rfl) (fun _ _ _ h => h) (Or.inl ⟨by rfl, ?_⟩) hS17 ?_
             rotate_left
             · intro w hSw
               try dsimp only at hSw
               go_simp
               try with_reducible rfl
             try simp only [Act.put, List.getElem_toArray, List.getElem_cons_zero, List.getElem_cons_succ, List.setIfInBounds_toArray, List.set_cons_zero, List.set_cons_succ]
             refine held.take (i := 7) (v := ?_) rfl (by kernel_rfl) (by kernel_rfl) (by kernel_rfl) (by kernel_rfl) (by kernel_rfl) (fun _ _ _ h => h) (Or.inl ⟨by rfl, ?_⟩) hS17 ?_
             rotate_left
             · intro w hSw
               try dsimp only at hSw
               go_simp
               try with_reducible rfl
             try simp only [Act.put, List.getElem_toArray, List.getElem_cons_zero, List.getElem_cons_succ, List.setIfInBounds_toArray, List.set_cons_zero, List.set_cons_succ]
             refine held.take (i := 8) (v := ?_) rfl (by kernel_rfl) (by kernel_rfl) (by kernel_rfl) (by kernel_rfl) (by kernel_rfl) (fun _ _ _ h => h) (Or.inl ⟨by rfl, ?_⟩) hS17 ?_
             rotate_left
             · intro w hSw
               try dsimp only at hSw
               go_simp
               try with_reducible rfl
             try simp only [Act.put, List.getElem_toArray, List.getElem_cons_zero, List.getElem_cons_succ, List.setIfInBounds_toArray, List.set_cons_zero, List.set_cons_succ]
             refine held.take (i := 9) (v := ?_) rfl (by kernel_rfl) (by kernel_rfl) (by kernel_rfl) (by kernel_rfl) (by kernel_rfl) (fun _ _ _ h => h) (Or.inl ⟨by rfl, ?_⟩) hS17 ?_
             rotate_left
             · intro w hSw
               try dsimp only at hSw
               go_simp
               try with_reducible rfl
             try simp only [Act.put, List.getElem_toArray, List.getElem_cons_zero, List.getElem_cons_succ, List.setIfInBounds_toArray, List.set_cons_zero, List.set_cons_succ]
             refine held.take (i := 10) (v := ?_) rfl (by kernel_rfl) (by kernel_rfl) (by kernel_rfl) (by kernel_rfl) (by kernel_rfl) (fun _ _ _ h => h) (Or.inl ⟨by rfl, ?_⟩) hS17 ?_
             rotate_left
             · intro w hSw
               try dsimp only at hSw
               go_simp
               try with_reducible rfl
             try simp only [Act.put, List.getElem_toArray, List.getElem_cons_zero, List.getElem_cons_succ, List.setIfInBounds_toArray, List.set_cons_zero, List.set_cons_succ]
             refine held.take (i := 11) (v := ?_) rfl (by kernel_rfl) (by kernel_rfl) (by kernel_rfl) (by kernel_rfl) (by kernel_rfl) (fun _ _ _ h => h) (Or.inl ⟨by rfl, ?_⟩) hS17 ?_
             rotate_left
             · intro w hSw
               try dsimp only at hSw
               go_simp
               try with_reducible rfl
             try simp only [Act.put, List.getElem_toArray, List.getElem_cons_zero, List.getElem_cons_succ, List.setIfInBounds_toArray, List.set_cons_zero, List.set_cons_succ]
             refine held.take (i := 12) (v := ?_) rfl (by kernel_rfl) (by kernel_rfl) (by kernel_rfl) (by kernel_rfl) (by kernel_rfl) (fun _ _ _ h => h) (Or.inl ⟨by rfl, ?_⟩) hS17 ?_
             rotate_left
             · intro w hSw
               try dsimp only at hSw
               go_simp
               try with_reducible rfl
             try simp only [Act.put, List.getElem_toArray, List.getElem_cons_zero, List.getElem_cons_succ, List.setIfInBounds_toArray, List.set_cons_zero, List.set_cons_succ]
             refine held.take (i := 13) (v := ?_) rfl (by kernel_rfl) (by kernel_rfl) (by kernel_rfl) (by kernel_rfl) (by kernel_rfl) (fun _ _ _ h => h) (Or.inl ⟨by rfl, ?_⟩) hS17 ?_
             rotate_left
             · intro w hSw
               try dsimp only at hSw
               go_simp
               try with_reducible rfl
             try simp only [Act.put, List.getElem_toArray, List.getElem_cons_zero, List.getElem_cons_succ, List.setIfInBounds_toArray, List.set_cons_zero, List.set_cons_succ]
             refine held.step (i := 14) (by kernel_rfl) rfl (fun Kq hKq => ?_)
             go_simp
             refine (inHas_hp d.ifaces b g5 0 d.ifaces.length c6 A6 _ _ _ _ H rfl rfl hfa (by omega)).mono ?_
             clear H
             rintro e wz ⟨rfl, H⟩
             replace H : Hp _ _ _ (_ :: M) := H
             try go_simp
             have hS18 : wz.cell? ⟨g5_1, 17, none⟩ = some (.slice (some ⟨B, O, none⟩) D.types.length c) ∧ wz.cell? ⟨g5_1, 18, none⟩ = some (.map (some ga)) ∧ wz.cell? ⟨B, O + i * 17 + (5 + 1), none⟩ = some (.slice A6 d.ifaces.length c6) ∧ (Instr.lookup 87 (.map (some ga)) (.string (str a)) false).run Tryz.prog wz = .ok (.int .i64 (i : Int)) wz := ⟨H.kcell T.a.box T.a.c17, H.kcell T.a.box T.a.c18, H.sat.cell hcI, (run_lookup_k Tryz.underlying87 (keys_s Tryz.underlying9) (.int .i64 0) (zero_int _) (H.kmap T.a.at_) a false).trans (by rw [hq]; rfl)⟩
             refine hKq.out _ _ (fun _ => hS18) (fun _ => ?_)
             clear hKq Kq
             refine held.take (i := 15) (v := ?_) rfl (by kernel_rfl) (by kernel_rfl) (by kernel_rfl) (by kernel_rfl) (by kernel_rfl) (fun _ _ _ h => h) (Or.inl ⟨by rfl, ?_⟩) hS18 ?_
             rotate_left
             · intro w hSw
               try dsimp only at hSw
               go_simp
               try with_reducible rfl
             try simp only [Act.put, List.getElem_toArray, List.getElem_cons_zero, List.getElem_cons_succ, List.setIfInBounds_toArray, List.set_cons_zero, List.set_cons_succ]
             refine held.done (by kernel_rfl) ?_ _
             go_wp2_with fail
             replace H := H.sub (List.Sublist.cons _ (List.Sublist.refl _))
             go_ret
             exact ⟨by rw [HR.out, hlk]; rfl, K5, hK, H⟩
           · have ha3' : (ka != 3) = true := by simp [ha3]
             have ha3'' : (ka == 3) = false := by simp [ha3]
             by_cases ha4 : ka = 4
             · subst ha4
               have HR := hide (HW4.out.trans (if_neg (by simp)))
               have := H.c 0 0
               have tk19 : True := trivial
               go_upto_region 11 with (first
                | (go_at_call 79; have tk_ := tk19; clear tk_ tk19; have tk20 : True := trivial; refine (kind_is b _ g5_1 ga gd gf go sch VT VD D.schema D.types D.dirs _ _ _ _ H T.a hkb).mono ?_; clear H; rintro e wb ⟨rfl, H⟩; have := H.c 0 0)
                | (go_at_call 79; have tk_ := tk20; clear tk_ tk20; have tk21 : True := trivial; refine (kind_is a _ g5_1 ga gd gf go sch VT VD D.schema D.types D.dirs _ _ _ _ H T.a hka).mono ?_; clear H; rintro e wa ⟨rfl, H⟩; have := H.c 0 0)
                | (go_at_call 79; have tk_ := tk21; clear tk_ tk21; refine (kind_is a _ g5_1 ga gd gf go sch VT VD D.schema D.types D.dirs _ _ _ _ H T.a hka).mono ?_; clear H; rintro e wa ⟨rfl, H⟩; have := H.c 0 0))
               obtain ⟨i, d, hi, hd, hdk⟩ := kindOf_nz (ts := D.types) (x := a) (by rw [hka]; omega)
               have hN := hW.nT
               have hdn := defN_at hd
               have hif := ifaces_le d
               have hlt := numOf_lt hi
               have hltI : (i : Int) < (D.types.length : Int) := by omega
               have hlk := lookD_some hi hd
               have hq := nmap_kfind D.types a
               rw [hi] at hq
               replace hq : kfind (nmap (namesD D.types)) a = some (.int .i64 (i : Int)) := hq
               have hTy := T.a.types
               obtain ⟨A, c, hVT, hc1, hc2⟩ := slice_of hTy
               have hcT := T.a.c17
               rw [hVT] at hTy
               obtain ⟨ad, xs, hA, hxd, hxl, hatK⟩ := elem_k (m := 17) (f := defL) defL_len hTy hd (by omega)
               subst hA
               obtain ⟨B, O, hBO⟩ := slice_plain (m := 17) (f := defL) defL_len hTy (by omega) (by omega)
               subst hBO
               obtain ⟨A6, c6, A7, c7, A8, c8, A9, c9, A10, c10, A11, c11, A12, c12, A14, c14, hcs, hfa, -, -, -, -, -, -, -⟩ := def_cells hxd
               subst hcs
               subst hVT
               rw [plain_add] at hatK
               have hcI := hatK.2 5 _ rfl
               refine held.begin_ (fun w' => w'.cell? ⟨g5_1, 17, none⟩ = some (.slice (some ⟨B, O, none⟩) D.types.length c) ∧ w'.cell? ⟨g5_1, 18, none⟩ = some (.map (some ga)) ∧ w'.cell? ⟨B, O + i * 17 + (5 + 1), none⟩ = some (.slice A6 d.ifaces.length c6) ∧ (Instr.lookup 87 (.map (some ga)) (.string (str a)) false).run Tryz.prog w' = .ok (.int .i64 (i : Int)) w') [] (by kernel_rfl) ?_
               replace H := H.drew1
               obtain ⟨w22, hq23⟩ : ∃ x, (wa).drew = x := ⟨_, rfl⟩
               rw [hq23] at H ⊢
               clear hq23
               have hS24 : w22.cell? ⟨g5_1, 17, none⟩ = some (.slice (some ⟨B, O, none⟩) D.types.length c) ∧ w22.cell? ⟨g5_1, 18, none⟩ = some (.map (some ga)) ∧ w22.cell? ⟨B, O + i * 17 + (5 + 1), none⟩ = some (.slice A6 d.ifaces.length c6) ∧ (Instr.lookup 87 (.map (some ga)) (.string (str a)) false).run Tryz.prog w22 = .ok (.int .i64 (i : Int)) w22 := ⟨H.kcell T.a.box T.a.c17, H.kcell T.a.box T.a.c18, H.sat.cell hcI, (run_lookup_k Tryz.underlying87 (keys_s Tryz.underlying9) (.int .i64 0) (zero_int _) (H.kmap T.a.at_) a false).trans (by rw [hq]; rfl)⟩
               refine held.take (i := 0) (v := ?_) rfl (by kernel_rfl) (by kernel_rfl) (by kernel_rfl) (by kernel_rfl) (by kernel_rfl) (fun _ _ _ h => h) (Or.inl ⟨by rfl, ?_⟩) hS24 ?_
               rotate_left
               · intro w hSw
                 try dsimp only at hSw
                 go_simp
                 try with_reducible rfl
               try simp only [Act.put, List.getElem_toArray, List.getElem_cons_zero, List.getElem_cons_succ, List.setIfInBounds_toArray, List.set_cons_zero, List.set_cons_succ]
               refine held.take (i := 1) (v := ?_) rfl (by kernel_rfl) (by kernel_rfl) (by kernel_rfl) (by kernel_rfl) (by kernel_rfl) (fun _ _ _ h => h) (Or.inl ⟨by rfl, ?_⟩) hS24 ?_
               rotate_left
               · intro w hSw
                 try dsimp only at hSw
                 go_simp
                 try with_reducible rfl
               try simp only [Act.put, List.getElem_toArray, List.getElem_cons_zero, List.getElem_cons_succ, List.setIfInBounds_toArray, List.set_cons_zero, List.set_cons_succ]
               refine held.take (i := 2) (v := ?_) rfl (by kernel_rfl) (by kernel_rfl) (by kernel_rfl) (by kernel_rfl) (by kernel_rfl) (fun _ _ _ h => h) (Or.inl ⟨by rfl, ?_⟩) hS24 ?_
               rotate_left
               · intro w hSw
                 try dsimp only at hSw
                 go_simp
                 try with_reducible rfl
               try simp only [Act.put, List.getElem_toArray, List.getElem_cons_zero, List.getElem_cons_succ, List.setIfInBounds_toArray, List.set_cons_zero, List.set_cons_succ]
               refine held.take (i := 3) (v := ?_) rfl (by kernel_rfl) (by kernel_rfl) (by kernel_rfl) (by kernel_rfl) (by kernel_rfl) (fun _ _ _ h => h) (Or.inl ⟨by rfl, ?_⟩) hS24 ?_
               rotate_left
               · intro w hSw
                 try dsimp only at hSw
                 go_simp
                 try with_reducible rfl
               try simp only [Act.put, List.getElem_toArray, List.getElem_cons_zero, List.getElem_cons_succ, List.setIfInBounds_toArray, List.set_cons_zero, List.set_cons_succ]
               refine held.take (i := 4) (v := ?_) rfl (by kernel_rfl) (by kernel_rfl) (by kernel_rfl) (by kernel_rfl) (by kernel_rfl) (fun _ _ _ h => h) (Or.inl ⟨by rfl, ?_⟩) hS24 ?_
               rotate_left
               · intro w hSw
                 try dsimp only at hSw
                 go_simp
                 try with_reducible rfl
               try simp only [Act.put, List.getElem_toArray, List.getElem_cons_zero, List.getElem_cons_succ, List.setIfInBounds_toArray, List.set_cons_zero, List.set_cons_succ]
               refine held.take (i := 5) (v := ?_) rfl (by kernel_rfl) (by kernel_rfl) (by kernel_rfl) (by kernel_rfl) (by kernel_rfl) (fun _ _ _ h => h) (Or.inl ⟨by rfl, ?_⟩) hS24 ?_
               rotate_left
               · intro w hSw
                 try dsimp only at hSw
                 go_simp
                 try with_reducible rfl
               try simp only [Act.put, List.getElem_toArray, List.getElem_cons_zero, List.getElem_cons_succ, List.setIfInBounds_toArray, List.set_cons_zero, List.set_cons_succ]
               refine held.take (i := 6) (v := ?_) rfl (by kernel_rfl) (by kernel_rfl) (by kernel_rfl) (by kernel_rfl) (by kernel_rfl) (fun _ _ _ h => h) (Or.inl ⟨by rfl, ?_⟩) hS24 ?_
               rotate_left
               · intro w hSw
                 try dsimp only at hSw
                 go_simp
                 try with_reducible rfl
               try simp only [Act.put, List.getElem_toArray, List.getElem_cons_zero, List.getElem_cons_succ, List.setIfInBounds_toArray, List.set_cons_zero, List.set_cons_succ]
               refine held.take (i := 7) (v := ?_) rfl (by kernel_rfl) (by kernel_rfl) (by kernel_rfl) (by kernel_rfl) (by kernel_rfl) (fun _ _ _ h => h) (Or.inl ⟨by rfl, ?_⟩) hS24 ?_
               rotate_left
               · intro w hSw
                 try dsimp only at hSw
                 go_simp
                 try with_reducible rfl
               try simp only [Act.put, List.getElem_toArray, List.getElem_cons_zero, List.getElem_cons_succ, List.setIfInBounds_toArray, List.set_cons_zero, List.set_cons_succ]
               refine held.take (i := 8) (v := ?_) rfl (by kernel_rfl) (by kernel_rfl) (by kernel_rfl) (by kernel_rfl) (by kernel_rfl) (fun _ _ _ h => h) (Or.inl ⟨by rfl, ?_⟩) hS24 ?_
               rotate_left
               · intro w hSw
                 try dsimp only at hSw
                 go_simp
                 try with_reducible rfl
               try simp only [Act.put, List.getElem_toArray, List.getElem_cons_zero, List.getElem_cons_succ, List.setIfInBounds_toArray, List.set_cons_zero, List.set_cons_succ]
               refine held.take (i := 9) (v := ?_) rfl (by kernel_rfl) (by kernel_rfl) (by kernel_rfl) (by kernel_rfl) (by kernel_rfl) (fun _ _ _ h => h) (Or.inl ⟨by rfl, ?_⟩) hS24 ?_
               rotate_left
               · intro w hSw
                 try dsimp only at hSw
                 go_simp
                 try with_reducible rfl
               try simp only [Act.put, List.getElem_toArray, List.getElem_cons_zero, List.getElem_cons_succ, List.setIfInBounds_toArray, List.set_cons_zero, List.set_cons_succ]
               refine held.take (i := 10) (v := ?_) rfl (by kernel_rfl) (by kernel_rfl) (by kernel_rfl) (by kernel_rfl) (by kernel_rfl) (fun _ _ _ h => h) (Or.inl ⟨by rfl, ?_⟩) hS24 ?_
               rotate_left
               · intro w hSw
                 try dsimp only at hSw
                 go_simp
                 try with_reducible rfl
               try simp only [Act.put, List.getElem_toArray, List.getElem_cons_zero, List.getElem_cons_succ, List.setIfInBounds_toArray, List.set_cons_zero, List.set_cons_succ]
               refine held.take (i := 11) (v := ?_) rfl (by kernel_rfl) (by kernel_rfl) (by kernel_rfl) (by kernel_rfl) (by kernel_rfl) (fun _ _ _ h => h) (Or.inl ⟨by rfl, ?_⟩) hS24 ?_
               rotate_left
               · intro w hSw
                 try dsimp only at hSw
                 go_simp
                 try with_reducible rfl
               try simp only [Act.put, List.getElem_toArray, List.getElem_cons_zero, List.getElem_cons_succ, List.setIfInBounds_toArray, List.set_cons_zero, List.set_cons_succ]
               refine held.take (i := 12) (v := ?_) rfl (by kernel_rfl) (by kernel_rfl) (by kernel_rfl) (by kernel_rfl) (by kernel_rfl) (fun _ _ _ h => h) (Or.inl ⟨by rfl, ?_⟩) hS24 ?_
               rotate_left
               · intro w hSw
                 try dsimp only at hSw
                 go_simp
                 try with_reducible rfl
               try simp only [Act.put, List.getElem_toArray, List.getElem_cons_zero, List.getElem_cons_succ, List.setIfInBounds_toArray, List.set_cons_zero, List.set_cons_succ]
               refine held.take (i := 13) (v := ?_) rfl (by kernel_rfl) (by kernel_rfl) (by kernel_rfl) (by kernel_rfl) (by kernel_rfl) (fun _ _ _ h => h) (Or.inl ⟨by rfl, ?_⟩) hS24 ?_
               rotate_left
               · intro w hSw
                 try dsimp only at hSw
                 go_simp
                 try with_reducible rfl
               try simp only [Act.put, List.getElem_toArray, List.getElem_cons_zero, List.getElem_cons_succ, List.setIfInBounds_toArray, List.set_cons_zero, List.set_cons_succ]
               refine held.step (i := 14) (by kernel_rfl) rfl (fun Kq hKq => ?_)
               go_simp
               refine (inHas_hp d.ifaces b g5 0 d.ifaces.length c6 A6 _ _ _ _ H rfl rfl hfa (by omega)).mono ?_
               clear H
               rintro e wz ⟨rfl, H⟩
               replace H : Hp _ _ _ (_ :: M) := H
               try go_simp
               have hS25 : wz.cell? ⟨g5_1, 17, none⟩ = some (.slice (some ⟨B, O, none⟩) D.types.length c) ∧ wz.cell? ⟨g5_1, 18, none⟩ = some (.map (some ga)) ∧ wz.cell? ⟨B, O + i * 17 + (5 + 1), none⟩ = some (.slice A6 d.ifaces.length c6) ∧ (Instr.lookup 87 (.map (some ga)) (.string (str a)) false).run Tryz.prog wz = .ok (.int .i64 (i : Int)) wz := ⟨H.kcell T.a.box T.a.c17, H.kcell T.a.box T.a.c18, H.sat.cell hcI, (run_lookup_k Tryz.underlying87 (keys_s Tryz.underlying9) (.int .i64 0) (zero_int _) (H.kmap T.a.at_) a false).trans (by rw [hq]; rfl)⟩
               refine hKq.out _ _ (fun _ => hS25) (fun _ => ?_)
               clear hKq Kq
               refine held.take (i := 15) (v := ?_) rfl (by kernel_rfl) (by kernel_rfl) (by kernel_rfl) (by kernel_rfl) (by kernel_rfl) (fun _ _ _ h => h) (Or.inl ⟨by rfl, ?_⟩) hS25 ?_
               rotate_left
               · intro w hSw
                 try dsimp only at hSw
                 go_simp
                 try with_reducible rfl
               try simp only [Act.put, List.getElem_toArray, List.getElem_cons_zero, List.getElem_cons_succ, List.setIfInBounds_toArray, List.set_cons_zero, List.set_cons_succ]
               refine held.done (by kernel_rfl) ?_ _
               go_wp2_with fail
               replace H := H.sub (List.Sublist.cons _ (List.Sublist.refl _))
               go_ret
               exact ⟨by rw [HR.out, hlk]; rfl, K5, hK, H⟩
             · have ha4' : (ka != 4) = true := by simp [ha4]
               have ha4'' : (ka == 4) = false := by simp [ha4]
               have HR := hide (HW4.out.trans (if_pos (.inr ⟨ha3, ha4⟩)))
               have := H.c 0 0
               have tk26 : True := trivial
               go_wp2_with (first
                | (go_at_call 79; have tk_ := tk26; clear tk_ tk26; have tk27 : True := trivial; refine (kind_is b _ g5_1 ga gd gf go sch VT VD D.schema D.types D.dirs _ _ _ _ H T.a hkb).mono ?_; clear H; rintro e wb ⟨rfl, H⟩; have := H.c 0 0)
                | (go_at_call 79; have tk_ := tk27; clear tk_ tk27; have tk28 : True := trivial; refine (kind_is a _ g5_1 ga gd gf go sch VT VD D.schema D.types D.dirs _ _ _ _ H T.a hka).mono ?_; clear H; rintro e wa ⟨rfl, H⟩; have := H.c 0 0)
                | (go_at_call 79; have tk_ := tk28; clear tk_ tk28; refine (kind_is a _ g5_1 ga gd gf go sch VT VD D.schema D.types D.dirs _ _ _ _ H T.a hka).mono ?_; clear H; rintro e wa ⟨rfl, H⟩; have := H.c 0 0))
               replace H := H.sub (List.Sublist.cons _ (List.Sublist.refl _))
               go_ret
               exact ⟨K5, by rw [HR.out]; rfl, hK, H⟩
         · have h4' : (kb != 4) = true := by simp [h4]
           have h4'' : (kb == 4) = false := by simp [h4]
           have HR := hide (HW4.out.trans (if_pos (.inl h4)))
           have := H.c 0 0
           go_wp2_with (first
            | (go_at_call 79; refine (kind_is b _ g5_1 ga gd gf go sch VT VD D.schema D.types D.dirs _ _ _ _ H T.a hkb).mono ?_; clear H; rintro e wb ⟨rfl, H⟩; have := H.c 0 0))
           replace H := H.sub (List.Sublist.cons _ (List.Sublist.refl _))
           go_ret
           exact ⟨K5, by rw [HR.out]; rfl, hK, H⟩
end Go.Proofs.YtbpgkkoeehopjaaGreat.hp
namespace Go.Proofs.YtbpgkkoeehopjaaGreat.hp
open Go.RowKit Go.Proofs.YtbpgkkoeehopjaaGreat.words Go.Proofs.YtbpgkkoeehopjaaGreat.enc Go.Proofs.YtbpgkkoeehopjaaGreat.tree Go.Proofs.YtbpgkkoeehopjaaGreat.gram Go.Proofs.YtbpgkkoeehopjaaGreat.lex Go.Proofs.YtbpgkkoeehopjaaGreat.rd Go.Proofs.YtbpgkkoeehopjaaGreat.dec Go.Proofs.YtbpgkkoeehopjaaGreat.dat Go.Proofs.YtbpgkkoeehopjaaGreat.held
section
variable {P : Program} {w0 w K K' : World} {M : List Ent} {ops : Array Oper} {rest : List Oper} {o : Oper} {a : Act} {Q : Exit → Act → World → Prop} {i b r t kt et : Nat}
theorem Hp.objSet (H : Hp w0 w K M) {o : Obj} (hi : M[i]? = some (.obj b o)) (o' : Obj) : Hp w0 (ChangeMaps.setBlock w b o') K (M.set i (.obj b o')) := by
 have hb : w.heap[b]? = some o := H.ok _ (List.mem_of_getElem? hi)
 have hlt := (Array.getElem?_eq_some_iff.1 hb).1
 refine H.setAt hi ⟨rfl, rfl, rfl, by simp [ChangeMaps.setBlock], fun k hk hne => ?_⟩ ?_ (.inl rfl)
 · have hkb : b ≠ k := fun e => hne (by subst e; rfl)
   simp [ChangeMaps.setBlock, hkb]
 · simp [Ent.ok, ChangeMaps.setBlock, hlt]
theorem Hp.allocObj (H : Hp w0 w K M) (o : Obj) : Hp w0 (w.alloc o) K (.obj w.heap.size o :: M) :=
 H.cons (grown_of ((Below.refl _ _).alloc (Nat.le_refl _) _) none) (heap_alloc_new w _) (fun g h => by simp only [Ent.blk, Option.some.injEq] at h; omega)
abbrev iter (r : Nat) (b : Nat) (n : Nat) (seen : Array Nat) : Ent := .obj r (.mapIter (some b) n seen n)
abbrev iter0 (r : Nat) : Ent := .obj r (.mapIter none 0 #[] 0)
theorem range_hp (hgd : o.guard = none) (t : TypeId) (x : Operand) (ho : o.op = .range t x) (ht : P.underlying t = some (.map kt et)) (b : Nat) (l : List (Value × Value)) (hb : w.heap[b]? = some (mobj l)) (hx : a.eval x = .map (some b)) (dst : Option Tmp) (hdst : o.dst = dst) (H : Hp w0 w K M)
  (h : ∀ w' r, Hp w0 w' K (iter r b l.length #[] :: M) → wpList P ops Q rest (a.put dst (.pointer (some ⟨r, 0, none⟩))) w') : wpList P ops Q (o :: rest) a w := by
 subst hdst
 refine wpList_plain hgd fun _ hK => ?_
 have hrun := run_range_map (P := P) w t kt et b _ _ ht hb
 unfold Oper.wp execOp
 simp only [ho, hx, Sem.run_bind, hrun, Result.andThen_ok, Sem.run_pure]
 exact hK _ _ (h _ _ (H.allocObj _))
theorem range_nil_hp (hgd : o.guard = none) (t : TypeId) (x : Operand) (ho : o.op = .range t x) (ht : P.underlying t = some (.map kt et)) (hx : a.eval x = .map none) (dst : Option Tmp) (hdst : o.dst = dst) (H : Hp w0 w K M)
  (h : ∀ w' r, Hp w0 w' K (iter0 r :: M) → wpList P ops Q rest (a.put dst (.pointer (some ⟨r, 0, none⟩))) w') : wpList P ops Q (o :: rest) a w := by
 subst hdst
 refine wpList_plain hgd fun _ hK => ?_
 have hrun := run_range_nilMap (P := P) w t kt et ht
 unfold Oper.wp execOp
 simp only [ho, hx, Sem.run_bind, hrun, Result.andThen_ok, Sem.run_pure]
 exact hK _ _ (h _ _ (H.allocObj _))
theorem next_nil_hp (hgd : o.guard = none) (x : Operand) (ho : o.op = .next x false) (hx : a.eval x = .pointer (some ⟨r, 0, none⟩)) (H : Hp w0 w K M) (i : Nat) (hi : M[i]? = some (iter0 r))
  (h : wpList P ops Q rest (a.put o.dst (.tuple #[.bool false])) w) : wpList P ops Q (o :: rest) a w := by
 refine wpList_plain hgd fun _ hK => ?_
 have hr : w.heap[r]? = some (.mapIter none 0 #[] 0) := H.ok _ (List.mem_of_getElem? hi)
 have hrun : (Instr.next (.pointer (some ⟨r, 0, none⟩)) false o.type).run P w = .ok (.tuple #[.bool false]) w := by
  simp only [Instr.next, getObj, Sem.run_bind, Sem.run, hr, Result.andThen]
  rfl
 unfold Oper.wp execOp
 simp only [ho, hx, Sem.run_bind, hrun, Result.andThen_ok, Sem.run_pure]
 exact hK _ _ h
theorem ments_born (l : List (Value × Value)) : (ments l).map (·.born) = List.range l.length := by
 unfold ments
 rw [List.map_map]
 apply List.ext_getElem?
 intro j
 rcases Nat.lt_or_ge j l.length with h | h
 · simp [h, List.getElem?_range, List.getElem?_eq_getElem]
 · simp [h]
theorem ments_mem {l : List (Value × Value)} {e : MapEntry} (h : e ∈ ments l) : ∃ p, l[e.born]? = some p ∧ e.key = p.1 ∧ e.val = p.2 := by
 unfold ments at h
 rw [List.mem_map] at h
 obtain ⟨⟨p, k⟩, hp, rfl⟩ := h
 rw [List.mem_zipIdx_iff_getElem?] at hp
 exact ⟨p, hp, rfl, rfl⟩
theorem next_hp (hgd : o.guard = none) (x : Operand) (ho : o.op = .next x false) (hx : a.eval x = .pointer (some ⟨r, 0, none⟩)) (H : Hp w0 w K M) (i : Nat) (b : Nat) (l : List (Value × Value)) (seen : Array Nat) (hi : M[i]? = some (iter r b l.length seen)) (hb : w.heap[b]? = some (mobj l))
  (h1 : (∀ k, k < l.length → k ∈ seen) → wpList P ops Q rest (a.put o.dst (.tuple #[.bool false])) w)
  (h2 : ∀ k p w', l[k]? = some p → k ∉ seen → Hp w0 w' K (M.set i (iter r b l.length (seen.push k))) → wpList P ops Q rest (a.put o.dst (.tuple #[.bool true, p.1, p.2])) w') : wpList P ops Q (o :: rest) a w := by
 refine wpList_plain hgd fun _ hK => ?_
 have hr : w.heap[r]? = some (.mapIter (some b) l.length seen l.length) := H.ok _ (List.mem_of_getElem? hi)
 have hold : ∀ x ∈ (ments l).toArray.toList, x.born < l.length := fun x hx => by
  obtain ⟨p, hp, _⟩ := ments_mem (show x ∈ ments l from hx)
  exact (List.getElem?_eq_some_iff.1 hp).1
 rcases run_next_at (P := P) w o.type r b l.length l.length seen (ments l).toArray l.length hr hb hold (Nat.le_refl _) with ⟨h0, hrun⟩ | ⟨e, he, w1, hw1, hrun⟩
 · unfold Oper.wp execOp
   simp only [ho, hx, Sem.run_bind, hrun, Result.andThen_ok, Sem.run_pure]
   refine hK _ _ (h1 fun k hk => ?_)
   refine Classical.byContradiction fun hn => ?_
   have hlen : (leftOf (ments l).toArray seen) = #[] := Array.eq_empty_of_size_eq_zero h0
   unfold leftOf at hlen
   rw [Array.filter_eq_empty_iff] at hlen
   obtain ⟨p, hp⟩ : ∃ p, l[k]? = some p := ⟨_, List.getElem?_eq_getElem hk⟩
   have := hlen { key := p.1, val := p.2, born := k } (by
    simp only [List.mem_toArray, ments, List.mem_map]
    exact ⟨(p, k), List.mem_zipIdx_iff_getElem?.2 hp, rfl⟩)
   simp at this
   exact hn this
 · obtain ⟨hm, hc⟩ := mem_left he
   obtain ⟨p, hp, hk, hv⟩ := ments_mem (show e ∈ ments l from hm)
   unfold Oper.wp execOp
   simp only [ho, hx, Sem.run_bind, hrun, Result.andThen_ok, Sem.run_pure, hk, hv]
   refine hK _ _ (h2 e.born p _ hp (fun hin => ?_) ?_)
   · have := Array.contains_iff_mem.2 hin
     rw [this] at hc
     cases hc
   · rcases hw1 with rfl | rfl
     · exact H.objSet hi _
     · exact H.drew1.objSet hi _
theorem entry_hp (hgd : o.guard = none) (x : Operand) (ho : o.op = .entry x) (hx : a.eval x = .pointer (some ⟨r, 0, none⟩)) (H : Hp w0 w K M) (i : Nat) (b : Nat) (l : List (Value × Value)) (seen : Array Nat) (k : Nat) (p : Value × Value) (hi : M[i]? = some (iter r b l.length (seen.push k))) (hb : w.heap[b]? = some (mobj l)) (hp : l[k]? = some p)
  (h : wpList P ops Q rest (a.put o.dst (.tuple #[p.1, p.2])) w) : wpList P ops Q (o :: rest) a w := by
 refine wpList_plain hgd fun _ hK => ?_
 have hr : w.heap[r]? = some (.mapIter (some b) l.length (seen.push k) l.length) := H.ok _ (List.mem_of_getElem? hi)
 have hrun := run_entry_at (P := P) w r b l.length seen (ments l).toArray l.length { key := p.1, val := p.2, born := k } hr hb (by
  simp only [ments, List.mem_map]
  exact ⟨(p, k), List.mem_zipIdx_iff_getElem?.2 hp, rfl⟩) (by
  show ((ments l).map (·.born)).Nodup
  rw [ments_born]; exact List.nodup_range)
 unfold Oper.wp execOp
 simp only [ho, hx, Sem.run_bind, hrun, Result.andThen_ok, Sem.run_pure]
 exact hK _ _ h
end
open Go.Proofs.YtbpgkkoeehopjaaGreat.ty
set_option maxRecDepth 100000
attribute [local go_sem ↓] Go.wp_at_zero Go.wp_at_succ
theorem nodup_lt : ∀ (n : Nat) (l : List Nat), l.Nodup → (∀ x ∈ l, x < n) → l.length ≤ n
 | 0, l, _, h => by
  cases l with
  | nil => exact Nat.le_refl _
  | cons a r => exact absurd (h a (List.mem_cons_self ..)) (Nat.not_lt_zero _)
 | n + 1, l, hn, h => by
  have h1 : (l.erase n).length ≤ n := nodup_lt n (l.erase n) (hn.erase n) (fun x hx => by
   have hm := (List.Nodup.mem_erase_iff hn).1 hx
   have := h x hm.2
   have := hm.1
   omega)
  have h2 : l.length ≤ (l.erase n).length + 1 := by
   rw [List.length_erase]; split <;> omega
  omega
def seenN (w : World) (r : Nat) : Nat := match w.heap[r]? with | some (.mapIter _ _ s _) => s.size | _ => 0
theorem seen_iter {w0 w K : World} {M : List Ent} {r b n : Nat} {s : Array Nat} (H : Hp w0 w K (iter r b n s :: M)) : seenN w r = s.size := by
 have h : w.heap[r]? = some (.mapIter (some b) n s n) := H.ok _ (List.mem_cons_self ..)
 unfold seenN; rw [h]
def SeenOk (n : Nat) (s : Array Nat) : Prop := s.toList.Nodup ∧ ∀ k ∈ s.toList, k < n
theorem SeenOk.push {n : Nat} {s : Array Nat} {k : Nat} (h : SeenOk n s) (hk : k < n) (hn : k ∉ s) : SeenOk n (s.push k) := by
 refine ⟨?_, ?_⟩
 · rw [Array.toList_push, List.nodup_append]
   refine ⟨h.1, by simp, fun a ha b hb he => ?_⟩
   obtain rfl := List.mem_singleton.1 hb
   subst he
   exact hn (by simpa using ha)
 · intro x hx
   rw [Array.toList_push] at hx
   rcases List.mem_append.1 hx with hx | hx
   · exact h.2 x hx
   · obtain rfl := List.mem_singleton.1 hx; exact hk
theorem SeenOk.le {n : Nat} {s : Array Nat} (h : SeenOk n s) : s.size ≤ n := by
 have := nodup_lt n s.toList h.1 h.2
 simpa using this
theorem lookup_run {P : Program} {w : World} {ops : Array Oper} {rest : List Oper} {o : Oper} {a : Act} {Q : Exit → Act → World → Prop} (hgd : o.guard = none) (m x : Operand) (t : TypeId) (c : Bool) (ho : o.op = .lookup t m x c) {mv xv r : Value} (hm : a.eval m = mv) (hx : a.eval x = xv) (hrun : (Instr.lookup t mv xv c).run P w = .ok r w)
  (h : wpList P ops Q rest (a.put o.dst r) w) : wpList P ops Q (o :: rest) a w := by
 refine wpList_plain hgd fun _ hK => ?_
 unfold Oper.wp execOp
 simp only [ho, hm, hx, Sem.run_bind, hrun, Result.andThen_ok, Sem.run_pure]
 exact hK _ _ h
def meetD (D : TysD) (a b : Txt) : Bool := (setOf D.objects a).any fun q => (kfind (setOf D.objects b) q.1).isSome
theorem kents_at {κ : Type} {kv : κ → Value} {l : List (κ × Value)} {k : Nat} {p : Value × Value} (h : (kents kv l)[k]? = some p) : ∃ q, l[k]? = some q ∧ p = (kv q.1, q.2) := by
 unfold kents at h
 rw [List.getElem?_map] at h
 cases hq : l[k]? with
 | none => rw [hq] at h; cases h
 | some q => rw [hq] at h; injection h with h; exact ⟨q, rfl, h.symm⟩
set_option maxHeartbeats 16000000 in
theorem Meet_t (v : Value) (a b : Txt) (D : TysD) (w0 w K : World) (M : List Ent) (H : Hp w0 w K M) (hv : Tp K v D) (hW : TyW D) :
  Calls Tryz.prog 35 #[v, .string (str a), .string (str b)] w fun e w' => ∃ K', e = .returned (.bool (meetD D a b)) ∧ Sat K' K ∧ Hp w0 w' K' M := by
 have hK := Sat.refl K
 have hmd : meetD D a b = meetD D a b := rfl
 conv at hmd => rhs; unfold meetD
 have HMD := hide hmd
 clear hmd
 go_enter Tryz.func35, Tryz.ntmps35
 go_upto_region 2 with (first
  | (go_at_call 64; refine (all_t _ D _ _ K _ H hv).mono ?_; clear H; rintro e w5 ⟨K5, g5, rfl, hle, H, hT5⟩; replace hK := hle.trans hK; obtain ⟨ga, gd, gf, go, sch, VT, VD, OB, T⟩ := hT5; have h22 := H.kcell T.a.box T.a.c22))
 have h1 := fun w ho => run_lookup_k (P := Tryz.prog) (w := w) (t := 89) (kt := 9) (et := 87) (l := ovals OB) (b := go) Tryz.underlying89 (keys_s Tryz.underlying9) (.map none) (zero_map w) ho a false
 rcases oset a OB with ⟨hf, hS⟩ | ⟨p, hp, hf, hS⟩
 · rw [hf] at h1
   have HR : meetD D a b = false := by rw [HMD.out, T.om, hS]; rfl
   have h1w := h1 w5 (H.kmap T.objects)
   go_wp2_with (first
    | ((with_reducible show wpList _ _ _ (_ :: _) _ _); refine lookup_k (by rfl) (.tmp 15) (.tmp 16) 89 false (by rfl) Tryz.underlying89 (keys_s Tryz.underlying9) (.map none) zero_map go (ovals OB) (H.kmap T.objects) (by first | rfl | simp [Act.eval, Act.put]) a (by first | rfl | simp [Act.eval, Act.put]) (.map none) (by rw [hf]; rfl) ?_)
    | ((with_reducible show wpList _ _ _ (_ :: _) _ _); refine range_nil_hp (by rfl) 87 (.tmp 17) (by rfl) Tryz.underlying87 (by first | rfl | simp [Act.eval, Act.put]) (some 18) (by rfl) H ?_; clear H; intro w6 r H))
   try simp only [Act.put, List.getElem_toArray, List.getElem_cons_zero, List.getElem_cons_succ, List.setIfInBounds_toArray, List.set_cons_zero, List.set_cons_succ]
   go_loopw [19] (fun _ wr => Hp w0 wr K5 (iter0 r :: M)) (fun _ _ => 0)
   case atStart => exact H
   case round =>
    clear H
    have H := hrel
    go_wp2_with (first
     | ((with_reducible show wpList _ _ _ (_ :: _) _ _); refine next_nil_hp (by rfl) (.tmp 18) (by rfl) (by first | rfl | simp [Act.eval, Act.put]) H 0 (by rfl) ?_))
    replace H := Hp.tail H
    go_ret
    exact ⟨K5, by rw [HR]; rfl, hK, H⟩
 · rw [hf] at h1
   obtain ⟨n, hn⟩ : ∃ n, (kents ks p.2.2).length = n := ⟨_, rfl⟩
   have HN := hide hn
   have hmap := T.sets p hp
   go_wp2_with (first
    | ((with_reducible show wpList _ _ _ (_ :: _) _ _); refine lookup_k (by rfl) (.tmp 15) (.tmp 16) 89 false (by rfl) Tryz.underlying89 (keys_s Tryz.underlying9) (.map none) zero_map go (ovals OB) (H.kmap T.objects) (by first | rfl | simp [Act.eval, Act.put]) a (by first | rfl | simp [Act.eval, Act.put]) (.map (some p.2.1)) (by rw [hf]; rfl) ?_)
    | ((with_reducible show wpList _ _ _ (_ :: _) _ _); refine range_hp (by rfl) 87 (.tmp 17) (by rfl) Tryz.underlying87 p.2.1 (kents ks p.2.2) (H.kmap hmap) (by first | rfl | simp [Act.eval, Act.put]) (some 18) (by rfl) H ?_; clear H; intro w6 r H))
   rw [hn] at H
   try simp only [Act.put, List.getElem_toArray, List.getElem_cons_zero, List.getElem_cons_succ, List.setIfInBounds_toArray, List.set_cons_zero, List.set_cons_succ]
   go_loopw [19] (fun _ wr => ∃ s : Array Nat, SeenOk n s ∧ Hp w0 wr K5 (iter r p.2.1 n s :: M) ∧ ∀ k ∈ s.toList, ∀ q, p.2.2[k]? = some q → (kfind (setOf D.objects b) q.1).isSome = false) (fun _ wr => n - seenN wr r)
   case atStart => exact ⟨#[], ⟨List.nodup_nil, fun _ h => by cases h⟩, H, fun _ h => by cases h⟩
   case round =>
    clear H
    obtain ⟨s, hs, H, hno⟩ := hrel
    have hsn := seen_iter H
    have H0 : Hp w0 wr K5 (iter r p.2.1 (kents ks p.2.2).length s :: M) := by rw [hn]; exact H
    go_wp2_with (first
     | ((with_reducible show wpList _ _ _ (_ :: _) _ _); refine next_hp (by rfl) (.tmp 18) (by rfl) (by first | rfl | simp [Act.eval, Act.put]) H0 0 p.2.1 (kents ks p.2.2) s (by rfl) (H.kmap hmap) ?_ ?_))
    · intro hall
      have HR : meetD D a b = false := by
       rw [HMD.out, T.om, hS, List.any_eq_false]
       intro q hq
       obtain ⟨k, hk⟩ := List.mem_iff_getElem?.1 hq
       have hkn : k < n := by rw [← hn]; unfold kents; rw [List.length_map]; exact (List.getElem?_eq_some_iff.1 hk).1
       have := hno k (by simpa using hall k hkn) q hk
       rw [T.om] at this
       rw [this]; exact Bool.false_ne_true
      replace H := Hp.tail H
      go_wp2_with fail
      go_ret
      exact ⟨K5, by rw [HR]; rfl, hK, H⟩
    · intro k x1 x2 w6 hkx hks H6
      obtain ⟨q, hq, he⟩ := kents_at hkx
      injection he with e1 e2
      subst e1 e2
      have hkn : k < n := by rw [← hn]; exact (List.getElem?_eq_some_iff.1 hkx).1
      have hsp := hs.push hkn hks
      have hsn6 := seen_iter H6
      have hspl := hsp.le
      have hq9 := H6.kcell T.a.box T.a.c22
      have H7 : Hp w0 w6 K5 (iter r p.2.1 (kents ks p.2.2).length (s.push k) :: M) := by rw [hn]; exact H6
      obtain ⟨mv, hmv⟩ := lookup_set OB go b q.1
      have hmw := hmv w6 (T.objects.sat H6.sat) (fun p hp => (T.sets p hp).sat H6.sat)
      rw [← T.om] at hmw
      clear H H0 hmv
      cases hb : kfind (setOf D.objects b) q.1 with
      | some y =>
       have HR : meetD D a b = true := by
        rw [HMD.out, T.om, hS]
        exact List.any_eq_true.2 ⟨q, List.mem_of_getElem? hq, by rw [← T.om, hb]; rfl⟩
       rw [hb] at hmw
       go_wp2_with (first
        | ((with_reducible show wpList _ _ _ (_ :: _) _ _); refine entry_hp (by rfl) (.tmp 18) (by rfl) (by first | rfl | simp [Act.eval, Act.put]) H7 0 p.2.1 (kents ks p.2.2) s k (ks q.1, q.2) (by rfl) (H6.kmap hmap) hkx ?_)
        | ((with_reducible show wpList _ _ _ (_ :: _) _ _); refine lookup_run (by rfl) (.tmp 27) (.tmp 28) 89 false (by rfl) (by first | rfl | simp [Act.eval, Act.put]) (by first | rfl | simp [Act.eval, Act.put]) hmw.1 ?_)
        | ((with_reducible show wpList _ _ _ (_ :: _) _ _); refine lookup_run (by rfl) (.tmp 29) (.tmp 30) 87 true (by rfl) (by first | rfl | simp [Act.eval, Act.put]) (by first | rfl | simp [Act.eval, Act.put]) hmw.2 ?_))
       replace H6 := Hp.tail H6
       go_ret
       exact ⟨K5, by rw [HR]; rfl, hK, H6⟩
      | none =>
       rw [hb] at hmw
       go_wp2_with (first
        | ((with_reducible show wpList _ _ _ (_ :: _) _ _); refine entry_hp (by rfl) (.tmp 18) (by rfl) (by first | rfl | simp [Act.eval, Act.put]) H7 0 p.2.1 (kents ks p.2.2) s k (ks q.1, q.2) (by rfl) (H6.kmap hmap) hkx ?_)
        | ((with_reducible show wpList _ _ _ (_ :: _) _ _); refine lookup_run (by rfl) (.tmp 27) (.tmp 28) 89 false (by rfl) (by first | rfl | simp [Act.eval, Act.put]) (by first | rfl | simp [Act.eval, Act.put]) hmw.1 ?_)
        | ((with_reducible show wpList _ _ _ (_ :: _) _ _); refine lookup_run (by rfl) (.tmp 29) (.tmp 30) 87 true (by rfl) (by first | rfl | simp [Act.eval, Act.put]) (by first | rfl | simp [Act.eval, Act.put]) hmw.2 ?_))
       go_roundw
       case rel =>
        refine ⟨s.push k, hsp, H6, fun j hj z hz => ?_⟩
        rw [Array.toList_push] at hj
        rcases List.mem_append.1 hj with hj | hj
        · exact hno j hj z hz
        · obtain rfl := List.mem_singleton.1 hj
          rw [hq] at hz
          injection hz with hz
          subst hz
          rw [hb]; rfl
       case measure =>
        rw [hsn6, hsn]
        rw [Array.size_push] at hspl ⊢
        omega
end Go.Proofs.YtbpgkkoeehopjaaGreat.hp
namespace Go.Proofs
open Go.Shelf
def Tryz.laysSlF6_f67_ren : Go.Shelf.Ren := ⟨fun | 6 => 67 | 15 => 118 | 14 => 117 | 28 => 163 | 29 => 164 | 20 => 155 | 21 => 156 | 22 => 157 | 23 => 158 | 24 => 159 | 25 => 160 | 26 => 161 | 27 => 162 | 46 => 181 | 47 => 182 | 48 => 183 | 49 => 184 | 50 => 185 | 57 => 199 | n => n, fun | 22 => 27 | 24 => 9 | 25 => 104 | 3 => 3 | 39 => 168 | 0 => 0 | 53 => 216 | 55 => 218 | 4 => 4 | 46 => 210 | 45 => 209 | 50 => 93 | 5 => 5 | 9 => 9 | 66 => 236 | 70 => 240 | 76 => 249 | 77 => 250 | n => n, fun | n => n⟩
theorem Tryz.laysSlF6_f67 : Go.Proofs.SlLaysF.n6 Tryz.prog Tryz.laysSlF6_f67_ren := {
 mixed := by kernel_rfl
 f6 := ⟨Tryz.f67.name, by decide, Tryz.func67.trans (congrArg some (by kernel_rfl))⟩
 f14 := ⟨Tryz.f117.name, by decide, Tryz.func117.trans (congrArg some (by kernel_rfl))⟩
 f15 := Tryz.func118.trans (congrArg some (by kernel_rfl))
 f20 := ⟨Tryz.f155.name, by decide, Tryz.func155.trans (congrArg some (by kernel_rfl))⟩
 f21 := ⟨Tryz.f156.name, by decide, Tryz.func156.trans (congrArg some (by kernel_rfl))⟩
 f22 := ⟨Tryz.f157.name, by decide, Tryz.func157.trans (congrArg some (by kernel_rfl))⟩
 f23 := ⟨Tryz.f158.name, by decide, Tryz.func158.trans (congrArg some (by kernel_rfl))⟩
 f24 := ⟨Tryz.f159.name, by decide, Tryz.func159.trans (congrArg some (by kernel_rfl))⟩
 f25 := ⟨Tryz.f160.name, by decide, Tryz.func160.trans (congrArg some (by kernel_rfl))⟩
 f26 := ⟨Tryz.f161.name, by decide, Tryz.func161.trans (congrArg some (by kernel_rfl))⟩
 f27 := ⟨Tryz.f162.name, by decide, Tryz.func162.trans (congrArg some (by kernel_rfl))⟩
 f28 := Tryz.func163.trans (congrArg some (by kernel_rfl))
 f29 := Tryz.func164.trans (congrArg some (by kernel_rfl))
 f46 := ⟨Tryz.f181.name, by decide, Tryz.func181.trans (congrArg some (by kernel_rfl))⟩
 f47 := Tryz.func182.trans (congrArg some (by kernel_rfl))
 f48 := Tryz.func183.trans (congrArg some (by kernel_rfl))
 f49 := ⟨Tryz.f184.name, by decide, Tryz.func184.trans (congrArg some (by kernel_rfl))⟩
 f50 := ⟨Tryz.f185.name, by decide, Tryz.func185.trans (congrArg some (by kernel_rfl))⟩
 f57 := ⟨Tryz.f199.name, by decide, Tryz.func199.trans (congrArg some (by kernel_rfl))⟩
 t0 := Tryz.underlying0
 a0 := Tryz.isAgg0
 z0 := Tryz.sizeOf0
 v0 := Tryz.zeroValue0
 t3 := Tryz.underlying3
 a3 := Tryz.isAgg3
 z3 := Tryz.sizeOf3
 v3 := Tryz.zeroValue3
 t4 := Tryz.underlying4
 a4 := Tryz.isAgg4
 z4 := Tryz.sizeOf4
 v4 := Tryz.zeroValue4
 t5 := Tryz.underlying5
 a5 := Tryz.isAgg5
 z5 := Tryz.sizeOf5
 v5 := Tryz.zeroValue5
 t9 := Tryz.underlying9
 a9 := Tryz.isAgg9
 z9 := Tryz.sizeOf9
 v9 := Tryz.zeroValue9
 t22 := Tryz.underlying27
 a22 := Tryz.isAgg27
 z22 := Tryz.sizeOf27
 v22 := Tryz.zeroValue27
 a24 := Tryz.isAgg9
 z24 := Tryz.sizeOf9
 t25 := Tryz.underlying104
 a25 := Tryz.isAgg104
 z25 := Tryz.sizeOf104
 v25 := Tryz.zeroValue104
 t39 := Tryz.underlying168
 a39 := Tryz.isAgg168
 z39 := Tryz.sizeOf168
 v39 := Tryz.zeroValue168
 t45 := Tryz.underlying209
 a45 := Tryz.isAgg209
 z45 := Tryz.sizeOf209
 v45 := Tryz.zeroValue209
 t46 := Tryz.underlying210
 a46 := Tryz.isAgg210
 z46 := Tryz.sizeOf210
 v46 := Tryz.zeroValue210
 t50 := Tryz.underlying93
 a50 := Tryz.isAgg93
 z50 := Tryz.sizeOf93
 v50 := Tryz.zeroValue93
 t53 := Tryz.underlying216
 a53 := Tryz.isAgg216
 z53 := Tryz.sizeOf216
 v53 := Tryz.zeroValue216
 t55 := Tryz.underlying218
 a55 := Tryz.isAgg218
 z55 := Tryz.sizeOf218
 v55 := Tryz.zeroValue218
 t66 := Tryz.underlying236
 a66 := Tryz.isAgg236
 z66 := Tryz.sizeOf236
 v66 := Tryz.zeroValue236
 t70 := Tryz.underlying240
 a70 := Tryz.isAgg240
 z70 := Tryz.sizeOf240
 v70 := Tryz.zeroValue240
 t76 := Tryz.underlying249
 a76 := Tryz.isAgg249
 z76 := Tryz.sizeOf249
 v76 := Tryz.zeroValue249
 t77 := Tryz.underlying250
 a77 := Tryz.isAgg250
 z77 := Tryz.sizeOf250
 v77 := Tryz.zeroValue250 }
open Go.RowKit Go.Lib Go.Sort in
theorem Tryz.slices_SortFunc {α : Type} [Inhabited α] (enc : α → Value) (h1 : OneCell enc) (cf : α → α → Int) (hO : SWO (ltOf cf)) (g : Nat) (cb : Array Value) (blk off cap : Nat) (d : Array α) (w : World) (eg : ∀ args w, (callFunc g args).run Tryz.prog w = .ok (.enter g args) w) (hcmp : CmpLays1 Tryz.prog g cb enc cf blk off d.size w) (hH : Holds enc w blk off d) (hblk : blk < w.heap.size) (hsz : d.size < 4611686018427387904) :
  Calls Tryz.prog 67 #[.slice (some ⟨blk, off, none⟩) d.size cap, .func (.func g) #[] cb] w fun e w' =>
   e = .returned (.tuple #[]) ∧ ∃ d' n os, PermIn 0 d.size d d' ∧ SortedIn (ltOf cf) 0 d.size d' ∧ w' = sortWorld enc w blk off n d' os := Any.slices_SortFunc Tryz.laysSlF6_f67 enc h1 cf hO g cb blk off cap d w eg hcmp hH hblk hsz
end Go.Proofs
namespace Go.Proofs.YtbpgkkoeehopjaaGreat.hp
open Go.RowKit Go.Proofs.YtbpgkkoeehopjaaGreat.words Go.Proofs.YtbpgkkoeehopjaaGreat.enc Go.Proofs.YtbpgkkoeehopjaaGreat.tree Go.Proofs.YtbpgkkoeehopjaaGreat.gram Go.Proofs.YtbpgkkoeehopjaaGreat.lex Go.Proofs.YtbpgkkoeehopjaaGreat.rd Go.Proofs.YtbpgkkoeehopjaaGreat.dec Go.Proofs.YtbpgkkoeehopjaaGreat.dat Go.Proofs.YtbpgkkoeehopjaaGreat.held Go.Proofs.YtbpgkkoeehopjaaGreat.ty
section
variable {w0 w K : World} {M : List Ent} {enc : Txt → Value}
theorem grow_old (w : World) (os : Array Obj) {k : Nat} (h : k < w.heap.size) : (Go.Sort.grow w os).heap[k]? = w.heap[k]? := by
 show (w.heap ++ os)[k]? = _
 rw [Array.getElem?_append_left h]
theorem sort_old (w : World) (blk off n : Nat) (d : Array Txt) (os : Array Obj) {k : Nat} (h : k < w.heap.size) (hb : k ≠ blk) : (sortWorld enc w blk off n d os).heap[k]? = w.heap[k]? := by
 unfold sortWorld
 rw [grow_old _ _ (by simpa using h)]
 show ((w.heap).modify blk _)[k]? = _
 rw [Array.getElem?_modify, if_neg (Ne.symm hb)]
theorem sort_size (w : World) (blk off n : Nat) (d : Array Txt) (os : Array Obj) : w.heap.size ≤ (sortWorld enc w blk off n d os).heap.size := by
 unfold sortWorld
 show _ ≤ ((Go.Sort.putRow enc (Go.Sort.ahead w n) blk off d).heap ++ os).size
 rw [Array.size_append]
 have := Go.Sort.size_putRow enc (Go.Sort.ahead w n) blk off d
 have h2 : (Go.Sort.ahead w n).heap.size = w.heap.size := rfl
 omega
theorem sort_grown (w : World) (blk off n : Nat) (d : Array Txt) (os : Array Obj) : w.grownBy (sortWorld enc w blk off n d os) (some blk) :=
 ⟨rfl, rfl, rfl, sort_size w blk off n d os, fun k hk hne => sort_old w blk off n d os hk (fun e => hne (by rw [e]))⟩
theorem put_take (d : Array Txt) (cur : Array Value) (h : d.size ≤ cur.size) : (Go.Sort.putCells enc 0 d cur).toList.take d.size = d.toList.map enc := by
 apply List.ext_getElem?
 intro j
 rw [List.getElem?_take, List.getElem?_map, Array.getElem?_toList, Array.getElem?_toList]
 unfold Go.Sort.putCells
 split
 · rename_i hj
   have hj : j < d.size := hj
   have hj2 : j < cur.size := by omega
   rw [Array.getElem?_mapIdx, Array.getElem?_eq_getElem hj2, Array.getElem?_eq_getElem hj]
   simp only [Option.map_some, Nat.zero_le, Nat.zero_add, hj, and_self, if_true, Nat.sub_zero]
   rw [getElem!_pos d j hj]
 · rename_i hj
   have hj : ¬ j < d.size := hj
   rw [Array.getElem?_eq_none (by omega)]; rfl
theorem Hp.sorted {m c blk : Nat} {vs : List Value} (H : Hp w0 w K (.row 9 1 (.slice (some ⟨blk, 0, none⟩) m c) m vs :: M)) (n : Nat) (d : Array Txt) (os : Array Obj) (hd : d.size = m) :
  Hp w0 (sortWorld enc w blk 0 n d os) K (.row 9 1 (.slice (some ⟨blk, 0, none⟩) m c) m (d.toList.map enc) :: M) := by
 have ho : w.ownsRow 0 9 1 (.slice (some ⟨blk, 0, none⟩) m c) m vs := H.ok _ (List.mem_cons_self ..)
 refine H.setAt (i := 0) rfl (sort_grown w blk 0 n d os) ?_ (.inl rfl)
 rcases ho.2 with ⟨h, _⟩ | ⟨g', c', cur, he, hb0, hb, h1, h2, h3, h4⟩
 · cases h
 · injection he with e1 _ e3
   injection e1 with e1
   injection e1 with e1
   subst e1 e3
   have hlt := (Array.getElem?_eq_some_iff.1 hb).1
   refine ⟨by rw [List.length_map, Array.length_toList, hd, Nat.mul_one], .inr ⟨blk, c, Go.Sort.putCells enc 0 d cur, rfl, hb0, ?_, h1, h2, ?_, ?_⟩⟩
   · unfold sortWorld
     rw [grow_old _ _ (by simpa using hlt)]
     show ((w.heap).modify blk _)[blk]? = _
     rw [Array.getElem?_modify, if_pos rfl, hb]
     rfl
   · unfold Go.Sort.putCells; simpa using h3
   · rw [Nat.mul_one, ← hd]
     exact put_take d cur (by rw [h3]; omega)
theorem swo_num (f : Txt → Int) : Go.Sort.SWO (ltOf fun x y => f x - f y) := by
 refine ⟨fun x => ?_, fun x y z h1 h2 => ?_, fun x y z h1 h2 => ?_⟩
 · simp [ltOf]
 · simp only [ltOf, decide_eq_true_eq] at *; omega
 · simp only [ltOf, decide_eq_false_iff_not] at *; omega
theorem sort_hp {m c blk g : Nat} {cb : Array Value} {l : List Txt} (f : Txt → Int) (H : Hp w0 w K (.row 9 1 (.slice (some ⟨blk, 0, none⟩) m c) m (l.map ks) :: M)) (hl : l.length = m) (hm : m ≤ 20000000)
  (eg : ∀ args w, (callFunc g args).run Tryz.prog w = .ok (.enter g args) w)
  (hcmp : ∀ W, W.heap.size ≥ w.heap.size → (∀ k, k < w.heap.size → k ≠ blk → W.heap[k]? = w.heap[k]?) → ∀ x y : Txt, Calls Tryz.prog g (#[ks x, ks y] ++ cb) W fun e w' => e = .returned (.int .i64 (f x - f y)) ∧ w' = W) :
  Calls Tryz.prog 67 #[.slice (some ⟨blk, 0, none⟩) m c, .func (.func g) #[] cb] w fun e w' => e = .returned (.tuple #[]) ∧ ∃ l' : List Txt, l'.Perm l ∧ l'.Pairwise (fun a b => f a ≤ f b) ∧ Hp w0 w' K (.row 9 1 (.slice (some ⟨blk, 0, none⟩) m c) m (l'.map ks) :: M) := by
 have hds : l.toArray.size = m := by simpa using hl
 have hblk : blk < w.heap.size := H.lt (i := 0) rfl rfl
 have hH : Go.Sort.Holds ks w blk 0 l.toArray := by
  intro j hj
  rw [hds] at hj
  have hjl : j < l.length := by omega
  rw [Nat.zero_add]
  refine ⟨H.rowCell (i := 0) rfl ?_, H.rowFrozen (i := 0) rfl j⟩
  rw [List.getElem?_map, List.getElem?_eq_getElem hjl, getElem!_pos l.toArray j (by simpa using hjl)]
  rfl
 have hc : CmpLays1 Tryz.prog g cb ks (fun x y => f x - f y) blk 0 l.toArray.size w := by
  intro n os dk hdk x y
  refine (hcmp (sortWorld ks w blk 0 n dk os) (sort_size ..) (fun k hk hb => sort_old w blk 0 n dk os hk hb) x y).mono ?_
  rintro e w' ⟨he, rfl⟩
  exact ⟨he, 0, #[], by simp [Go.Sort.grow_empty, World.drewN]⟩
 have h := Tryz.slices_SortFunc ks (fun _ => rfl) (fun x y => f x - f y) (swo_num f) g cb blk 0 c l.toArray w eg hc hH hblk (by rw [hds]; omega)
 rw [hds] at h
 refine h.mono ?_
 rintro e w' ⟨he, d', n, os, hp, hs, rfl⟩
 have hd' : d'.size = m := hp.1.trans hds
 have hperm : d'.toList.Perm l := by
  have := hp.2.2
  have e1 : (d'.extract 0 m).toList = d'.toList := by rw [← hd', Array.extract_size]
  have e2 : (l.toArray.extract 0 m).toList = l := by rw [← hds, Array.extract_size]
  rw [e1, e2] at this
  exact this
 refine ⟨he, d'.toList, hperm, ?_, H.sorted n d' os hd'⟩
 rw [List.pairwise_iff_getElem]
 intro i j hi hj hij
 have hi' : i < d'.size := by simpa using hi
 have hj' : j < d'.size := by simpa using hj
 have := hs i j (Nat.zero_le _) hij (by omega)
 simp only [ltOf, decide_eq_false_iff_not] at this
 rw [getElem!_pos d' j hj', getElem!_pos d' i hi'] at this
 simp only [Array.getElem_toList]
 omega
theorem sort_none (v : Value) (c : Nat) (p : Option Addr) (w : World) : Calls Tryz.prog 67 #[.slice p 0 c, v] w fun e w' => e = .returned (.tuple #[]) ∧ w' = w :=
 AnyF.slices_SortFunc_none { Tryz.laysSlF6_f67 with } p c v w
end
end Go.Proofs.YtbpgkkoeehopjaaGreat.hp
