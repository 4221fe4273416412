/- Part 11 of 18 of a proof: see the last part. -/
import Derived.Test.YtbpgkkoeehopjaaGreatP4
import Derived.Test.YtbpgkkoeehopjaaGreatP9
import Derived.Test.YtbpgkkoeehopjaaGreatP10
set_option linter.unusedVariables false
set_option linter.unusedSimpArgs false
namespace Go.Proofs.YtbpgkkoeehopjaaGreat.hp
open Go.RowKit Go.Proofs.YtbpgkkoeehopjaaGreat.words Go.Proofs.YtbpgkkoeehopjaaGreat.enc Go.Proofs.YtbpgkkoeehopjaaGreat.tree Go.Proofs.YtbpgkkoeehopjaaGreat.gram Go.Proofs.YtbpgkkoeehopjaaGreat.lex Go.Proofs.YtbpgkkoeehopjaaGreat.rd Go.Proofs.YtbpgkkoeehopjaaGreat.dec Go.Proofs.YtbpgkkoeehopjaaGreat.dat Go.Proofs.YtbpgkkoeehopjaaGreat.held
set_option maxRecDepth 100000
attribute [local go_sem ↓] Go.wp_at_zero Go.wp_at_succ
theorem addr0 (g k : Nat) : (⟨g, 0, none⟩ : Addr).add k = ⟨g, k, none⟩ := by unfold Addr.add; split <;> simp_all
def fD (s t u : Txt) : FieldD := ⟨noteZ, s, [], (t, u), [], 0, 0⟩
def aD (s t : Txt) : FieldD := ⟨noteZ, s, [incD], (t, [33, 93]), [], 0, 0⟩
def scD (s : Txt) : DefD := ⟨2, false, noteZ, s, [], [], [], [], [], [], [], false, [], 0, 0⟩
def obD (s : Txt) (l : List FieldD) : DefD := ⟨3, false, noteZ, s, [], [], l, [], [], [], [], false, [], 0, 0⟩
def enD (s : Txt) (l : List Txt) : DefD := ⟨6, false, noteZ, s, [], [], [], [], [], l.map valD, [], false, [], 0, 0⟩
section
variable {K : World}
theorem rf_f {s t u : Txt} {r : List FieldD} {ys : List Value} (h : RL K (fieldsL r) ys) : RL K (fieldsL (fD s t u :: r)) (.bool false :: .bool false :: .string ⟨#[]⟩ :: .string (str s) :: .slice none 0 0 :: .string (str t) :: .string (str u) :: .slice none 0 0 :: .int .i64 0 :: .int .i64 0 :: ys) :=
 .lit (.lit (.lit (.lit (.cons RD.z (.lit (.lit (.cons RD.z (.lit (.lit h)))))))))
theorem rf_a {s t : Txt} {r : List FieldD} {ys : List Value} {v : Value} (h : RL K (fieldsL r) ys) (hi : RD K (.list 1 (inputsL [incD])) v) : RL K (fieldsL (aD s t :: r)) (.bool false :: .bool false :: .string ⟨#[]⟩ :: .string (str s) :: v :: .string (str t) :: .string ⟨#[33, 93]⟩ :: .slice none 0 0 :: .int .i64 0 :: .int .i64 0 :: ys) :=
 .lit (.lit (.lit (.lit (.cons hi (.lit (.lit (.cons RD.z (.lit (.lit h)))))))))
theorem rt_s {x : Txt} {r : List Txt} {ys : List Value} (h : RL K (textsL r) ys) : RL K (textsL (x :: r)) (.string (str x) :: ys) := .lit h
theorem rd_nil : RL K (defsL []) [] := RL.z
theorem rd_sc {s : Txt} : RL K (defL (scD s)) [.int .i64 2, .bool false, .bool false, .bool false, .string ⟨#[]⟩, .string (str s), .slice none 0 0, .slice none 0 0, .slice none 0 0, .slice none 0 0, .slice none 0 0, .slice none 0 0, .slice none 0 0, .bool false, .slice none 0 0, .int .i64 0, .int .i64 0] :=
 def_leaf RD.z RD.z RD.z RD.z RD.z RD.z RD.z RD.z
theorem rd_ob {s : Txt} {l : List FieldD} {v : Value} {r : List DefD} {ys : List Value} (h : RL K (defsL r) ys) (hl : RD K (.list l.length (fieldsL l)) v) : RL K (defsL (obD s l :: r)) (.int .i64 3 :: .bool false :: .bool false :: .bool false :: .string ⟨#[]⟩ :: .string (str s) :: .slice none 0 0 :: .slice none 0 0 :: v :: .slice none 0 0 :: .slice none 0 0 :: .slice none 0 0 :: .slice none 0 0 :: .bool false :: .slice none 0 0 :: .int .i64 0 :: .int .i64 0 :: ys) :=
 DatL.app (def_leaf RD.z RD.z hl RD.z RD.z RD.z RD.z RD.z) h
theorem rd_en {s : Txt} {l : List Txt} {v : Value} {r : List DefD} {ys : List Value} (h : RL K (defsL r) ys) (hl : RD K (.list l.length (valuesL (l.map valD))) v) : RL K (defsL (enD s l :: r)) (.int .i64 6 :: .bool false :: .bool false :: .bool false :: .string ⟨#[]⟩ :: .string (str s) :: .slice none 0 0 :: .slice none 0 0 :: .slice none 0 0 :: .slice none 0 0 :: .slice none 0 0 :: v :: .slice none 0 0 :: .bool false :: .slice none 0 0 :: .int .i64 0 :: .int .i64 0 :: ys) :=
 DatL.app (def_leaf RD.z RD.z RD.z RD.z RD.z (by simpa using hl) RD.z RD.z) h
theorem scs_snoc {l : List Txt} {x : Txt} {vs : List Value} (h : RL K (defsL (l.map scD)) vs) : RL K (defsL ((l ++ [x]).map scD)) (vs ++ [.int .i64 2, .bool false, .bool false, .bool false, .string ⟨#[]⟩, .string (str x), .slice none 0 0, .slice none 0 0, .slice none 0 0, .slice none 0 0, .slice none 0 0, .slice none 0 0, .slice none 0 0, .bool false, .slice none 0 0, .int .i64 0, .int .i64 0]) := by
 rw [List.map_append]
 unfold defsL at h ⊢
 rw [List.flatMap_append]
 exact h.app (by simpa using rd_sc)
end
def scalT : List Txt := [[73, 110, 116], [70, 108, 111, 97, 116], [83, 116, 114, 105, 110, 103], [66, 111, 111, 108, 101, 97, 110], [73, 68]]
def gf0 : List FieldD := [fD [100, 101, 115, 99, 114, 105, 112, 116, 105, 111, 110] [83, 116, 114, 105, 110, 103] [], fD [116, 121, 112, 101, 115] [95, 95, 84, 121, 112, 101] [33, 93, 33], fD [113, 117, 101, 114, 121, 84, 121, 112, 101] [95, 95, 84, 121, 112, 101] [33], fD [109, 117, 116, 97, 116, 105, 111, 110, 84, 121, 112, 101] [95, 95, 84, 121, 112, 101] [], fD [115, 117, 98, 115, 99, 114, 105, 112, 116, 105, 111, 110, 84, 121, 112, 101] [95, 95, 84, 121, 112, 101] [], fD [100, 105, 114, 101, 99, 116, 105, 118, 101, 115] [95, 95, 68, 105, 114, 101, 99, 116, 105, 118, 101] [33, 93, 33]]
def gd0 : DefD := obD [95, 95, 83, 99, 104, 101, 109, 97] gf0
def gf1 : List FieldD := [fD [107, 105, 110, 100] [95, 95, 84, 121, 112, 101, 75, 105, 110, 100] [33], fD [110, 97, 109, 101] [83, 116, 114, 105, 110, 103] [], fD [100, 101, 115, 99, 114, 105, 112, 116, 105, 111, 110] [83, 116, 114, 105, 110, 103] [], fD [115, 112, 101, 99, 105, 102, 105, 101, 100, 66, 121, 85, 82, 76] [83, 116, 114, 105, 110, 103] [], aD [102, 105, 101, 108, 100, 115] [95, 95, 70, 105, 101, 108, 100], fD [105, 110, 116, 101, 114, 102, 97, 99, 101, 115] [95, 95, 84, 121, 112, 101] [33, 93], fD [112, 111, 115, 115, 105, 98, 108, 101, 84, 121, 112, 101, 115] [95, 95, 84, 121, 112, 101] [33, 93], aD [101, 110, 117, 109, 86, 97, 108, 117, 101, 115] [95, 95, 69, 110, 117, 109, 86, 97, 108, 117, 101], fD [105, 110, 112, 117, 116, 70, 105, 101, 108, 100, 115] [95, 95, 73, 110, 112, 117, 116, 86, 97, 108, 117, 101] [33, 93], fD [111, 102, 84, 121, 112, 101] [95, 95, 84, 121, 112, 101] []]
def gd1 : DefD := obD [95, 95, 84, 121, 112, 101] gf1
def ge2 : List Txt := [[83, 67, 65, 76, 65, 82], [79, 66, 74, 69, 67, 84], [73, 78, 84, 69, 82, 70, 65, 67, 69], [85, 78, 73, 79, 78], [69, 78, 85, 77], [73, 78, 80, 85, 84, 95, 79, 66, 74, 69, 67, 84], [76, 73, 83, 84], [78, 79, 78, 95, 78, 85, 76, 76]]
def gd2 : DefD := enD [95, 95, 84, 121, 112, 101, 75, 105, 110, 100] ge2
def gf3 : List FieldD := [fD [110, 97, 109, 101] [83, 116, 114, 105, 110, 103] [33], fD [100, 101, 115, 99, 114, 105, 112, 116, 105, 111, 110] [83, 116, 114, 105, 110, 103] [], fD [97, 114, 103, 115] [95, 95, 73, 110, 112, 117, 116, 86, 97, 108, 117, 101] [33, 93, 33], fD [116, 121, 112, 101] [95, 95, 84, 121, 112, 101] [33], fD [105, 115, 68, 101, 112, 114, 101, 99, 97, 116, 101, 100] [66, 111, 111, 108, 101, 97, 110] [33], fD [100, 101, 112, 114, 101, 99, 97, 116, 105, 111, 110, 82, 101, 97, 115, 111, 110] [83, 116, 114, 105, 110, 103] []]
def gd3 : DefD := obD [95, 95, 70, 105, 101, 108, 100] gf3
def gf4 : List FieldD := [fD [110, 97, 109, 101] [83, 116, 114, 105, 110, 103] [33], fD [100, 101, 115, 99, 114, 105, 112, 116, 105, 111, 110] [83, 116, 114, 105, 110, 103] [], fD [116, 121, 112, 101] [95, 95, 84, 121, 112, 101] [33], fD [100, 101, 102, 97, 117, 108, 116, 86, 97, 108, 117, 101] [83, 116, 114, 105, 110, 103] []]
def gd4 : DefD := obD [95, 95, 73, 110, 112, 117, 116, 86, 97, 108, 117, 101] gf4
def gf5 : List FieldD := [fD [110, 97, 109, 101] [83, 116, 114, 105, 110, 103] [33], fD [100, 101, 115, 99, 114, 105, 112, 116, 105, 111, 110] [83, 116, 114, 105, 110, 103] [], fD [105, 115, 68, 101, 112, 114, 101, 99, 97, 116, 101, 100] [66, 111, 111, 108, 101, 97, 110] [33], fD [100, 101, 112, 114, 101, 99, 97, 116, 105, 111, 110, 82, 101, 97, 115, 111, 110] [83, 116, 114, 105, 110, 103] []]
def gd5 : DefD := obD [95, 95, 69, 110, 117, 109, 86, 97, 108, 117, 101] gf5
def gf6 : List FieldD := [fD [110, 97, 109, 101] [83, 116, 114, 105, 110, 103] [33], fD [100, 101, 115, 99, 114, 105, 112, 116, 105, 111, 110] [83, 116, 114, 105, 110, 103] [], fD [108, 111, 99, 97, 116, 105, 111, 110, 115] [95, 95, 68, 105, 114, 101, 99, 116, 105, 118, 101, 76, 111, 99, 97, 116, 105, 111, 110] [33, 93, 33], fD [97, 114, 103, 115] [95, 95, 73, 110, 112, 117, 116, 86, 97, 108, 117, 101] [33, 93, 33], fD [105, 115, 82, 101, 112, 101, 97, 116, 97, 98, 108, 101] [66, 111, 111, 108, 101, 97, 110] [33]]
def gd6 : DefD := obD [95, 95, 68, 105, 114, 101, 99, 116, 105, 118, 101] gf6
def ge7 : List Txt := [[81, 85, 69, 82, 89], [77, 85, 84, 65, 84, 73, 79, 78], [83, 85, 66, 83, 67, 82, 73, 80, 84, 73, 79, 78], [70, 73, 69, 76, 68], [70, 82, 65, 71, 77, 69, 78, 84, 95, 68, 69, 70, 73, 78, 73, 84, 73, 79, 78], [70, 82, 65, 71, 77, 69, 78, 84, 95, 83, 80, 82, 69, 65, 68], [73, 78, 76, 73, 78, 69, 95, 70, 82, 65, 71, 77, 69, 78, 84], [86, 65, 82, 73, 65, 66, 76, 69, 95, 68, 69, 70, 73, 78, 73, 84, 73, 79, 78], [83, 67, 72, 69, 77, 65], [83, 67, 65, 76, 65, 82], [79, 66, 74, 69, 67, 84], [70, 73, 69, 76, 68, 95, 68, 69, 70, 73, 78, 73, 84, 73, 79, 78], [65, 82, 71, 85, 77, 69, 78, 84, 95, 68, 69, 70, 73, 78, 73, 84, 73, 79, 78], [73, 78, 84, 69, 82, 70, 65, 67, 69], [85, 78, 73, 79, 78], [69, 78, 85, 77], [69, 78, 85, 77, 95, 86, 65, 76, 85, 69], [73, 78, 80, 85, 84, 95, 79, 66, 74, 69, 67, 84], [73, 78, 80, 85, 84, 95, 70, 73, 69, 76, 68, 95, 68, 69, 70, 73, 78, 73, 84, 73, 79, 78]]
def gd7 : DefD := enD [95, 95, 68, 105, 114, 101, 99, 116, 105, 118, 101, 76, 111, 99, 97, 116, 105, 111, 110] ge7
def givenT : List DefD := scalT.map scD ++ [gd0, gd1, gd2, gd3, gd4, gd5, gd6, gd7]
theorem hv_of {K : World} {v : Value} (h : RD K (.list (5 + 8) (defsL (scalT.map scD) ++ defsL [gd0, gd1, gd2, gd3, gd4, gd5, gd6, gd7])) v) : RD K (.list givenT.length (defsL givenT)) v := by
 rw [show givenT.length = 5 + 8 from rfl, show defsL givenT = defsL (scalT.map scD) ++ defsL [gd0, gd1, gd2, gd3, gd4, gd5, gd6, gd7] from by unfold givenT defsL; rw [List.flatMap_append]]
 exact h
def BtP (l : List DefD) (w0 K : World) (M : List Ent) (e : Ending) (w' : World) : Prop :=
 ∃ K' A c, e = .returned (.slice A l.length c) ∧ Sat K' K ∧ Hp w0 w' K' M ∧ RD K' (.list l.length (defsL l)) (.slice A l.length c)
set_option maxHeartbeats 16000000 in
theorem builtTypes_hp (w0 w K : World) (M : List Ent) (H : Hp w0 w K M) :
  Calls Tryz.prog 56 #[] w (BtP givenT w0 K M) := by
 obtain ⟨k0, hk0, k0z, k0s, k0b⟩ := info_parts def_info
 have hK := Sat.refl K
 go_enter Tryz.func56, Tryz.ntmps56
 go_upto_region 3 with (first
  | (refine buildSlice_hp (by rfl) 27 9 5 _ (by rfl) (some 4) (by rfl) Tryz.underlying27 [.string ⟨#[73, 110, 116]⟩, .string ⟨#[70, 108, 111, 97, 116]⟩, .string ⟨#[83, 116, 114, 105, 110, 103]⟩, .string ⟨#[66, 111, 111, 108, 101, 97, 110]⟩, .string ⟨#[73, 68]⟩] (by kernel_rfl) H ?_; clear H; intro w1 g4 H; obtain ⟨K4, hle2, H, h4⟩ := H.freezeBox (n := 5) (ls := textsL scalT) ((rt_s (rt_s (rt_s (rt_s (rt_s RL.z)))))) (by simp only [maxLen]; omega); replace hK := hle2.trans hK))
 go_wp2_with fail
 go_loopw [1, 6] (fun v i wr => ∃ (k : Nat) (vs : List Value), k ≤ 5 ∧ i = .int .i64 k ∧ Hp w0 wr K4 (.row 43 17 v k vs :: M) ∧ RL K4 (defsL ((scalT.take k).map scD)) vs) (fun _ i _ => 5 - (intOf i).toNat)
 case atStart => exact ⟨0, [], Nat.zero_le _, rfl, H.nilRow 43 17, RL.z⟩
 case round =>
  clear H
  obtain ⟨k, vs, hk, rfl, H, hvs⟩ := hrel
  obtain ⟨Av, cv, rfl, _, _⟩ := H.slice (i := 0) rfl
  by_cases hlt : k < 5
  · have hkI : (k : Int) < 5 := by omega
    obtain ⟨x, hx⟩ : ∃ x, scalT[k]? = some x := ⟨_, List.getElem?_eq_getElem (by simpa [scalT] using hlt)⟩
    have HE := hide (take_next hx)
    obtain ⟨ad, hAd, hc⟩ := elem_text H h4 hx
    injection hAd with hAd
    subst hAd
    rw [addr0] at hc
    clear hx
    go_upto_region 5 with (fail)
    go_upto_region 6 with (first
     | (refine buildSlice_hp (by rfl) 22 43 1 _ (by rfl) (some 13) (by rfl) Tryz.underlying22 [.int .i64 2, .bool false, .bool false, .bool false, .string ⟨#[]⟩, .string (str x), .slice none 0 0, .slice none 0 0, .slice none 0 0, .slice none 0 0, .slice none 0 0, .slice none 0 0, .slice none 0 0, .bool false, .slice none 0 0, .int .i64 0, .int .i64 0] (by kernel_rfl) H ?_; clear H; intro w3 g13 H)
     | (at_builtin; refine append_hp (by rfl) _ _ 22 (by rfl) 43 k0 _ 17 272 Tryz.underlying22 hk0 k0z k0s k0b (by rfl) (by decide) H 1 (.slice Av k cv) (k) (vs) (by rfl) (by first | rfl | simp [Act.eval, Act.put]) (some ⟨g13, 0, none⟩) 1 1 [.int .i64 2, .bool false, .bool false, .bool false, .string ⟨#[]⟩, .string (str x), .slice none 0 0, .slice none 0 0, .slice none 0 0, .slice none 0 0, .slice none 0 0, .slice none 0 0, .slice none 0 0, .bool false, .slice none 0 0, .int .i64 0, .int .i64 0] (by first | rfl | simp [Act.eval, Act.put]) (by rfl) (H.rd (i := 0) rfl) (by simp [Value.oneCell']) (by simp only [maxLen]; omega) (by omega) ?_; clear H; intro V2 w2 H; replace H : Hp w0 w2 K4 (.box g13 [.int .i64 2, .bool false, .bool false, .bool false, .string ⟨#[]⟩, .string (str x), .slice none 0 0, .slice none 0 0, .slice none 0 0, .slice none 0 0, .slice none 0 0, .slice none 0 0, .slice none 0 0, .bool false, .slice none 0 0, .int .i64 0, .int .i64 0] 43 :: .row 43 17 (V2) (k + 1) (vs ++ [.int .i64 2, .bool false, .bool false, .bool false, .string ⟨#[]⟩, .string (str x), .slice none 0 0, .slice none 0 0, .slice none 0 0, .slice none 0 0, .slice none 0 0, .slice none 0 0, .slice none 0 0, .bool false, .slice none 0 0, .int .i64 0, .int .i64 0]) :: M) := H; obtain ⟨V2A, V2c, rfl, V2l, V2m⟩ := H.slice (i := 1) rfl))
    replace H := H.sub (List.Sublist.cons _ (List.Sublist.cons_cons _ (List.Sublist.refl _)))
    go_wp2_with fail
    go_roundw
    case rel => exact ⟨k + 1, _, by omega, by go_num, H, by rw [HE.out]; exact scs_snoc hvs⟩
    case measure => simp [intOf]; omega
  · obtain rfl : 5 = k := by omega
    have htk : scalT.take 5 = scalT := rfl
    rw [htk] at hvs
    clear htk
    go_upto_region 7 with (fail)
    have tk4 : True := trivial
    have tk12 : True := trivial
    have tk17 : True := trivial
    have tk28 : True := trivial
    go_wp2_with (first
     | (go_at_call 101; have tk_ := tk4; clear tk_ tk4; have tk5 : True := trivial; refine (field_hp _ _ _ _ _ _ _ H).mono ?_; clear H; rintro e x1 ⟨rfl, H⟩)
     | (go_at_call 101; have tk_ := tk5; clear tk_ tk5; have tk6 : True := trivial; refine (field_hp _ _ _ _ _ _ _ H).mono ?_; clear H; rintro e x2 ⟨rfl, H⟩)
     | (go_at_call 101; have tk_ := tk6; clear tk_ tk6; have tk7 : True := trivial; refine (field_hp _ _ _ _ _ _ _ H).mono ?_; clear H; rintro e x3 ⟨rfl, H⟩)
     | (go_at_call 101; have tk_ := tk7; clear tk_ tk7; have tk8 : True := trivial; refine (field_hp _ _ _ _ _ _ _ H).mono ?_; clear H; rintro e x4 ⟨rfl, H⟩)
     | (go_at_call 101; have tk_ := tk8; clear tk_ tk8; have tk9 : True := trivial; refine (field_hp _ _ _ _ _ _ _ H).mono ?_; clear H; rintro e x5 ⟨rfl, H⟩)
     | (go_at_call 101; have tk_ := tk9; clear tk_ tk9; have tk13 : True := trivial; refine (field_hp _ _ _ _ _ _ _ H).mono ?_; clear H; rintro e x6 ⟨rfl, H⟩)
     | (refine buildSlice_hp (by rfl) 36 52 6 _ (by rfl) (some 23) (by rfl) Tryz.underlying36 [.bool false, .bool false, .string ⟨#[]⟩, .string ⟨#[100, 101, 115, 99, 114, 105, 112, 116, 105, 111, 110]⟩, .slice none 0 0, .string ⟨#[83, 116, 114, 105, 110, 103]⟩, .string ⟨#[]⟩, .slice none 0 0, .int .i64 0, .int .i64 0, .bool false, .bool false, .string ⟨#[]⟩, .string ⟨#[116, 121, 112, 101, 115]⟩, .slice none 0 0, .string ⟨#[95, 95, 84, 121, 112, 101]⟩, .string ⟨#[33, 93, 33]⟩, .slice none 0 0, .int .i64 0, .int .i64 0, .bool false, .bool false, .string ⟨#[]⟩, .string ⟨#[113, 117, 101, 114, 121, 84, 121, 112, 101]⟩, .slice none 0 0, .string ⟨#[95, 95, 84, 121, 112, 101]⟩, .string ⟨#[33]⟩, .slice none 0 0, .int .i64 0, .int .i64 0, .bool false, .bool false, .string ⟨#[]⟩, .string ⟨#[109, 117, 116, 97, 116, 105, 111, 110, 84, 121, 112, 101]⟩, .slice none 0 0, .string ⟨#[95, 95, 84, 121, 112, 101]⟩, .string ⟨#[]⟩, .slice none 0 0, .int .i64 0, .int .i64 0, .bool false, .bool false, .string ⟨#[]⟩, .string ⟨#[115, 117, 98, 115, 99, 114, 105, 112, 116, 105, 111, 110, 84, 121, 112, 101]⟩, .slice none 0 0, .string ⟨#[95, 95, 84, 121, 112, 101]⟩, .string ⟨#[]⟩, .slice none 0 0, .int .i64 0, .int .i64 0, .bool false, .bool false, .string ⟨#[]⟩, .string ⟨#[100, 105, 114, 101, 99, 116, 105, 118, 101, 115]⟩, .slice none 0 0, .string ⟨#[95, 95, 68, 105, 114, 101, 99, 116, 105, 118, 101]⟩, .string ⟨#[33, 93, 33]⟩, .slice none 0 0, .int .i64 0, .int .i64 0] (by kernel_rfl) H ?_; clear H; intro w10 g23 H; obtain ⟨K23, hle11, H, hf0⟩ := H.freezeBox (n := 6) (ls := fieldsL gf0) ((rf_f (rf_f (rf_f (rf_f (rf_f (rf_f (RL.z)))))))) (by simp only [maxLen]; omega); replace h4 := h4.sat hle11; replace hvs := hvs.sat hle11; replace hK := hle11.trans hK)
     | (go_at_call 100; have tk_ := tk12; clear tk_ tk12; have tk25 : True := trivial; refine (object_hp _ _ _ _ _ _ _ _ H).mono ?_; clear H; rintro e x7 ⟨rfl, H⟩)
     | (go_at_call 101; have tk_ := tk13; clear tk_ tk13; have tk14 : True := trivial; refine (field_hp _ _ _ _ _ _ _ H).mono ?_; clear H; rintro e x8 ⟨rfl, H⟩)
     | (go_at_call 101; have tk_ := tk14; clear tk_ tk14; have tk15 : True := trivial; refine (field_hp _ _ _ _ _ _ _ H).mono ?_; clear H; rintro e x9 ⟨rfl, H⟩)
     | (go_at_call 101; have tk_ := tk15; clear tk_ tk15; have tk16 : True := trivial; refine (field_hp _ _ _ _ _ _ _ H).mono ?_; clear H; rintro e x10 ⟨rfl, H⟩)
     | (go_at_call 101; have tk_ := tk16; clear tk_ tk16; have tk18 : True := trivial; refine (field_hp _ _ _ _ _ _ _ H).mono ?_; clear H; rintro e x11 ⟨rfl, H⟩)
     | (go_at_call 102; have tk_ := tk17; clear tk_ tk17; have tk20 : True := trivial; refine (all_hp _ _ _ _ _ _ H).mono ?_; clear H; rintro e x12 ⟨K29, B29, rfl, hle29, H, hin29⟩; replace h4 := h4.sat hle29; replace hvs := hvs.sat hle29; replace hf0 := hf0.sat hle29; replace hK := hle29.trans hK)
     | (go_at_call 101; have tk_ := tk18; clear tk_ tk18; have tk19 : True := trivial; refine (field_hp _ _ _ _ _ _ _ H).mono ?_; clear H; rintro e x13 ⟨rfl, H⟩)
     | (go_at_call 101; have tk_ := tk19; clear tk_ tk19; have tk21 : True := trivial; refine (field_hp _ _ _ _ _ _ _ H).mono ?_; clear H; rintro e x14 ⟨rfl, H⟩)
     | (go_at_call 102; have tk_ := tk20; clear tk_ tk20; refine (all_hp _ _ _ _ _ _ H).mono ?_; clear H; rintro e x15 ⟨K32, B32, rfl, hle32, H, hin32⟩; replace h4 := h4.sat hle32; replace hvs := hvs.sat hle32; replace hf0 := hf0.sat hle32; replace hin29 := hin29.sat hle32; replace hK := hle32.trans hK)
     | (go_at_call 101; have tk_ := tk21; clear tk_ tk21; have tk22 : True := trivial; refine (field_hp _ _ _ _ _ _ _ H).mono ?_; clear H; rintro e x16 ⟨rfl, H⟩)
     | (go_at_call 101; have tk_ := tk22; clear tk_ tk22; have tk29 : True := trivial; refine (field_hp _ _ _ _ _ _ _ H).mono ?_; clear H; rintro e x17 ⟨rfl, H⟩)
     | (refine buildSlice_hp (by rfl) 36 52 10 _ (by rfl) (some 35) (by rfl) Tryz.underlying36 [.bool false, .bool false, .string ⟨#[]⟩, .string ⟨#[107, 105, 110, 100]⟩, .slice none 0 0, .string ⟨#[95, 95, 84, 121, 112, 101, 75, 105, 110, 100]⟩, .string ⟨#[33]⟩, .slice none 0 0, .int .i64 0, .int .i64 0, .bool false, .bool false, .string ⟨#[]⟩, .string ⟨#[110, 97, 109, 101]⟩, .slice none 0 0, .string ⟨#[83, 116, 114, 105, 110, 103]⟩, .string ⟨#[]⟩, .slice none 0 0, .int .i64 0, .int .i64 0, .bool false, .bool false, .string ⟨#[]⟩, .string ⟨#[100, 101, 115, 99, 114, 105, 112, 116, 105, 111, 110]⟩, .slice none 0 0, .string ⟨#[83, 116, 114, 105, 110, 103]⟩, .string ⟨#[]⟩, .slice none 0 0, .int .i64 0, .int .i64 0, .bool false, .bool false, .string ⟨#[]⟩, .string ⟨#[115, 112, 101, 99, 105, 102, 105, 101, 100, 66, 121, 85, 82, 76]⟩, .slice none 0 0, .string ⟨#[83, 116, 114, 105, 110, 103]⟩, .string ⟨#[]⟩, .slice none 0 0, .int .i64 0, .int .i64 0, .bool false, .bool false, .string ⟨#[]⟩, .string ⟨#[102, 105, 101, 108, 100, 115]⟩, .slice (some B29) 1 1, .string ⟨#[95, 95, 70, 105, 101, 108, 100]⟩, .string ⟨#[33, 93]⟩, .slice none 0 0, .int .i64 0, .int .i64 0, .bool false, .bool false, .string ⟨#[]⟩, .string ⟨#[105, 110, 116, 101, 114, 102, 97, 99, 101, 115]⟩, .slice none 0 0, .string ⟨#[95, 95, 84, 121, 112, 101]⟩, .string ⟨#[33, 93]⟩, .slice none 0 0, .int .i64 0, .int .i64 0, .bool false, .bool false, .string ⟨#[]⟩, .string ⟨#[112, 111, 115, 115, 105, 98, 108, 101, 84, 121, 112, 101, 115]⟩, .slice none 0 0, .string ⟨#[95, 95, 84, 121, 112, 101]⟩, .string ⟨#[33, 93]⟩, .slice none 0 0, .int .i64 0, .int .i64 0, .bool false, .bool false, .string ⟨#[]⟩, .string ⟨#[101, 110, 117, 109, 86, 97, 108, 117, 101, 115]⟩, .slice (some B32) 1 1, .string ⟨#[95, 95, 69, 110, 117, 109, 86, 97, 108, 117, 101]⟩, .string ⟨#[33, 93]⟩, .slice none 0 0, .int .i64 0, .int .i64 0, .bool false, .bool false, .string ⟨#[]⟩, .string ⟨#[105, 110, 112, 117, 116, 70, 105, 101, 108, 100, 115]⟩, .slice none 0 0, .string ⟨#[95, 95, 73, 110, 112, 117, 116, 86, 97, 108, 117, 101]⟩, .string ⟨#[33, 93]⟩, .slice none 0 0, .int .i64 0, .int .i64 0, .bool false, .bool false, .string ⟨#[]⟩, .string ⟨#[111, 102, 84, 121, 112, 101]⟩, .slice none 0 0, .string ⟨#[95, 95, 84, 121, 112, 101]⟩, .string ⟨#[]⟩, .slice none 0 0, .int .i64 0, .int .i64 0] (by kernel_rfl) H ?_; clear H; intro w23 g35 H; obtain ⟨K35, hle24, H, hf1⟩ := H.freezeBox (n := 10) (ls := fieldsL gf1) ((rf_f (rf_f (rf_f (rf_f (rf_a (hi := hin29) (rf_f (rf_f (rf_a (hi := hin32) (rf_f (rf_f (RL.z)))))))))))) (by simp only [maxLen]; omega); replace h4 := h4.sat hle24; replace hvs := hvs.sat hle24; replace hf0 := hf0.sat hle24; replace hin29 := hin29.sat hle24; replace hin32 := hin32.sat hle24; replace hK := hle24.trans hK)
     | (go_at_call 100; have tk_ := tk25; clear tk_ tk25; have tk37 : True := trivial; refine (object_hp _ _ _ _ _ _ _ _ H).mono ?_; clear H; rintro e x18 ⟨rfl, H⟩)
     | (refine buildSlice_hp (by rfl) 27 9 8 _ (by rfl) (some 37) (by rfl) Tryz.underlying27 [.string ⟨#[83, 67, 65, 76, 65, 82]⟩, .string ⟨#[79, 66, 74, 69, 67, 84]⟩, .string ⟨#[73, 78, 84, 69, 82, 70, 65, 67, 69]⟩, .string ⟨#[85, 78, 73, 79, 78]⟩, .string ⟨#[69, 78, 85, 77]⟩, .string ⟨#[73, 78, 80, 85, 84, 95, 79, 66, 74, 69, 67, 84]⟩, .string ⟨#[76, 73, 83, 84]⟩, .string ⟨#[78, 79, 78, 95, 78, 85, 76, 76]⟩] (by kernel_rfl) H ?_; clear H; intro w26 g37 H; obtain ⟨K37, hle27, H, ht2⟩ := H.freezeBox (n := 8) (ls := textsL ge2) ((rt_s (rt_s (rt_s (rt_s (rt_s (rt_s (rt_s (rt_s (RL.z)))))))))) (by simp only [maxLen]; omega); replace h4 := h4.sat hle27; replace hvs := hvs.sat hle27; replace hf0 := hf0.sat hle27; replace hin29 := hin29.sat hle27; replace hin32 := hin32.sat hle27; replace hf1 := hf1.sat hle27; replace hK := hle27.trans hK)
     | (go_at_call 103; have tk_ := tk28; clear tk_ tk28; have tk62 : True := trivial; refine (enum_hp _ ge2 8 8 _ _ _ _ _ H rfl (by omega) ht2).mono ?_; clear H; rintro e x19 ⟨K38, B38, c38, rfl, hle38, H, hf2⟩; replace h4 := h4.sat hle38; replace hvs := hvs.sat hle38; replace hf0 := hf0.sat hle38; replace hin29 := hin29.sat hle38; replace hin32 := hin32.sat hle38; replace hf1 := hf1.sat hle38; replace ht2 := ht2.sat hle38; replace hK := hle38.trans hK)
     | (go_at_call 101; have tk_ := tk29; clear tk_ tk29; have tk30 : True := trivial; refine (field_hp _ _ _ _ _ _ _ H).mono ?_; clear H; rintro e x20 ⟨rfl, H⟩)
     | (go_at_call 101; have tk_ := tk30; clear tk_ tk30; have tk31 : True := trivial; refine (field_hp _ _ _ _ _ _ _ H).mono ?_; clear H; rintro e x21 ⟨rfl, H⟩)
     | (go_at_call 101; have tk_ := tk31; clear tk_ tk31; have tk32 : True := trivial; refine (field_hp _ _ _ _ _ _ _ H).mono ?_; clear H; rintro e x22 ⟨rfl, H⟩)
     | (go_at_call 101; have tk_ := tk32; clear tk_ tk32; have tk33 : True := trivial; refine (field_hp _ _ _ _ _ _ _ H).mono ?_; clear H; rintro e x23 ⟨rfl, H⟩)
     | (go_at_call 101; have tk_ := tk33; clear tk_ tk33; have tk34 : True := trivial; refine (field_hp _ _ _ _ _ _ _ H).mono ?_; clear H; rintro e x24 ⟨rfl, H⟩)
     | (go_at_call 101; have tk_ := tk34; clear tk_ tk34; have tk38 : True := trivial; refine (field_hp _ _ _ _ _ _ _ H).mono ?_; clear H; rintro e x25 ⟨rfl, H⟩)
     | (refine buildSlice_hp (by rfl) 36 52 6 _ (by rfl) (some 45) (by rfl) Tryz.underlying36 [.bool false, .bool false, .string ⟨#[]⟩, .string ⟨#[110, 97, 109, 101]⟩, .slice none 0 0, .string ⟨#[83, 116, 114, 105, 110, 103]⟩, .string ⟨#[33]⟩, .slice none 0 0, .int .i64 0, .int .i64 0, .bool false, .bool false, .string ⟨#[]⟩, .string ⟨#[100, 101, 115, 99, 114, 105, 112, 116, 105, 111, 110]⟩, .slice none 0 0, .string ⟨#[83, 116, 114, 105, 110, 103]⟩, .string ⟨#[]⟩, .slice none 0 0, .int .i64 0, .int .i64 0, .bool false, .bool false, .string ⟨#[]⟩, .string ⟨#[97, 114, 103, 115]⟩, .slice none 0 0, .string ⟨#[95, 95, 73, 110, 112, 117, 116, 86, 97, 108, 117, 101]⟩, .string ⟨#[33, 93, 33]⟩, .slice none 0 0, .int .i64 0, .int .i64 0, .bool false, .bool false, .string ⟨#[]⟩, .string ⟨#[116, 121, 112, 101]⟩, .slice none 0 0, .string ⟨#[95, 95, 84, 121, 112, 101]⟩, .string ⟨#[33]⟩, .slice none 0 0, .int .i64 0, .int .i64 0, .bool false, .bool false, .string ⟨#[]⟩, .string ⟨#[105, 115, 68, 101, 112, 114, 101, 99, 97, 116, 101, 100]⟩, .slice none 0 0, .string ⟨#[66, 111, 111, 108, 101, 97, 110]⟩, .string ⟨#[33]⟩, .slice none 0 0, .int .i64 0, .int .i64 0, .bool false, .bool false, .string ⟨#[]⟩, .string ⟨#[100, 101, 112, 114, 101, 99, 97, 116, 105, 111, 110, 82, 101, 97, 115, 111, 110]⟩, .slice none 0 0, .string ⟨#[83, 116, 114, 105, 110, 103]⟩, .string ⟨#[]⟩, .slice none 0 0, .int .i64 0, .int .i64 0] (by kernel_rfl) H ?_; clear H; intro w35 g45 H; obtain ⟨K45, hle36, H, hf3⟩ := H.freezeBox (n := 6) (ls := fieldsL gf3) ((rf_f (rf_f (rf_f (rf_f (rf_f (rf_f (RL.z)))))))) (by simp only [maxLen]; omega); replace h4 := h4.sat hle36; replace hvs := hvs.sat hle36; replace hf0 := hf0.sat hle36; replace hin29 := hin29.sat hle36; replace hin32 := hin32.sat hle36; replace hf1 := hf1.sat hle36; replace ht2 := ht2.sat hle36; replace hf2 := hf2.sat hle36; replace hK := hle36.trans hK)
     | (go_at_call 100; have tk_ := tk37; clear tk_ tk37; have tk44 : True := trivial; refine (object_hp _ _ _ _ _ _ _ _ H).mono ?_; clear H; rintro e x26 ⟨rfl, H⟩)
     | (go_at_call 101; have tk_ := tk38; clear tk_ tk38; have tk39 : True := trivial; refine (field_hp _ _ _ _ _ _ _ H).mono ?_; clear H; rintro e x27 ⟨rfl, H⟩)
     | (go_at_call 101; have tk_ := tk39; clear tk_ tk39; have tk40 : True := trivial; refine (field_hp _ _ _ _ _ _ _ H).mono ?_; clear H; rintro e x28 ⟨rfl, H⟩)
     | (go_at_call 101; have tk_ := tk40; clear tk_ tk40; have tk41 : True := trivial; refine (field_hp _ _ _ _ _ _ _ H).mono ?_; clear H; rintro e x29 ⟨rfl, H⟩)
     | (go_at_call 101; have tk_ := tk41; clear tk_ tk41; have tk45 : True := trivial; refine (field_hp _ _ _ _ _ _ _ H).mono ?_; clear H; rintro e x30 ⟨rfl, H⟩)
     | (refine buildSlice_hp (by rfl) 36 52 4 _ (by rfl) (some 51) (by rfl) Tryz.underlying36 [.bool false, .bool false, .string ⟨#[]⟩, .string ⟨#[110, 97, 109, 101]⟩, .slice none 0 0, .string ⟨#[83, 116, 114, 105, 110, 103]⟩, .string ⟨#[33]⟩, .slice none 0 0, .int .i64 0, .int .i64 0, .bool false, .bool false, .string ⟨#[]⟩, .string ⟨#[100, 101, 115, 99, 114, 105, 112, 116, 105, 111, 110]⟩, .slice none 0 0, .string ⟨#[83, 116, 114, 105, 110, 103]⟩, .string ⟨#[]⟩, .slice none 0 0, .int .i64 0, .int .i64 0, .bool false, .bool false, .string ⟨#[]⟩, .string ⟨#[116, 121, 112, 101]⟩, .slice none 0 0, .string ⟨#[95, 95, 84, 121, 112, 101]⟩, .string ⟨#[33]⟩, .slice none 0 0, .int .i64 0, .int .i64 0, .bool false, .bool false, .string ⟨#[]⟩, .string ⟨#[100, 101, 102, 97, 117, 108, 116, 86, 97, 108, 117, 101]⟩, .slice none 0 0, .string ⟨#[83, 116, 114, 105, 110, 103]⟩, .string ⟨#[]⟩, .slice none 0 0, .int .i64 0, .int .i64 0] (by kernel_rfl) H ?_; clear H; intro w42 g51 H; obtain ⟨K51, hle43, H, hf4⟩ := H.freezeBox (n := 4) (ls := fieldsL gf4) ((rf_f (rf_f (rf_f (rf_f (RL.z)))))) (by simp only [maxLen]; omega); replace h4 := h4.sat hle43; replace hvs := hvs.sat hle43; replace hf0 := hf0.sat hle43; replace hin29 := hin29.sat hle43; replace hin32 := hin32.sat hle43; replace hf1 := hf1.sat hle43; replace ht2 := ht2.sat hle43; replace hf2 := hf2.sat hle43; replace hf3 := hf3.sat hle43; replace hK := hle43.trans hK)
     | (go_at_call 100; have tk_ := tk44; clear tk_ tk44; have tk51 : True := trivial; refine (object_hp _ _ _ _ _ _ _ _ H).mono ?_; clear H; rintro e x31 ⟨rfl, H⟩)
     | (go_at_call 101; have tk_ := tk45; clear tk_ tk45; have tk46 : True := trivial; refine (field_hp _ _ _ _ _ _ _ H).mono ?_; clear H; rintro e x32 ⟨rfl, H⟩)
     | (go_at_call 101; have tk_ := tk46; clear tk_ tk46; have tk47 : True := trivial; refine (field_hp _ _ _ _ _ _ _ H).mono ?_; clear H; rintro e x33 ⟨rfl, H⟩)
     | (go_at_call 101; have tk_ := tk47; clear tk_ tk47; have tk48 : True := trivial; refine (field_hp _ _ _ _ _ _ _ H).mono ?_; clear H; rintro e x34 ⟨rfl, H⟩)
     | (go_at_call 101; have tk_ := tk48; clear tk_ tk48; have tk52 : True := trivial; refine (field_hp _ _ _ _ _ _ _ H).mono ?_; clear H; rintro e x35 ⟨rfl, H⟩)
     | (refine buildSlice_hp (by rfl) 36 52 4 _ (by rfl) (some 57) (by rfl) Tryz.underlying36 [.bool false, .bool false, .string ⟨#[]⟩, .string ⟨#[110, 97, 109, 101]⟩, .slice none 0 0, .string ⟨#[83, 116, 114, 105, 110, 103]⟩, .string ⟨#[33]⟩, .slice none 0 0, .int .i64 0, .int .i64 0, .bool false, .bool false, .string ⟨#[]⟩, .string ⟨#[100, 101, 115, 99, 114, 105, 112, 116, 105, 111, 110]⟩, .slice none 0 0, .string ⟨#[83, 116, 114, 105, 110, 103]⟩, .string ⟨#[]⟩, .slice none 0 0, .int .i64 0, .int .i64 0, .bool false, .bool false, .string ⟨#[]⟩, .string ⟨#[105, 115, 68, 101, 112, 114, 101, 99, 97, 116, 101, 100]⟩, .slice none 0 0, .string ⟨#[66, 111, 111, 108, 101, 97, 110]⟩, .string ⟨#[33]⟩, .slice none 0 0, .int .i64 0, .int .i64 0, .bool false, .bool false, .string ⟨#[]⟩, .string ⟨#[100, 101, 112, 114, 101, 99, 97, 116, 105, 111, 110, 82, 101, 97, 115, 111, 110]⟩, .slice none 0 0, .string ⟨#[83, 116, 114, 105, 110, 103]⟩, .string ⟨#[]⟩, .slice none 0 0, .int .i64 0, .int .i64 0] (by kernel_rfl) H ?_; clear H; intro w49 g57 H; obtain ⟨K57, hle50, H, hf5⟩ := H.freezeBox (n := 4) (ls := fieldsL gf5) ((rf_f (rf_f (rf_f (rf_f (RL.z)))))) (by simp only [maxLen]; omega); replace h4 := h4.sat hle50; replace hvs := hvs.sat hle50; replace hf0 := hf0.sat hle50; replace hin29 := hin29.sat hle50; replace hin32 := hin32.sat hle50; replace hf1 := hf1.sat hle50; replace ht2 := ht2.sat hle50; replace hf2 := hf2.sat hle50; replace hf3 := hf3.sat hle50; replace hf4 := hf4.sat hle50; replace hK := hle50.trans hK)
     | (go_at_call 100; have tk_ := tk51; clear tk_ tk51; have tk59 : True := trivial; refine (object_hp _ _ _ _ _ _ _ _ H).mono ?_; clear H; rintro e x36 ⟨rfl, H⟩)
     | (go_at_call 101; have tk_ := tk52; clear tk_ tk52; have tk53 : True := trivial; refine (field_hp _ _ _ _ _ _ _ H).mono ?_; clear H; rintro e x37 ⟨rfl, H⟩)
     | (go_at_call 101; have tk_ := tk53; clear tk_ tk53; have tk54 : True := trivial; refine (field_hp _ _ _ _ _ _ _ H).mono ?_; clear H; rintro e x38 ⟨rfl, H⟩)
     | (go_at_call 101; have tk_ := tk54; clear tk_ tk54; have tk55 : True := trivial; refine (field_hp _ _ _ _ _ _ _ H).mono ?_; clear H; rintro e x39 ⟨rfl, H⟩)
     | (go_at_call 101; have tk_ := tk55; clear tk_ tk55; have tk56 : True := trivial; refine (field_hp _ _ _ _ _ _ _ H).mono ?_; clear H; rintro e x40 ⟨rfl, H⟩)
     | (go_at_call 101; have tk_ := tk56; clear tk_ tk56; refine (field_hp _ _ _ _ _ _ _ H).mono ?_; clear H; rintro e x41 ⟨rfl, H⟩)
     | (refine buildSlice_hp (by rfl) 36 52 5 _ (by rfl) (some 64) (by rfl) Tryz.underlying36 [.bool false, .bool false, .string ⟨#[]⟩, .string ⟨#[110, 97, 109, 101]⟩, .slice none 0 0, .string ⟨#[83, 116, 114, 105, 110, 103]⟩, .string ⟨#[33]⟩, .slice none 0 0, .int .i64 0, .int .i64 0, .bool false, .bool false, .string ⟨#[]⟩, .string ⟨#[100, 101, 115, 99, 114, 105, 112, 116, 105, 111, 110]⟩, .slice none 0 0, .string ⟨#[83, 116, 114, 105, 110, 103]⟩, .string ⟨#[]⟩, .slice none 0 0, .int .i64 0, .int .i64 0, .bool false, .bool false, .string ⟨#[]⟩, .string ⟨#[108, 111, 99, 97, 116, 105, 111, 110, 115]⟩, .slice none 0 0, .string ⟨#[95, 95, 68, 105, 114, 101, 99, 116, 105, 118, 101, 76, 111, 99, 97, 116, 105, 111, 110]⟩, .string ⟨#[33, 93, 33]⟩, .slice none 0 0, .int .i64 0, .int .i64 0, .bool false, .bool false, .string ⟨#[]⟩, .string ⟨#[97, 114, 103, 115]⟩, .slice none 0 0, .string ⟨#[95, 95, 73, 110, 112, 117, 116, 86, 97, 108, 117, 101]⟩, .string ⟨#[33, 93, 33]⟩, .slice none 0 0, .int .i64 0, .int .i64 0, .bool false, .bool false, .string ⟨#[]⟩, .string ⟨#[105, 115, 82, 101, 112, 101, 97, 116, 97, 98, 108, 101]⟩, .slice none 0 0, .string ⟨#[66, 111, 111, 108, 101, 97, 110]⟩, .string ⟨#[33]⟩, .slice none 0 0, .int .i64 0, .int .i64 0] (by kernel_rfl) H ?_; clear H; intro w57 g64 H; obtain ⟨K64, hle58, H, hf6⟩ := H.freezeBox (n := 5) (ls := fieldsL gf6) ((rf_f (rf_f (rf_f (rf_f (rf_f (RL.z))))))) (by simp only [maxLen]; omega); replace h4 := h4.sat hle58; replace hvs := hvs.sat hle58; replace hf0 := hf0.sat hle58; replace hin29 := hin29.sat hle58; replace hin32 := hin32.sat hle58; replace hf1 := hf1.sat hle58; replace ht2 := ht2.sat hle58; replace hf2 := hf2.sat hle58; replace hf3 := hf3.sat hle58; replace hf4 := hf4.sat hle58; replace hf5 := hf5.sat hle58; replace hK := hle58.trans hK)
     | (go_at_call 100; have tk_ := tk59; clear tk_ tk59; refine (object_hp _ _ _ _ _ _ _ _ H).mono ?_; clear H; rintro e x42 ⟨rfl, H⟩)
     | (refine buildSlice_hp (by rfl) 27 9 19 _ (by rfl) (some 66) (by rfl) Tryz.underlying27 [.string ⟨#[81, 85, 69, 82, 89]⟩, .string ⟨#[77, 85, 84, 65, 84, 73, 79, 78]⟩, .string ⟨#[83, 85, 66, 83, 67, 82, 73, 80, 84, 73, 79, 78]⟩, .string ⟨#[70, 73, 69, 76, 68]⟩, .string ⟨#[70, 82, 65, 71, 77, 69, 78, 84, 95, 68, 69, 70, 73, 78, 73, 84, 73, 79, 78]⟩, .string ⟨#[70, 82, 65, 71, 77, 69, 78, 84, 95, 83, 80, 82, 69, 65, 68]⟩, .string ⟨#[73, 78, 76, 73, 78, 69, 95, 70, 82, 65, 71, 77, 69, 78, 84]⟩, .string ⟨#[86, 65, 82, 73, 65, 66, 76, 69, 95, 68, 69, 70, 73, 78, 73, 84, 73, 79, 78]⟩, .string ⟨#[83, 67, 72, 69, 77, 65]⟩, .string ⟨#[83, 67, 65, 76, 65, 82]⟩, .string ⟨#[79, 66, 74, 69, 67, 84]⟩, .string ⟨#[70, 73, 69, 76, 68, 95, 68, 69, 70, 73, 78, 73, 84, 73, 79, 78]⟩, .string ⟨#[65, 82, 71, 85, 77, 69, 78, 84, 95, 68, 69, 70, 73, 78, 73, 84, 73, 79, 78]⟩, .string ⟨#[73, 78, 84, 69, 82, 70, 65, 67, 69]⟩, .string ⟨#[85, 78, 73, 79, 78]⟩, .string ⟨#[69, 78, 85, 77]⟩, .string ⟨#[69, 78, 85, 77, 95, 86, 65, 76, 85, 69]⟩, .string ⟨#[73, 78, 80, 85, 84, 95, 79, 66, 74, 69, 67, 84]⟩, .string ⟨#[73, 78, 80, 85, 84, 95, 70, 73, 69, 76, 68, 95, 68, 69, 70, 73, 78, 73, 84, 73, 79, 78]⟩] (by kernel_rfl) H ?_; clear H; intro w60 g66 H; obtain ⟨K66, hle61, H, ht7⟩ := H.freezeBox (n := 19) (ls := textsL ge7) ((rt_s (rt_s (rt_s (rt_s (rt_s (rt_s (rt_s (rt_s (rt_s (rt_s (rt_s (rt_s (rt_s (rt_s (rt_s (rt_s (rt_s (rt_s (rt_s (RL.z))))))))))))))))))))) (by simp only [maxLen]; omega); replace h4 := h4.sat hle61; replace hvs := hvs.sat hle61; replace hf0 := hf0.sat hle61; replace hin29 := hin29.sat hle61; replace hin32 := hin32.sat hle61; replace hf1 := hf1.sat hle61; replace ht2 := ht2.sat hle61; replace hf2 := hf2.sat hle61; replace hf3 := hf3.sat hle61; replace hf4 := hf4.sat hle61; replace hf5 := hf5.sat hle61; replace hf6 := hf6.sat hle61; replace hK := hle61.trans hK)
     | (go_at_call 103; have tk_ := tk62; clear tk_ tk62; refine (enum_hp _ ge7 19 19 _ _ _ _ _ H rfl (by omega) ht7).mono ?_; clear H; rintro e x43 ⟨K67, B67, c67, rfl, hle67, H, hf7⟩; replace h4 := h4.sat hle67; replace hvs := hvs.sat hle67; replace hf0 := hf0.sat hle67; replace hin29 := hin29.sat hle67; replace hin32 := hin32.sat hle67; replace hf1 := hf1.sat hle67; replace ht2 := ht2.sat hle67; replace hf2 := hf2.sat hle67; replace hf3 := hf3.sat hle67; replace hf4 := hf4.sat hle67; replace hf5 := hf5.sat hle67; replace hf6 := hf6.sat hle67; replace ht7 := ht7.sat hle67; replace hK := hle67.trans hK)
     | (refine buildSlice_hp (by rfl) 22 43 8 _ (by rfl) (some 68) (by rfl) Tryz.underlying22 [.int .i64 3, .bool false, .bool false, .bool false, .string ⟨#[]⟩, .string ⟨#[95, 95, 83, 99, 104, 101, 109, 97]⟩, .slice none 0 0, .slice none 0 0, .slice (some ⟨g23, 0, none⟩) 6 6, .slice none 0 0, .slice none 0 0, .slice none 0 0, .slice none 0 0, .bool false, .slice none 0 0, .int .i64 0, .int .i64 0, .int .i64 3, .bool false, .bool false, .bool false, .string ⟨#[]⟩, .string ⟨#[95, 95, 84, 121, 112, 101]⟩, .slice none 0 0, .slice none 0 0, .slice (some ⟨g35, 0, none⟩) 10 10, .slice none 0 0, .slice none 0 0, .slice none 0 0, .slice none 0 0, .bool false, .slice none 0 0, .int .i64 0, .int .i64 0, .int .i64 6, .bool false, .bool false, .bool false, .string ⟨#[]⟩, .string ⟨#[95, 95, 84, 121, 112, 101, 75, 105, 110, 100]⟩, .slice none 0 0, .slice none 0 0, .slice none 0 0, .slice none 0 0, .slice none 0 0, .slice B38 8 c38, .slice none 0 0, .bool false, .slice none 0 0, .int .i64 0, .int .i64 0, .int .i64 3, .bool false, .bool false, .bool false, .string ⟨#[]⟩, .string ⟨#[95, 95, 70, 105, 101, 108, 100]⟩, .slice none 0 0, .slice none 0 0, .slice (some ⟨g45, 0, none⟩) 6 6, .slice none 0 0, .slice none 0 0, .slice none 0 0, .slice none 0 0, .bool false, .slice none 0 0, .int .i64 0, .int .i64 0, .int .i64 3, .bool false, .bool false, .bool false, .string ⟨#[]⟩, .string ⟨#[95, 95, 73, 110, 112, 117, 116, 86, 97, 108, 117, 101]⟩, .slice none 0 0, .slice none 0 0, .slice (some ⟨g51, 0, none⟩) 4 4, .slice none 0 0, .slice none 0 0, .slice none 0 0, .slice none 0 0, .bool false, .slice none 0 0, .int .i64 0, .int .i64 0, .int .i64 3, .bool false, .bool false, .bool false, .string ⟨#[]⟩, .string ⟨#[95, 95, 69, 110, 117, 109, 86, 97, 108, 117, 101]⟩, .slice none 0 0, .slice none 0 0, .slice (some ⟨g57, 0, none⟩) 4 4, .slice none 0 0, .slice none 0 0, .slice none 0 0, .slice none 0 0, .bool false, .slice none 0 0, .int .i64 0, .int .i64 0, .int .i64 3, .bool false, .bool false, .bool false, .string ⟨#[]⟩, .string ⟨#[95, 95, 68, 105, 114, 101, 99, 116, 105, 118, 101]⟩, .slice none 0 0, .slice none 0 0, .slice (some ⟨g64, 0, none⟩) 5 5, .slice none 0 0, .slice none 0 0, .slice none 0 0, .slice none 0 0, .bool false, .slice none 0 0, .int .i64 0, .int .i64 0, .int .i64 6, .bool false, .bool false, .bool false, .string ⟨#[]⟩, .string ⟨#[95, 95, 68, 105, 114, 101, 99, 116, 105, 118, 101, 76, 111, 99, 97, 116, 105, 111, 110]⟩, .slice none 0 0, .slice none 0 0, .slice none 0 0, .slice none 0 0, .slice none 0 0, .slice B67 19 c67, .slice none 0 0, .bool false, .slice none 0 0, .int .i64 0, .int .i64 0] (by kernel_rfl) H ?_; clear H; intro w63 g68 H)
     | (at_builtin; refine append_hp (by rfl) _ _ 22 (by rfl) 43 k0 _ 17 272 Tryz.underlying22 hk0 k0z k0s k0b (by rfl) (by decide) H 1 (.slice Av 5 cv) (5) (vs) (by rfl) (by first | rfl | simp [Act.eval, Act.put]) (some ⟨g68, 0, none⟩) 8 8 [.int .i64 3, .bool false, .bool false, .bool false, .string ⟨#[]⟩, .string ⟨#[95, 95, 83, 99, 104, 101, 109, 97]⟩, .slice none 0 0, .slice none 0 0, .slice (some ⟨g23, 0, none⟩) 6 6, .slice none 0 0, .slice none 0 0, .slice none 0 0, .slice none 0 0, .bool false, .slice none 0 0, .int .i64 0, .int .i64 0, .int .i64 3, .bool false, .bool false, .bool false, .string ⟨#[]⟩, .string ⟨#[95, 95, 84, 121, 112, 101]⟩, .slice none 0 0, .slice none 0 0, .slice (some ⟨g35, 0, none⟩) 10 10, .slice none 0 0, .slice none 0 0, .slice none 0 0, .slice none 0 0, .bool false, .slice none 0 0, .int .i64 0, .int .i64 0, .int .i64 6, .bool false, .bool false, .bool false, .string ⟨#[]⟩, .string ⟨#[95, 95, 84, 121, 112, 101, 75, 105, 110, 100]⟩, .slice none 0 0, .slice none 0 0, .slice none 0 0, .slice none 0 0, .slice none 0 0, .slice B38 8 c38, .slice none 0 0, .bool false, .slice none 0 0, .int .i64 0, .int .i64 0, .int .i64 3, .bool false, .bool false, .bool false, .string ⟨#[]⟩, .string ⟨#[95, 95, 70, 105, 101, 108, 100]⟩, .slice none 0 0, .slice none 0 0, .slice (some ⟨g45, 0, none⟩) 6 6, .slice none 0 0, .slice none 0 0, .slice none 0 0, .slice none 0 0, .bool false, .slice none 0 0, .int .i64 0, .int .i64 0, .int .i64 3, .bool false, .bool false, .bool false, .string ⟨#[]⟩, .string ⟨#[95, 95, 73, 110, 112, 117, 116, 86, 97, 108, 117, 101]⟩, .slice none 0 0, .slice none 0 0, .slice (some ⟨g51, 0, none⟩) 4 4, .slice none 0 0, .slice none 0 0, .slice none 0 0, .slice none 0 0, .bool false, .slice none 0 0, .int .i64 0, .int .i64 0, .int .i64 3, .bool false, .bool false, .bool false, .string ⟨#[]⟩, .string ⟨#[95, 95, 69, 110, 117, 109, 86, 97, 108, 117, 101]⟩, .slice none 0 0, .slice none 0 0, .slice (some ⟨g57, 0, none⟩) 4 4, .slice none 0 0, .slice none 0 0, .slice none 0 0, .slice none 0 0, .bool false, .slice none 0 0, .int .i64 0, .int .i64 0, .int .i64 3, .bool false, .bool false, .bool false, .string ⟨#[]⟩, .string ⟨#[95, 95, 68, 105, 114, 101, 99, 116, 105, 118, 101]⟩, .slice none 0 0, .slice none 0 0, .slice (some ⟨g64, 0, none⟩) 5 5, .slice none 0 0, .slice none 0 0, .slice none 0 0, .slice none 0 0, .bool false, .slice none 0 0, .int .i64 0, .int .i64 0, .int .i64 6, .bool false, .bool false, .bool false, .string ⟨#[]⟩, .string ⟨#[95, 95, 68, 105, 114, 101, 99, 116, 105, 118, 101, 76, 111, 99, 97, 116, 105, 111, 110]⟩, .slice none 0 0, .slice none 0 0, .slice none 0 0, .slice none 0 0, .slice none 0 0, .slice B67 19 c67, .slice none 0 0, .bool false, .slice none 0 0, .int .i64 0, .int .i64 0] (by first | rfl | simp [Act.eval, Act.put]) (by rfl) (H.rd (i := 0) rfl) (by simp [Value.oneCell']) (by simp only [maxLen]; omega) (by omega) ?_; clear H; intro V2 w9 H; replace H : Hp w0 w9 K67 (.box g68 [.int .i64 3, .bool false, .bool false, .bool false, .string ⟨#[]⟩, .string ⟨#[95, 95, 83, 99, 104, 101, 109, 97]⟩, .slice none 0 0, .slice none 0 0, .slice (some ⟨g23, 0, none⟩) 6 6, .slice none 0 0, .slice none 0 0, .slice none 0 0, .slice none 0 0, .bool false, .slice none 0 0, .int .i64 0, .int .i64 0, .int .i64 3, .bool false, .bool false, .bool false, .string ⟨#[]⟩, .string ⟨#[95, 95, 84, 121, 112, 101]⟩, .slice none 0 0, .slice none 0 0, .slice (some ⟨g35, 0, none⟩) 10 10, .slice none 0 0, .slice none 0 0, .slice none 0 0, .slice none 0 0, .bool false, .slice none 0 0, .int .i64 0, .int .i64 0, .int .i64 6, .bool false, .bool false, .bool false, .string ⟨#[]⟩, .string ⟨#[95, 95, 84, 121, 112, 101, 75, 105, 110, 100]⟩, .slice none 0 0, .slice none 0 0, .slice none 0 0, .slice none 0 0, .slice none 0 0, .slice B38 8 c38, .slice none 0 0, .bool false, .slice none 0 0, .int .i64 0, .int .i64 0, .int .i64 3, .bool false, .bool false, .bool false, .string ⟨#[]⟩, .string ⟨#[95, 95, 70, 105, 101, 108, 100]⟩, .slice none 0 0, .slice none 0 0, .slice (some ⟨g45, 0, none⟩) 6 6, .slice none 0 0, .slice none 0 0, .slice none 0 0, .slice none 0 0, .bool false, .slice none 0 0, .int .i64 0, .int .i64 0, .int .i64 3, .bool false, .bool false, .bool false, .string ⟨#[]⟩, .string ⟨#[95, 95, 73, 110, 112, 117, 116, 86, 97, 108, 117, 101]⟩, .slice none 0 0, .slice none 0 0, .slice (some ⟨g51, 0, none⟩) 4 4, .slice none 0 0, .slice none 0 0, .slice none 0 0, .slice none 0 0, .bool false, .slice none 0 0, .int .i64 0, .int .i64 0, .int .i64 3, .bool false, .bool false, .bool false, .string ⟨#[]⟩, .string ⟨#[95, 95, 69, 110, 117, 109, 86, 97, 108, 117, 101]⟩, .slice none 0 0, .slice none 0 0, .slice (some ⟨g57, 0, none⟩) 4 4, .slice none 0 0, .slice none 0 0, .slice none 0 0, .slice none 0 0, .bool false, .slice none 0 0, .int .i64 0, .int .i64 0, .int .i64 3, .bool false, .bool false, .bool false, .string ⟨#[]⟩, .string ⟨#[95, 95, 68, 105, 114, 101, 99, 116, 105, 118, 101]⟩, .slice none 0 0, .slice none 0 0, .slice (some ⟨g64, 0, none⟩) 5 5, .slice none 0 0, .slice none 0 0, .slice none 0 0, .slice none 0 0, .bool false, .slice none 0 0, .int .i64 0, .int .i64 0, .int .i64 6, .bool false, .bool false, .bool false, .string ⟨#[]⟩, .string ⟨#[95, 95, 68, 105, 114, 101, 99, 116, 105, 118, 101, 76, 111, 99, 97, 116, 105, 111, 110]⟩, .slice none 0 0, .slice none 0 0, .slice none 0 0, .slice none 0 0, .slice none 0 0, .slice B67 19 c67, .slice none 0 0, .bool false, .slice none 0 0, .int .i64 0, .int .i64 0] 43 :: .row 43 17 (V2) (5 + 8) (vs ++ [.int .i64 3, .bool false, .bool false, .bool false, .string ⟨#[]⟩, .string ⟨#[95, 95, 83, 99, 104, 101, 109, 97]⟩, .slice none 0 0, .slice none 0 0, .slice (some ⟨g23, 0, none⟩) 6 6, .slice none 0 0, .slice none 0 0, .slice none 0 0, .slice none 0 0, .bool false, .slice none 0 0, .int .i64 0, .int .i64 0, .int .i64 3, .bool false, .bool false, .bool false, .string ⟨#[]⟩, .string ⟨#[95, 95, 84, 121, 112, 101]⟩, .slice none 0 0, .slice none 0 0, .slice (some ⟨g35, 0, none⟩) 10 10, .slice none 0 0, .slice none 0 0, .slice none 0 0, .slice none 0 0, .bool false, .slice none 0 0, .int .i64 0, .int .i64 0, .int .i64 6, .bool false, .bool false, .bool false, .string ⟨#[]⟩, .string ⟨#[95, 95, 84, 121, 112, 101, 75, 105, 110, 100]⟩, .slice none 0 0, .slice none 0 0, .slice none 0 0, .slice none 0 0, .slice none 0 0, .slice B38 8 c38, .slice none 0 0, .bool false, .slice none 0 0, .int .i64 0, .int .i64 0, .int .i64 3, .bool false, .bool false, .bool false, .string ⟨#[]⟩, .string ⟨#[95, 95, 70, 105, 101, 108, 100]⟩, .slice none 0 0, .slice none 0 0, .slice (some ⟨g45, 0, none⟩) 6 6, .slice none 0 0, .slice none 0 0, .slice none 0 0, .slice none 0 0, .bool false, .slice none 0 0, .int .i64 0, .int .i64 0, .int .i64 3, .bool false, .bool false, .bool false, .string ⟨#[]⟩, .string ⟨#[95, 95, 73, 110, 112, 117, 116, 86, 97, 108, 117, 101]⟩, .slice none 0 0, .slice none 0 0, .slice (some ⟨g51, 0, none⟩) 4 4, .slice none 0 0, .slice none 0 0, .slice none 0 0, .slice none 0 0, .bool false, .slice none 0 0, .int .i64 0, .int .i64 0, .int .i64 3, .bool false, .bool false, .bool false, .string ⟨#[]⟩, .string ⟨#[95, 95, 69, 110, 117, 109, 86, 97, 108, 117, 101]⟩, .slice none 0 0, .slice none 0 0, .slice (some ⟨g57, 0, none⟩) 4 4, .slice none 0 0, .slice none 0 0, .slice none 0 0, .slice none 0 0, .bool false, .slice none 0 0, .int .i64 0, .int .i64 0, .int .i64 3, .bool false, .bool false, .bool false, .string ⟨#[]⟩, .string ⟨#[95, 95, 68, 105, 114, 101, 99, 116, 105, 118, 101]⟩, .slice none 0 0, .slice none 0 0, .slice (some ⟨g64, 0, none⟩) 5 5, .slice none 0 0, .slice none 0 0, .slice none 0 0, .slice none 0 0, .bool false, .slice none 0 0, .int .i64 0, .int .i64 0, .int .i64 6, .bool false, .bool false, .bool false, .string ⟨#[]⟩, .string ⟨#[95, 95, 68, 105, 114, 101, 99, 116, 105, 118, 101, 76, 111, 99, 97, 116, 105, 111, 110]⟩, .slice none 0 0, .slice none 0 0, .slice none 0 0, .slice none 0 0, .slice none 0 0, .slice B67 19 c67, .slice none 0 0, .bool false, .slice none 0 0, .int .i64 0, .int .i64 0]) :: M) := H; obtain ⟨V2A, V2c, rfl, V2l, V2m⟩ := H.slice (i := 1) rfl))
    replace H := H.sub (List.Sublist.cons _ (List.Sublist.cons_cons _ (List.Sublist.refl _)))
    have hall := hvs.app (rd_ob (s := [95, 95, 83, 99, 104, 101, 109, 97]) (l := gf0) (rd_ob (s := [95, 95, 84, 121, 112, 101]) (l := gf1) (rd_en (s := [95, 95, 84, 121, 112, 101, 75, 105, 110, 100]) (l := ge2) (rd_ob (s := [95, 95, 70, 105, 101, 108, 100]) (l := gf3) (rd_ob (s := [95, 95, 73, 110, 112, 117, 116, 86, 97, 108, 117, 101]) (l := gf4) (rd_ob (s := [95, 95, 69, 110, 117, 109, 86, 97, 108, 117, 101]) (l := gf5) (rd_ob (s := [95, 95, 68, 105, 114, 101, 99, 116, 105, 118, 101]) (l := gf6) (rd_en (s := [95, 95, 68, 105, 114, 101, 99, 116, 105, 118, 101, 76, 111, 99, 97, 116, 105, 111, 110]) (l := ge7) rd_nil hf7) hf6) hf5) hf4) hf3) hf2) hf1) hf0)
    have hlen : givenT.length = 13 := rfl
    obtain ⟨K', hle, H, hv⟩ := H.freezeRow hall
    go_ret
    exact ⟨K', _, _, rfl, hle.trans hK, H, hv_of hv⟩
end Go.Proofs.YtbpgkkoeehopjaaGreat.hp
namespace Go.Proofs.YtbpgkkoeehopjaaGreat.hp
open Go.RowKit Go.Proofs.YtbpgkkoeehopjaaGreat.words Go.Proofs.YtbpgkkoeehopjaaGreat.tree Go.Proofs.YtbpgkkoeehopjaaGreat.dat Go.Proofs.YtbpgkkoeehopjaaGreat.held
section
variable {P : Program} {w0 K0 : World} {M : List Ent} {Q : Exit → Act → World → Prop} {l : List Oper} {a0 : Act} {R : Tmp → World → Value → Prop}
def Has (l : List Oper) (listed : Array Bool) (t : Tmp) : Prop := ∃ j o, l[j]? = some o ∧ o.dst = some t ∧ listed.getD j false = true
structure Inv (w0 K0 : World) (M : List Ent) (l : List Oper) (a0 : Act) (R : Tmp → World → Value → Prop) (listed : Array Bool) (a : Act) (w K : World) : Prop where
 le : Sat K K0
 hp : Hp w0 w K M
 defers : a.defers = a0.defers
 size : a.tmps.size = a0.tmps.size
 has : ∀ t, Has l listed t → R t K (a.tmps.getD t undef)
 old : ∀ t, ¬ Has l listed t → a.tmps.getD t undef = a0.tmps.getD t undef
def Law (P : Program) (w0 K0 : World) (M : List Ent) (Q : Exit → Act → World → Prop) (l : List Oper) (a0 : Act) (R : Tmp → World → Value → Prop) (o : Oper) : Prop :=
 ∀ (a : Act) (w K : World), Sat K K0 → Hp w0 w K M → (∀ j t, (o.after.toList.any fun e => e.on == j && Region.binds .any e) = true → (l[j]?).bind (·.dst) = some t → R t K (a.tmps.getD t undef)) → (∀ t, (l.all fun p => p.dst != some t) = true → a.tmps.getD t undef = a0.tmps.getD t undef) →
  ∀ Kc : Act → World → Prop, (∀ v w' K', Sat K' K → Hp w0 w' K' M → (∀ t, o.dst = some t → R t K' v) → Kc (a.put o.dst v) w') → if Region.wanted o (yielded l.toArray a.tmps) = true then Oper.wp P o a w Kc Q else Kc (a.put o.dst undef) w
def acycB (l : List Oper) : Bool := l.zipIdx.all fun p => p.1.after.toList.all fun e => decide (e.on < p.2)
def dstB (l : List Oper) (n : Nat) : Bool := l.all fun o => match o.dst with | some t => decide (t < n) | none => true
def unB : List Oper → Bool
 | [] => true
 | o :: r => (r.all fun p => match o.dst with | some t => p.dst != some t | none => true) && unB r
theorem acyc_spec (h : acycB l = true) : ∀ (j : Nat) (o : Oper), l[j]? = some o → ∀ e ∈ o.after, Region.binds .any e = true → e.on < j := fun j o hj e he _ => by
 have := List.all_eq_true.1 h (o, j) (List.mem_zipIdx_iff_getElem?.2 hj)
 have := List.all_eq_true.1 this e (by simpa using he)
 exact of_decide_eq_true this
theorem dst_spec {n : Nat} (h : dstB l n = true) : ∀ o ∈ l, ∀ t, o.dst = some t → t < n := fun o ho t ht => by
 have := List.all_eq_true.1 h o ho
 simpa [ht] using this
theorem un_spec : ∀ {l : List Oper}, unB l = true → ∀ (i j : Nat) (o p : Oper) (t : Tmp), l[i]? = some o → l[j]? = some p → o.dst = some t → p.dst = some t → i = j
 | [], _, i, j, o, p, t, h1, _, _, _ => by simp at h1
 | q :: r, h, i, j, o, p, t, h1, h2, h3, h4 => by
  simp only [unB, Bool.and_eq_true] at h
  have far : ∀ (x : Oper), x ∈ r → q.dst = some t → x.dst ≠ some t := fun x hx hq he => by
   have := List.all_eq_true.1 h.1 x hx
   simp [hq, he] at this
  cases i with
  | zero =>
   simp only [List.getElem?_cons_zero, Option.some.injEq] at h1
   subst h1
   cases j with
   | zero => rfl
   | succ j => exact absurd h4 (far p (List.mem_of_getElem? (by simpa using h2)) h3)
  | succ i =>
   cases j with
   | zero =>
    simp only [List.getElem?_cons_zero, Option.some.injEq] at h2
    subst h2
    exact absurd h3 (far o (List.mem_of_getElem? (by simpa using h1)) h4)
   | succ j => rw [un_spec h.2 i j o p t (by simpa using h1) (by simpa using h2) h3 h4]
theorem any_law (hm : P.follows .mixedOrders = true) (hac : acycB l = true) (hdst : dstB l a0.tmps.size = true) (hun : unB l = true)
  (hR : ∀ t K K' v, Sat K' K → R t K v → R t K' v) (laws : ∀ o ∈ l, Law P w0 K0 M Q l a0 R o) {w : World} {id : Nat} (H : Hp w0 w K0 M)
  (hend : ∀ a' w' K', Sat K' K0 → Hp w0 w' K' M → a'.defers = a0.defers → a'.tmps.size = a0.tmps.size → (∀ t, (l.any fun p => p.dst == some t) = true → R t K' (a'.tmps.getD t undef)) → (∀ t, (l.all fun p => p.dst != some t) = true → a'.tmps.getD t undef = a0.tmps.getD t undef) → Q .normal a' w') :
  (Code.region id l.toArray true).wp P Q a0 w := by
 refine wp_region_any hm ?_
 have hac := acyc_spec hac
 have hdst := dst_spec hdst
 have hun := un_spec hun
 have fin : ∀ listed a w K, Inv w0 K0 M l a0 R listed a w K → (∀ j, j < l.length → listed.getD j false = true) → Q .normal a w := fun listed a w K h hall => by
  refine hend a w K h.le h.hp h.defers h.size (fun t ht => ?_) (fun t ht => h.old t (fun ⟨j, p, h1, h2, _⟩ => by have := List.all_eq_true.1 ht p (List.mem_of_getElem? h1); simp [h2] at this))
  obtain ⟨o, ho, ht⟩ := List.any_eq_true.1 ht
  obtain ⟨j, hj, rfl⟩ := List.getElem_of_mem ho
  exact h.has t ⟨j, _, List.getElem?_eq_getElem hj, by simpa using ht, hall j hj⟩
 have none_ready : ∀ listed : Array Bool, listed.size = l.length → Region.ready .any l.toArray listed = [] → ∀ j, j < l.length → listed.getD j false = true := by
  intro listed hs hr j
  induction j using Nat.strongRecOn with
  | _ j ih =>
   intro hj
   cases hb : listed.getD j false with
   | true => rfl
   | false =>
    have hmem : j ∈ Region.ready .any l.toArray listed := by
     refine mem_ready.2 ⟨?_, l[j], by simp [hj], fun e he hbd => ?_⟩
     · rw [Array.getD_eq_getD_getElem?] at hb ⊢
       rw [Array.getElem?_eq_getElem (by omega)] at hb ⊢
       exact hb
     · have hlt := hac j _ (List.getElem?_eq_getElem hj) e he hbd
       exact ih e.on hlt (by omega)
    rw [hr] at hmem
    cases hmem
 have main : ∀ (fuel : Nat) (listed : Array Bool) (a : Act) (w K : World), listed.size = l.length → (listed.toList.filter (· = false)).length ≤ fuel → Inv w0 K0 M l a0 R listed a w K → wpAny P .any l.toArray Q fuel listed a w := by
  intro fuel
  induction fuel with
  | zero =>
   intro listed a w K hs hc h
   have hall : ∀ j, j < l.length → listed.getD j false = true := by
    intro j hj
    have h0 : listed.toList.filter (· = false) = [] := List.eq_nil_of_length_eq_zero (by omega)
    rw [List.filter_eq_nil_iff] at h0
    have hm : listed[j]'(by omega) ∈ listed.toList := by simp
    have := h0 _ hm
    rw [Array.getD_eq_getD_getElem?, Array.getElem?_eq_getElem (by omega)]
    simpa using this
   refine ⟨?_, fin listed a w K h hall⟩
   cases hr : Region.ready .any l.toArray listed with
   | nil => rfl
   | cons i r =>
    obtain ⟨hun, o, ho, _⟩ := mem_ready.1 (show i ∈ Region.ready .any l.toArray listed by rw [hr]; exact List.mem_cons_self ..)
    have hil : i < l.length := by have := (Array.getElem?_eq_some_iff.1 ho).1; simpa using this
    have := hall i hil
    rw [Array.getD_eq_getD_getElem?, Array.getElem?_eq_getElem (by omega)] at this hun
    simp at this hun
    rw [this] at hun
    cases hun
  | succ fuel ih =>
   intro listed a w K hs hc h
   refine ⟨fun hr => fin listed a w K h (none_ready listed hs hr), fun i hi => ?_⟩
   obtain ⟨hil, o, ho, hall⟩ := mem_ready.1 hi
   have hlt : i < l.length := by have := (Array.getElem?_eq_some_iff.1 ho).1; simpa using this
   have ho' : l[i]? = some o := by simpa using ho
   refine wpOp_step ho (fun K' hK => ?_)
   refine laws o (List.mem_of_getElem? ho') a w K h.le h.hp (fun j t hany ht => ?_) (fun t ht => h.old t (fun ⟨j, p, h1, h2, _⟩ => by have := List.all_eq_true.1 ht p (List.mem_of_getElem? h1); simp [h2] at this)) K' (fun v w' K1 hle H1 hv => hK _ _ ?_)
   · obtain ⟨e, he, hb⟩ := List.any_eq_true.1 hany
     simp only [Bool.and_eq_true, beq_iff_eq] at hb
     obtain ⟨rfl, hb⟩ := hb
     have hl := hall e (by simpa using he) hb
     cases hq : l[e.on]? with
     | none => rw [hq] at ht; cases ht
     | some p => rw [hq] at ht; exact h.has t ⟨e.on, p, hq, ht, hl⟩
   · refine ih (listed.setIfInBounds i true) _ _ K1 (by simpa using hs) ?_ ⟨hle.trans h.le, H1, ?_, ?_, ?_, ?_⟩
     · have hi2 : i < listed.size := by omega
       have hf : listed[i] = false := by
        rw [Array.getD_eq_getD_getElem?, Array.getElem?_eq_getElem hi2] at hil
        simpa using hil
       have hsp : listed.toList = listed.toList.take i ++ false :: listed.toList.drop (i + 1) := by
        have h1 : listed.toList[i]'(by simpa using hi2) = false := by simpa using hf
        conv => lhs; rw [← List.take_append_drop i listed.toList, List.drop_eq_getElem_cons (by simpa using hi2), h1]
       have hset : (listed.setIfInBounds i true).toList = listed.toList.take i ++ true :: listed.toList.drop (i + 1) := by
        rw [Array.toList_setIfInBounds, List.set_eq_take_append_cons_drop, if_pos (by simpa using hi2)]
       rw [hset]
       rw [hsp] at hc
       simp only [List.filter_append, List.length_append, List.filter_cons] at hc ⊢
       simp at hc ⊢
       omega
     · cases o.dst <;> exact h.defers
     · cases o.dst with
       | none => exact h.size
       | some d => simp only [Act.put]; rw [Array.size_setIfInBounds]; exact h.size
     · rintro t ⟨j, p, h1, h2, h3⟩
       by_cases hji : i = j
       · subst hji
         rw [ho'] at h1
         injection h1 with h1
         subst h1
         have hts := hdst o (List.mem_of_getElem? ho') t h2
         have hget : (a.put o.dst v).tmps.getD t undef = v := by
          rw [h2]; simp only [Act.put]
          rw [Array.getD_eq_getD_getElem?, Array.getElem?_setIfInBounds_self_of_lt (by rw [h.size]; exact hts)]
          rfl
         rw [hget]
         exact hv t h2
       · have hne : o.dst ≠ some t := fun e => hji (hun i j o p t ho' h1 e h2)
         have hget : (a.put o.dst v).tmps.getD t undef = a.tmps.getD t undef := by
          cases hd : o.dst with
          | none => rfl
          | some d =>
           have hdt : d ≠ t := fun e => hne (by rw [hd, e])
           simp only [Act.put]
           rw [Array.getD_eq_getD_getElem?, Array.getElem?_setIfInBounds_ne hdt, ← Array.getD_eq_getD_getElem?]
         rw [hget]
         refine hR t K K1 _ hle (h.has t ⟨j, p, h1, h2, ?_⟩)
         rw [getD_set_ne false hji] at h3
         exact h3
     · intro t ht
       have hne : o.dst ≠ some t := fun e => ht ⟨i, o, ho', e, by rw [Array.getD_eq_getD_getElem?, Array.getElem?_setIfInBounds_self_of_lt (by omega)]; rfl⟩
       have hget : (a.put o.dst v).tmps.getD t undef = a.tmps.getD t undef := by
        cases hd : o.dst with
        | none => rfl
        | some d =>
         have hdt : d ≠ t := fun e => hne (by rw [hd, e])
         simp only [Act.put]
         rw [Array.getD_eq_getD_getElem?, Array.getElem?_setIfInBounds_ne hdt, ← Array.getD_eq_getD_getElem?]
       rw [hget]
       refine h.old t (fun ⟨j, p, h1, h2, h3⟩ => ht ⟨j, p, h1, h2, ?_⟩)
       by_cases hji : i = j
       · subst hji
         rw [Array.getD_eq_getD_getElem?, Array.getElem?_setIfInBounds_self_of_lt (by omega)]; rfl
       · rw [getD_set_ne false hji]; exact h3
 refine main _ _ a0 w.drew K0 (by simp) ?_ ⟨Sat.refl _, H.drew1, rfl, rfl, ?_, fun _ _ => rfl⟩
 · exact Nat.le_trans (List.length_filter_le _ _) (by simp)
 · rintro t ⟨j, o, _, _, h3⟩
   rw [getD_replicate_false] at h3
   cases h3
end
open Go.Proofs.YtbpgkkoeehopjaaGreat.enc Go.Proofs.YtbpgkkoeehopjaaGreat.gram Go.Proofs.YtbpgkkoeehopjaaGreat.lex Go.Proofs.YtbpgkkoeehopjaaGreat.rd Go.Proofs.YtbpgkkoeehopjaaGreat.dec
set_option maxRecDepth 100000
attribute [local go_sem ↓] Go.wp_at_zero Go.wp_at_succ
def ifT : Txt := [105, 102]
def stringT : Txt := [83, 116, 114, 105, 110, 103]
def condD : InputD := ⟨noteZ, ifT, (booleanT, [33]), false, litZ, [], 0, 0⟩
def whyT : Txt := [78, 111, 32, 108, 111, 110, 103, 101, 114, 32, 115, 117, 112, 112, 111, 114, 116, 101, 100]
def reasonD : InputD := ⟨noteZ, [114, 101, 97, 115, 111, 110], (stringT, []), true, .mk 4 whyT false [] [] 0 0, [], 0, 0⟩
def urlD : InputD := ⟨noteZ, [117, 114, 108], (stringT, [33]), false, litZ, [], 0, 0⟩
def dirD (s : Txt) (arg : InputD) (l : List Txt) : DefD := ⟨8, false, noteZ, s, [], [], [], [arg], [], [], [], false, l.map plD, 0, 0⟩
def pl3 : List Txt := [[70, 73, 69, 76, 68], [70, 82, 65, 71, 77, 69, 78, 84, 95, 83, 80, 82, 69, 65, 68], [73, 78, 76, 73, 78, 69, 95, 70, 82, 65, 71, 77, 69, 78, 84]]
def pl2 : List Txt := [[70, 73, 69, 76, 68, 95, 68, 69, 70, 73, 78, 73, 84, 73, 79, 78], [69, 78, 85, 77, 95, 86, 65, 76, 85, 69]]
def pl1 : List Txt := [[83, 67, 65, 76, 65, 82]]
def givenDirsD : List DefD := [dirD [115, 107, 105, 112] condD pl3, dirD [105, 110, 99, 108, 117, 100, 101] condD pl3, dirD [100, 101, 112, 114, 101, 99, 97, 116, 101, 100] reasonD pl2, dirD [115, 112, 101, 99, 105, 102, 105, 101, 100, 66, 121] urlD pl1]
abbrev condV : List Value := [.bool false, .bool false, .string ⟨#[]⟩, .string ⟨#[105, 102]⟩, .string ⟨#[66, 111, 111, 108, 101, 97, 110]⟩, .string ⟨#[33]⟩, .bool false, .int .i64 0, .string ⟨#[]⟩, .bool false, .slice none 0 0, .slice none 0 0, .int .i64 0, .int .i64 0, .slice none 0 0, .int .i64 0, .int .i64 0]
abbrev urlV : List Value := [.bool false, .bool false, .string ⟨#[]⟩, .string ⟨#[117, 114, 108]⟩, .string ⟨#[83, 116, 114, 105, 110, 103]⟩, .string ⟨#[33]⟩, .bool false, .int .i64 0, .string ⟨#[]⟩, .bool false, .slice none 0 0, .slice none 0 0, .int .i64 0, .int .i64 0, .slice none 0 0, .int .i64 0, .int .i64 0]
abbrev reasonV : List Value := [.bool false, .bool false, .string ⟨#[]⟩, .string ⟨#[114, 101, 97, 115, 111, 110]⟩, .string ⟨#[83, 116, 114, 105, 110, 103]⟩, .string ⟨#[]⟩, .bool true, .int .i64 4, .string ⟨#[78, 111, 32, 108, 111, 110, 103, 101, 114, 32, 115, 117, 112, 112, 111, 114, 116, 101, 100]⟩, .bool false, .slice none 0 0, .slice none 0 0, .int .i64 0, .int .i64 0, .slice none 0 0, .int .i64 0, .int .i64 0]
theorem rl_condV {K : World} : RL K (inputL condD) condV := by unfold condD; exact .lit (.lit (.lit (.lit (.lit (.lit (.lit (.lit (.lit (.lit (.cons RD.z (.cons RD.z (.lit (.lit (.cons RD.z (.lit (.lit RL.z))))))))))))))))
theorem rl_urlV {K : World} : RL K (inputL urlD) urlV := by unfold urlD; exact .lit (.lit (.lit (.lit (.lit (.lit (.lit (.lit (.lit (.lit (.cons RD.z (.cons RD.z (.lit (.lit (.cons RD.z (.lit (.lit RL.z))))))))))))))))
theorem rl_reasonV {K : World} : RL K (inputL reasonD) reasonV := by unfold reasonD; exact .lit (.lit (.lit (.lit (.lit (.lit (.lit (.lit (.lit (.lit (.cons RD.z (.cons RD.z (.lit (.lit (.cons RD.z (.lit (.lit RL.z))))))))))))))))
def DirR (s : ByteArray) (arg : InputD) (n : Nat) (l : List Txt) (K : World) (v : Value) : Prop :=
 ∃ g A c, v = .agg #[.int .i64 8, .bool false, .bool false, .bool false, .string ⟨#[]⟩, .string s, .slice none 0 0, .slice none 0 0, .slice none 0 0, .slice (some ⟨g, 0, none⟩) 1 1, .slice none 0 0, .slice none 0 0, .slice none 0 0, .bool false, .slice A n c, .int .i64 0, .int .i64 0] ∧ RD K (.list n (namedsL (l.map plD))) (.slice A n c) ∧ RD K (.list 1 (inputsL [arg])) (.slice (some ⟨g, 0, none⟩) 1 1)
theorem DirR.sat {s : ByteArray} {arg : InputD} {n : Nat} {l : List Txt} {K K' : World} {v : Value} (h : DirR s arg n l K v) (hs : Sat K' K) : DirR s arg n l K' v := by
 obtain ⟨g, A, c, h1, h2, h3⟩ := h
 exact ⟨g, A, c, h1, h2.sat hs, h3.sat hs⟩
def SlR (n : Nat) (l : List Txt) (K : World) (v : Value) : Prop := ∃ g, v = .slice (some ⟨g, 0, none⟩) n n ∧ RD K (.list n (textsL l)) v
theorem SlR.sat {n : Nat} {l : List Txt} {K K' : World} {v : Value} (h : SlR n l K v) (hs : Sat K' K) : SlR n l K' v := h.imp fun _ h => ⟨h.1, h.2.sat hs⟩
def EndR (K : World) (v : Value) : Prop := ∃ g, v = .slice (some ⟨g, 0, none⟩) 4 4 ∧ RD K (.list 4 (defsL givenDirsD)) v
theorem EndR.sat {K K' : World} {v : Value} (h : EndR K v) (hs : Sat K' K) : EndR K' v := h.imp fun _ h => ⟨h.1, h.2.sat hs⟩
def BdR (t : Nat) (K : World) (v : Value) : Prop :=
 match t with
 | 10 => v = .agg condV.toArray
 | 13 => v = .agg condV.toArray
 | 16 => v = .agg reasonV.toArray
 | 20 => v = .agg urlV.toArray
 | 19 => v = .agg #[.string ⟨#[83, 116, 114, 105, 110, 103]⟩, .string ⟨#[33]⟩]
 | 11 => SlR 3 pl3 K v
 | 14 => SlR 3 pl3 K v
 | 17 => SlR 2 pl2 K v
 | 21 => SlR 1 pl1 K v
 | 12 => DirR ⟨#[115, 107, 105, 112]⟩ condD 3 pl3 K v
 | 15 => DirR ⟨#[105, 110, 99, 108, 117, 100, 101]⟩ condD 3 pl3 K v
 | 18 => DirR ⟨#[100, 101, 112, 114, 101, 99, 97, 116, 101, 100]⟩ reasonD 2 pl2 K v
 | 22 => DirR ⟨#[115, 112, 101, 99, 105, 102, 105, 101, 100, 66, 121]⟩ urlD 1 pl1 K v
 | 23 => EndR K v
 | 0 => EndR K v
 | _ => True
theorem BdR.sat (t : Nat) (K K' : World) (v : Value) (hs : Sat K' K) (h : BdR t K v) : BdR t K' v := by
 unfold BdR at h ⊢
 split
 all_goals first | exact h | exact SlR.sat h hs | exact DirR.sat h hs | exact EndR.sat h hs | trivial
theorem rl_dir {K : World} {s : Txt} {arg : InputD} {l : List Txt} {n : Nat} {v v' : Value} {r : List DefD} {ys : List Value} (hn : RD K (.list n (namedsL (l.map plD))) v) (hi : RD K (.list 1 (inputsL [arg])) v') (h : RL K (defsL r) ys) (hl : l.length = n := by rfl) :
  RL K (defsL (dirD s arg l :: r)) (.int .i64 8 :: .bool false :: .bool false :: .bool false :: .string ⟨#[]⟩ :: .string (str s) :: .slice none 0 0 :: .slice none 0 0 :: .slice none 0 0 :: v' :: .slice none 0 0 :: .slice none 0 0 :: .slice none 0 0 :: .bool false :: v :: .int .i64 0 :: .int .i64 0 :: ys) := by
 subst hl
 exact DatL.app (def_leaf RD.z RD.z RD.z hi RD.z RD.z RD.z (by simpa using hn)) h
theorem rl_dirs {K : World} {a b c d a' b' c' d' : Value} (na : RD K (.list 3 (namedsL (pl3.map plD))) a) (ia : RD K (.list 1 (inputsL [condD])) a') (nb : RD K (.list 3 (namedsL (pl3.map plD))) b) (ib : RD K (.list 1 (inputsL [condD])) b') (nc : RD K (.list 2 (namedsL (pl2.map plD))) c) (ic : RD K (.list 1 (inputsL [reasonD])) c') (nd : RD K (.list 1 (namedsL (pl1.map plD))) d) (id : RD K (.list 1 (inputsL [urlD])) d') :
  RL K (defsL givenDirsD) [.int .i64 8, .bool false, .bool false, .bool false, .string ⟨#[]⟩, .string ⟨#[115, 107, 105, 112]⟩, .slice none 0 0, .slice none 0 0, .slice none 0 0, a', .slice none 0 0, .slice none 0 0, .slice none 0 0, .bool false, a, .int .i64 0, .int .i64 0, .int .i64 8, .bool false, .bool false, .bool false, .string ⟨#[]⟩, .string ⟨#[105, 110, 99, 108, 117, 100, 101]⟩, .slice none 0 0, .slice none 0 0, .slice none 0 0, b', .slice none 0 0, .slice none 0 0, .slice none 0 0, .bool false, b, .int .i64 0, .int .i64 0, .int .i64 8, .bool false, .bool false, .bool false, .string ⟨#[]⟩, .string ⟨#[100, 101, 112, 114, 101, 99, 97, 116, 101, 100]⟩, .slice none 0 0, .slice none 0 0, .slice none 0 0, c', .slice none 0 0, .slice none 0 0, .slice none 0 0, .bool false, c, .int .i64 0, .int .i64 0, .int .i64 8, .bool false, .bool false, .bool false, .string ⟨#[]⟩, .string ⟨#[115, 112, 101, 99, 105, 102, 105, 101, 100, 66, 121]⟩, .slice none 0 0, .slice none 0 0, .slice none 0 0, d', .slice none 0 0, .slice none 0 0, .slice none 0 0, .bool false, d, .int .i64 0, .int .i64 0] := rl_dir na ia (rl_dir nb ib (rl_dir nc ic (rl_dir nd id rd_nil)))
def BdP (w0 K : World) (M : List Ent) (e : Ending) (w' : World) : Prop :=
 ∃ K' A c, e = .returned (.slice A 4 c) ∧ Sat K' K ∧ Hp w0 w' K' M ∧ RD K' (.list 4 (defsL givenDirsD)) (.slice A 4 c)
set_option maxHeartbeats 16000000 in
theorem builtDirs_hp (w0 w K : World) (M : List Ent) (H : Hp w0 w K M) :
  Calls Tryz.prog 57 #[] w (BdP w0 K M) := by
 go_enter Tryz.func57, Tryz.ntmps57
 go_upto_region 3 with (first
  | (go_at_call 104; refine (ref_hp _ _ _ _ _ _ H).mono ?_; clear H; rintro e x1 ⟨rfl, H⟩)
  | ((with_reducible refine isL ?_); first
   | (refine al z123 1 H ?_; clear H; intro w2 g1 H)
   | (refine sA 1 0 H ?_; clear H; intro w4 H)
   | (refine al z121 2 H ?_; clear H; intro w5 g2 H)
   | (refine sA 2 0 H ?_; clear H; intro w7 H)))
 refine held.begin_ (fun w' => w'.cell? ⟨g2, 0, none⟩ = some (.int .i64 4) ∧ w'.cell? ⟨g2, 1, none⟩ = some (.string ⟨#[78, 111, 32, 108, 111, 110, 103, 101, 114, 32, 115, 117, 112, 112, 111, 114, 116, 101, 100]⟩) ∧ w'.cell? ⟨g2, 2, none⟩ = some (.bool false) ∧ w'.cell? ⟨g2, 3, none⟩ = some (.slice none 0 0) ∧ w'.cell? ⟨g2, 4, none⟩ = some (.slice none 0 0) ∧ w'.cell? ⟨g2, 5, none⟩ = some (.int .i64 0) ∧ w'.cell? ⟨g2, 6, none⟩ = some (.int .i64 0)) [4] (by kernel_rfl) ?_
 replace H := H.drew1
 obtain ⟨w8, hq9⟩ : ∃ x, (w7).drew = x := ⟨_, rfl⟩
 rw [hq9] at H ⊢
 clear hq9
 have hS10 : w8.cell? ⟨g2, 0, none⟩ = some (.int .i64 4) ∧ w8.cell? ⟨g2, 1, none⟩ = some (.string ⟨#[78, 111, 32, 108, 111, 110, 103, 101, 114, 32, 115, 117, 112, 112, 111, 114, 116, 101, 100]⟩) ∧ w8.cell? ⟨g2, 2, none⟩ = some (.bool false) ∧ w8.cell? ⟨g2, 3, none⟩ = some (.slice none 0 0) ∧ w8.cell? ⟨g2, 4, none⟩ = some (.slice none 0 0) ∧ w8.cell? ⟨g2, 5, none⟩ = some (.int .i64 0) ∧ w8.cell? ⟨g2, 6, none⟩ = some (.int .i64 0) := ⟨H.cell (i := 0) rfl rfl, H.cell (i := 0) rfl rfl, H.cell (i := 0) rfl rfl, H.cell (i := 0) rfl rfl, H.cell (i := 0) rfl rfl, H.cell (i := 0) rfl rfl, H.cell (i := 0) rfl rfl⟩
 refine held.take (i := 1) (v := ?_) rfl (by kernel_rfl) (by kernel_rfl) (by kernel_rfl) (by kernel_rfl) (by kernel_rfl) (fun _ _ _ h => h) (Or.inl ⟨by rfl, ?_⟩) hS10 ?_
 rotate_left
 · intro w hSw
   try dsimp only at hSw
   go_simp
   try with_reducible rfl
 try simp only [Act.put, List.getElem_toArray, List.getElem_cons_zero, List.getElem_cons_succ, List.setIfInBounds_toArray, List.set_cons_zero, List.set_cons_succ]
 refine step2 (i := 0) (j := 3) (by kernel_rfl) rfl rfl (fun Kq hKq => ?_) (fun Kq hKq => ?_)
 · skip
   go_simp
   refine (ref_hp _ _ _ _ _ _ H).mono ?_
   clear H
   rintro e x2 ⟨rfl, H⟩
   replace H : Hp _ _ _ (_ :: _ :: M) := H
   try go_simp
   have hS11 : x2.cell? ⟨g2, 0, none⟩ = some (.int .i64 4) ∧ x2.cell? ⟨g2, 1, none⟩ = some (.string ⟨#[78, 111, 32, 108, 111, 110, 103, 101, 114, 32, 115, 117, 112, 112, 111, 114, 116, 101, 100]⟩) ∧ x2.cell? ⟨g2, 2, none⟩ = some (.bool false) ∧ x2.cell? ⟨g2, 3, none⟩ = some (.slice none 0 0) ∧ x2.cell? ⟨g2, 4, none⟩ = some (.slice none 0 0) ∧ x2.cell? ⟨g2, 5, none⟩ = some (.int .i64 0) ∧ x2.cell? ⟨g2, 6, none⟩ = some (.int .i64 0) := ⟨H.cell (i := 0) rfl rfl, H.cell (i := 0) rfl rfl, H.cell (i := 0) rfl rfl, H.cell (i := 0) rfl rfl, H.cell (i := 0) rfl rfl, H.cell (i := 0) rfl rfl, H.cell (i := 0) rfl rfl⟩
   refine hKq.out _ _ (fun _ => hS11) (fun _ => ?_)
   clear hKq Kq
   refine held.take (i := 2) (v := ?_) rfl (by kernel_rfl) (by kernel_rfl) (by kernel_rfl) (by kernel_rfl) (by kernel_rfl) (fun _ _ _ h => h) (Or.inl ⟨by rfl, ?_⟩) hS11 ?_
   rotate_left
   · intro w hSw
     try dsimp only at hSw
     go_simp
     try with_reducible rfl
   try simp only [Act.put, List.getElem_toArray, List.getElem_cons_zero, List.getElem_cons_succ, List.setIfInBounds_toArray, List.set_cons_zero, List.set_cons_succ]
   refine held.step (i := 3) (by kernel_rfl) rfl (fun Kq hKq => ?_)
   go_simp
   replace H := H.alloc [.bool false, .bool false, .string ⟨#[]⟩, .string ⟨#[]⟩, .string ⟨#[]⟩, .string ⟨#[]⟩, .bool false, .int .i64 0, .string ⟨#[]⟩, .bool false, .slice none 0 0, .slice none 0 0, .int .i64 0, .int .i64 0, .slice none 0 0, .int .i64 0, .int .i64 0] 123
   obtain ⟨w13, hq14⟩ : ∃ x, (x2).alloc (.cells #[.bool false, .bool false, .string ⟨#[]⟩, .string ⟨#[]⟩, .string ⟨#[]⟩, .string ⟨#[]⟩, .bool false, .int .i64 0, .string ⟨#[]⟩, .bool false, .slice none 0 0, .slice none 0 0, .int .i64 0, .int .i64 0, .slice none 0 0, .int .i64 0, .int .i64 0] 123) = x := ⟨_, rfl⟩
   obtain ⟨g3, hg12⟩ : ∃ x, (x2).heap.size = x := ⟨_, rfl⟩
   rw [hg12] at H ⊢
   rw [hq14] at H ⊢
   clear hg12 hq14
   have hS15 : w13.cell? ⟨g2, 0, none⟩ = some (.int .i64 4) ∧ w13.cell? ⟨g2, 1, none⟩ = some (.string ⟨#[78, 111, 32, 108, 111, 110, 103, 101, 114, 32, 115, 117, 112, 112, 111, 114, 116, 101, 100]⟩) ∧ w13.cell? ⟨g2, 2, none⟩ = some (.bool false) ∧ w13.cell? ⟨g2, 3, none⟩ = some (.slice none 0 0) ∧ w13.cell? ⟨g2, 4, none⟩ = some (.slice none 0 0) ∧ w13.cell? ⟨g2, 5, none⟩ = some (.int .i64 0) ∧ w13.cell? ⟨g2, 6, none⟩ = some (.int .i64 0) := ⟨H.cell (i := 1) rfl rfl, H.cell (i := 1) rfl rfl, H.cell (i := 1) rfl rfl, H.cell (i := 1) rfl rfl, H.cell (i := 1) rfl rfl, H.cell (i := 1) rfl rfl, H.cell (i := 1) rfl rfl⟩
   refine hKq.out _ _ (fun _ => hS15) (fun _ => ?_)
   clear hKq Kq
   refine held.step (i := 4) (by kernel_rfl) rfl (fun Kq hKq => ?_)
   refine step_store_hp (by rfl) 123 (.tmp 3) (.tmp 9) (by rfl) g3 0 (by first | rfl | simp [Act.eval, Act.put]) (.agg #[.bool false, .bool false, .string ⟨#[]⟩, .string ⟨#[114, 101, 97, 115, 111, 110]⟩, .string ⟨#[83, 116, 114, 105, 110, 103]⟩, .string ⟨#[]⟩, .bool true, .int .i64 4, .string ⟨#[78, 111, 32, 108, 111, 110, 103, 101, 114, 32, 115, 117, 112, 112, 111, 114, 116, 101, 100]⟩, .bool false, .slice none 0 0, .slice none 0 0, .int .i64 0, .int .i64 0, .slice none 0 0, .int .i64 0, .int .i64 0]) (by first | rfl | simp [Act.eval, Act.put]) [.bool false, .bool false, .string ⟨#[]⟩, .string ⟨#[114, 101, 97, 115, 111, 110]⟩, .string ⟨#[83, 116, 114, 105, 110, 103]⟩, .string ⟨#[]⟩, .bool true, .int .i64 4, .string ⟨#[78, 111, 32, 108, 111, 110, 103, 101, 114, 32, 115, 117, 112, 112, 111, 114, 116, 101, 100]⟩, .bool false, .slice none 0 0, .slice none 0 0, .int .i64 0, .int .i64 0, .slice none 0 0, .int .i64 0, .int .i64 0] (by rfl) (by simp [Value.oneCell']) (by kernel_rfl) H 0 [.bool false, .bool false, .string ⟨#[]⟩, .string ⟨#[]⟩, .string ⟨#[]⟩, .string ⟨#[]⟩, .bool false, .int .i64 0, .string ⟨#[]⟩, .bool false, .slice none 0 0, .slice none 0 0, .int .i64 0, .int .i64 0, .slice none 0 0, .int .i64 0, .int .i64 0] [.bool false, .bool false, .string ⟨#[]⟩, .string ⟨#[114, 101, 97, 115, 111, 110]⟩, .string ⟨#[83, 116, 114, 105, 110, 103]⟩, .string ⟨#[]⟩, .bool true, .int .i64 4, .string ⟨#[78, 111, 32, 108, 111, 110, 103, 101, 114, 32, 115, 117, 112, 112, 111, 114, 116, 101, 100]⟩, .bool false, .slice none 0 0, .slice none 0 0, .int .i64 0, .int .i64 0, .slice none 0 0, .int .i64 0, .int .i64 0] 123 (by rfl) (Nat.le_of_ble_eq_true (by rfl)) (by rfl) ?_
   clear H
   intro w16 H
   refine hKq.out _ _ (fun h => absurd (List.mem_singleton.2 rfl) h) (fun _ => ?_)
   clear hKq Kq
   refine held.done (by kernel_rfl) ?_ _
   simp only [Act.put, List.getElem_toArray, List.getElem_cons_zero, List.getElem_cons_succ, List.setIfInBounds_toArray, List.set_cons_zero, List.set_cons_succ]
   replace H : Hp _ _ _ (_ :: _ :: _ :: M) := H
   go_upto_region 4 with (fail)
   replace H := H.sub (List.Sublist.cons_cons _ (List.Sublist.cons _ (List.Sublist.cons_cons _ (List.Sublist.refl _))))
   refine any_law (R := BdR) (by kernel_rfl) (by kernel_rfl) (by kernel_rfl) (by kernel_rfl) BdR.sat ?_ H ?_
   · simp only [List.mem_cons, List.not_mem_nil, or_false, forall_eq_or_imp, forall_eq]
     refine ⟨?_, ?_, ?_, ?_, ?_, ?_, ?_, ?_, ?_, ?_, ?_, ?_, ?_, ?_, ?_⟩
     · intro a w K hK H hdep hold Kc hKc
       have e1 : a.tmps.getD 1 undef = .pointer (some ⟨g1, 0, none⟩) := hold 1 (by kernel_rfl)
       refine step_load_hp (by rfl) 123 (.tmp 1) (by rfl) g1 0 e1 condV _ Tryz.underlying123 rfl (by kernel_rfl) H 1 condV 123 (by rfl) (by rfl) ?_
       exact hKc _ _ _ (Sat.refl _) H (fun t ht => by injection ht with ht; subst ht; exact rfl)
     · intro a w K hK H hdep hold Kc hKc
       refine step_build_hp (by rfl) 27 9 3 _ (by rfl) Tryz.underlying27 [(0, .string ⟨#[70, 73, 69, 76, 68]⟩), (1, .string ⟨#[70, 82, 65, 71, 77, 69, 78, 84, 95, 83, 80, 82, 69, 65, 68]⟩), (2, .string ⟨#[73, 78, 76, 73, 78, 69, 95, 70, 82, 65, 71, 77, 69, 78, 84]⟩)] (by kernel_rfl) [.string ⟨#[70, 73, 69, 76, 68]⟩, .string ⟨#[70, 82, 65, 71, 77, 69, 78, 84, 95, 83, 80, 82, 69, 65, 68]⟩, .string ⟨#[73, 78, 76, 73, 78, 69, 95, 70, 82, 65, 71, 77, 69, 78, 84]⟩] (by kernel_rfl) H ?_
       intro w1 g H
       obtain ⟨K1, hle, H, hb⟩ := H.freezeBox (n := 3) (ls := textsL pl3) (rt_s (rt_s (rt_s (RL.z)))) (by simp [maxLen])
       exact hKc _ _ _ hle H (fun t ht => by injection ht with ht; subst ht; exact ⟨_, rfl, hb⟩)
     · intro a w K hK H hdep hold Kc hKc
       obtain ⟨g, ev, hs⟩ := hdep 1 11 (by kernel_rfl) (by rfl)
       have ea : a.tmps.getD 10 undef = .agg condV.toArray := hdep 0 10 (by kernel_rfl) (by rfl)
       rw [ev] at hs
       have hc := directive_hp ⟨#[115, 107, 105, 112]⟩ condD _ _ _ _ _ _ _ _ _ _ _ _ _ _ _ _ _ pl3 3 3 (some ⟨g, 0, none⟩) _ _ _ _ H rfl (by omega) hs rl_condV
       go_simp
       refine hc.mono ?_
       rintro e w1 ⟨K1, gi, A, c, rfl, hle, H, hn, hi⟩
       exact hKc _ _ _ hle H (fun t ht => by injection ht with ht; subst ht; exact ⟨_, _, _, rfl, hn, hi⟩)
     · intro a w K hK H hdep hold Kc hKc
       have e1 : a.tmps.getD 1 undef = .pointer (some ⟨g1, 0, none⟩) := hold 1 (by kernel_rfl)
       refine step_load_hp (by rfl) 123 (.tmp 1) (by rfl) g1 0 e1 condV _ Tryz.underlying123 rfl (by kernel_rfl) H 1 condV 123 (by rfl) (by rfl) ?_
       exact hKc _ _ _ (Sat.refl _) H (fun t ht => by injection ht with ht; subst ht; exact rfl)
     · intro a w K hK H hdep hold Kc hKc
       refine step_build_hp (by rfl) 27 9 3 _ (by rfl) Tryz.underlying27 [(0, .string ⟨#[70, 73, 69, 76, 68]⟩), (1, .string ⟨#[70, 82, 65, 71, 77, 69, 78, 84, 95, 83, 80, 82, 69, 65, 68]⟩), (2, .string ⟨#[73, 78, 76, 73, 78, 69, 95, 70, 82, 65, 71, 77, 69, 78, 84]⟩)] (by kernel_rfl) [.string ⟨#[70, 73, 69, 76, 68]⟩, .string ⟨#[70, 82, 65, 71, 77, 69, 78, 84, 95, 83, 80, 82, 69, 65, 68]⟩, .string ⟨#[73, 78, 76, 73, 78, 69, 95, 70, 82, 65, 71, 77, 69, 78, 84]⟩] (by kernel_rfl) H ?_
       intro w1 g H
       obtain ⟨K1, hle, H, hb⟩ := H.freezeBox (n := 3) (ls := textsL pl3) (rt_s (rt_s (rt_s (RL.z)))) (by simp [maxLen])
       exact hKc _ _ _ hle H (fun t ht => by injection ht with ht; subst ht; exact ⟨_, rfl, hb⟩)
     · intro a w K hK H hdep hold Kc hKc
       obtain ⟨g, ev, hs⟩ := hdep 4 14 (by kernel_rfl) (by rfl)
       have ea : a.tmps.getD 13 undef = .agg condV.toArray := hdep 3 13 (by kernel_rfl) (by rfl)
       rw [ev] at hs
       have hc := directive_hp ⟨#[105, 110, 99, 108, 117, 100, 101]⟩ condD _ _ _ _ _ _ _ _ _ _ _ _ _ _ _ _ _ pl3 3 3 (some ⟨g, 0, none⟩) _ _ _ _ H rfl (by omega) hs rl_condV
       go_simp
       refine hc.mono ?_
       rintro e w1 ⟨K1, gi, A, c, rfl, hle, H, hn, hi⟩
       exact hKc _ _ _ hle H (fun t ht => by injection ht with ht; subst ht; exact ⟨_, _, _, rfl, hn, hi⟩)
     · intro a w K hK H hdep hold Kc hKc
       have e1 : a.tmps.getD 3 undef = .pointer (some ⟨g3, 0, none⟩) := hold 3 (by kernel_rfl)
       refine step_load_hp (by rfl) 123 (.tmp 3) (by rfl) g3 0 e1 reasonV _ Tryz.underlying123 rfl (by kernel_rfl) H 0 reasonV 123 (by rfl) (by rfl) ?_
       exact hKc _ _ _ (Sat.refl _) H (fun t ht => by injection ht with ht; subst ht; exact rfl)
     · intro a w K hK H hdep hold Kc hKc
       refine step_build_hp (by rfl) 27 9 2 _ (by rfl) Tryz.underlying27 [(0, .string ⟨#[70, 73, 69, 76, 68, 95, 68, 69, 70, 73, 78, 73, 84, 73, 79, 78]⟩), (1, .string ⟨#[69, 78, 85, 77, 95, 86, 65, 76, 85, 69]⟩)] (by kernel_rfl) [.string ⟨#[70, 73, 69, 76, 68, 95, 68, 69, 70, 73, 78, 73, 84, 73, 79, 78]⟩, .string ⟨#[69, 78, 85, 77, 95, 86, 65, 76, 85, 69]⟩] (by kernel_rfl) H ?_
       intro w1 g H
       obtain ⟨K1, hle, H, hb⟩ := H.freezeBox (n := 2) (ls := textsL pl2) (rt_s (rt_s (RL.z))) (by simp [maxLen])
       exact hKc _ _ _ hle H (fun t ht => by injection ht with ht; subst ht; exact ⟨_, rfl, hb⟩)
     · intro a w K hK H hdep hold Kc hKc
       obtain ⟨g, ev, hs⟩ := hdep 7 17 (by kernel_rfl) (by rfl)
       have ea : a.tmps.getD 16 undef = .agg reasonV.toArray := hdep 6 16 (by kernel_rfl) (by rfl)
       rw [ev] at hs
       have hc := directive_hp ⟨#[100, 101, 112, 114, 101, 99, 97, 116, 101, 100]⟩ reasonD _ _ _ _ _ _ _ _ _ _ _ _ _ _ _ _ _ pl2 2 2 (some ⟨g, 0, none⟩) _ _ _ _ H rfl (by omega) hs rl_reasonV
       go_simp
       refine hc.mono ?_
       rintro e w1 ⟨K1, gi, A, c, rfl, hle, H, hn, hi⟩
       exact hKc _ _ _ hle H (fun t ht => by injection ht with ht; subst ht; exact ⟨_, _, _, rfl, hn, hi⟩)
     · intro a w K hK H hdep hold Kc hKc
       have hc := ref_hp ⟨#[83, 116, 114, 105, 110, 103]⟩ ⟨#[33]⟩ _ _ _ _ H
       go_simp
       refine hc.mono ?_
       rintro e w1 ⟨rfl, H⟩
       exact hKc _ _ _ (Sat.refl _) H (fun t ht => by injection ht with ht; subst ht; exact rfl)
     · intro a w K hK H hdep hold Kc hKc
       have e19 : a.tmps.getD 19 undef = .agg #[.string ⟨#[83, 116, 114, 105, 110, 103]⟩, .string ⟨#[33]⟩] := hdep 9 19 (by kernel_rfl) (by rfl)
       have e19' : a.tmps[19]?.getD undef = .agg #[.string ⟨#[83, 116, 114, 105, 110, 103]⟩, .string ⟨#[33]⟩] := by simpa using e19
       go_simp
       exact hKc _ _ _ (Sat.refl _) H (fun t ht => by injection ht with ht; subst ht; exact rfl)
     · intro a w K hK H hdep hold Kc hKc
       refine step_build_hp (by rfl) 27 9 1 _ (by rfl) Tryz.underlying27 [(0, .string ⟨#[83, 67, 65, 76, 65, 82]⟩)] (by kernel_rfl) [.string ⟨#[83, 67, 65, 76, 65, 82]⟩] (by kernel_rfl) H ?_
       intro w1 g H
       obtain ⟨K1, hle, H, hb⟩ := H.freezeBox (n := 1) (ls := textsL pl1) (rt_s (RL.z)) (by simp [maxLen])
       exact hKc _ _ _ hle H (fun t ht => by injection ht with ht; subst ht; exact ⟨_, rfl, hb⟩)
     · intro a w K hK H hdep hold Kc hKc
       obtain ⟨g, ev, hs⟩ := hdep 11 21 (by kernel_rfl) (by rfl)
       have ea : a.tmps.getD 20 undef = .agg urlV.toArray := hdep 10 20 (by kernel_rfl) (by rfl)
       rw [ev] at hs
       have hc := directive_hp ⟨#[115, 112, 101, 99, 105, 102, 105, 101, 100, 66, 121]⟩ urlD _ _ _ _ _ _ _ _ _ _ _ _ _ _ _ _ _ pl1 1 1 (some ⟨g, 0, none⟩) _ _ _ _ H rfl (by omega) hs rl_urlV
       go_simp
       refine hc.mono ?_
       rintro e w1 ⟨K1, gi, A, c, rfl, hle, H, hn, hi⟩
       exact hKc _ _ _ hle H (fun t ht => by injection ht with ht; subst ht; exact ⟨_, _, _, rfl, hn, hi⟩)
     · intro a w K hK H hdep hold Kc hKc
       obtain ⟨ga, Aa, ca, e12, na, ia⟩ := hdep 2 12 (by kernel_rfl) (by rfl)
       obtain ⟨gb, Ab, cb, e15, nb, ib⟩ := hdep 5 15 (by kernel_rfl) (by rfl)
       obtain ⟨gc, Ac, cc, e18, nc, ic⟩ := hdep 8 18 (by kernel_rfl) (by rfl)
       obtain ⟨gd, Ad, cd, e22, nd, id⟩ := hdep 12 22 (by kernel_rfl) (by rfl)
       refine step_build_hp (by rfl) 22 43 4 _ (by rfl) Tryz.underlying22 [(0, .agg #[.int .i64 8, .bool false, .bool false, .bool false, .string ⟨#[]⟩, .string ⟨#[115, 107, 105, 112]⟩, .slice none 0 0, .slice none 0 0, .slice none 0 0, .slice (some ⟨ga, 0, none⟩) 1 1, .slice none 0 0, .slice none 0 0, .slice none 0 0, .bool false, .slice Aa 3 ca, .int .i64 0, .int .i64 0]), (1, .agg #[.int .i64 8, .bool false, .bool false, .bool false, .string ⟨#[]⟩, .string ⟨#[105, 110, 99, 108, 117, 100, 101]⟩, .slice none 0 0, .slice none 0 0, .slice none 0 0, .slice (some ⟨gb, 0, none⟩) 1 1, .slice none 0 0, .slice none 0 0, .slice none 0 0, .bool false, .slice Ab 3 cb, .int .i64 0, .int .i64 0]), (2, .agg #[.int .i64 8, .bool false, .bool false, .bool false, .string ⟨#[]⟩, .string ⟨#[100, 101, 112, 114, 101, 99, 97, 116, 101, 100]⟩, .slice none 0 0, .slice none 0 0, .slice none 0 0, .slice (some ⟨gc, 0, none⟩) 1 1, .slice none 0 0, .slice none 0 0, .slice none 0 0, .bool false, .slice Ac 2 cc, .int .i64 0, .int .i64 0]), (3, .agg #[.int .i64 8, .bool false, .bool false, .bool false, .string ⟨#[]⟩, .string ⟨#[115, 112, 101, 99, 105, 102, 105, 101, 100, 66, 121]⟩, .slice none 0 0, .slice none 0 0, .slice none 0 0, .slice (some ⟨gd, 0, none⟩) 1 1, .slice none 0 0, .slice none 0 0, .slice none 0 0, .bool false, .slice Ad 1 cd, .int .i64 0, .int .i64 0])] (Eq.trans (b := [(0, a.tmps.getD 12 undef), (1, a.tmps.getD 15 undef), (2, a.tmps.getD 18 undef), (3, a.tmps.getD 22 undef)]) (by kernel_rfl) (by rw [e12, e15, e18, e22])) [.int .i64 8, .bool false, .bool false, .bool false, .string ⟨#[]⟩, .string ⟨#[115, 107, 105, 112]⟩, .slice none 0 0, .slice none 0 0, .slice none 0 0, .slice (some ⟨ga, 0, none⟩) 1 1, .slice none 0 0, .slice none 0 0, .slice none 0 0, .bool false, .slice Aa 3 ca, .int .i64 0, .int .i64 0, .int .i64 8, .bool false, .bool false, .bool false, .string ⟨#[]⟩, .string ⟨#[105, 110, 99, 108, 117, 100, 101]⟩, .slice none 0 0, .slice none 0 0, .slice none 0 0, .slice (some ⟨gb, 0, none⟩) 1 1, .slice none 0 0, .slice none 0 0, .slice none 0 0, .bool false, .slice Ab 3 cb, .int .i64 0, .int .i64 0, .int .i64 8, .bool false, .bool false, .bool false, .string ⟨#[]⟩, .string ⟨#[100, 101, 112, 114, 101, 99, 97, 116, 101, 100]⟩, .slice none 0 0, .slice none 0 0, .slice none 0 0, .slice (some ⟨gc, 0, none⟩) 1 1, .slice none 0 0, .slice none 0 0, .slice none 0 0, .bool false, .slice Ac 2 cc, .int .i64 0, .int .i64 0, .int .i64 8, .bool false, .bool false, .bool false, .string ⟨#[]⟩, .string ⟨#[115, 112, 101, 99, 105, 102, 105, 101, 100, 66, 121]⟩, .slice none 0 0, .slice none 0 0, .slice none 0 0, .slice (some ⟨gd, 0, none⟩) 1 1, .slice none 0 0, .slice none 0 0, .slice none 0 0, .bool false, .slice Ad 1 cd, .int .i64 0, .int .i64 0] (by kernel_rfl) H ?_
       intro w1 g H
       obtain ⟨K1, hle, H, hb⟩ := H.freezeBox (n := 4) (ls := defsL givenDirsD) (rl_dirs na ia nb ib nc ic nd id) (by simp [maxLen])
       exact hKc _ _ _ hle H (fun t ht => by injection ht with ht; subst ht; exact ⟨_, rfl, hb⟩)
     · intro a w K hK H hdep hold Kc hKc
       obtain ⟨g, ev, hs⟩ := hdep 13 23 (by kernel_rfl) (by rfl)
       go_simp
       exact hKc _ _ _ (Sat.refl _) H (fun t ht => by injection ht with ht; subst ht; exact ⟨g, rfl, by rw [← ev]; exact hs⟩)
   · intro a' w' K' hle H hd hsz hn hold
     obtain ⟨g, ev, hv⟩ := hn 0 (by kernel_rfl)
     go_wp2_with fail
     have e0 : a'.tmps[0]?.getD undef = .slice (some ⟨g, 0, none⟩) 4 4 := by simpa using ev
     rw [ev] at hv
     replace H := H.tail.tail
     exact bodyPost_ret (v := .slice (some ⟨g, 0, none⟩) 4 4) (by simp [results, Tryz.results57, go_sem, e0]) hd ⟨K', _, _, rfl, hle, H, hv⟩
 · skip
   go_simp
   replace H := H.alloc [.bool false, .bool false, .string ⟨#[]⟩, .string ⟨#[]⟩, .string ⟨#[]⟩, .string ⟨#[]⟩, .bool false, .int .i64 0, .string ⟨#[]⟩, .bool false, .slice none 0 0, .slice none 0 0, .int .i64 0, .int .i64 0, .slice none 0 0, .int .i64 0, .int .i64 0] 123
   obtain ⟨w18, hq19⟩ : ∃ x, (w8).alloc (.cells #[.bool false, .bool false, .string ⟨#[]⟩, .string ⟨#[]⟩, .string ⟨#[]⟩, .string ⟨#[]⟩, .bool false, .int .i64 0, .string ⟨#[]⟩, .bool false, .slice none 0 0, .slice none 0 0, .int .i64 0, .int .i64 0, .slice none 0 0, .int .i64 0, .int .i64 0] 123) = x := ⟨_, rfl⟩
   obtain ⟨g3, hg17⟩ : ∃ x, (w8).heap.size = x := ⟨_, rfl⟩
   rw [hg17] at H ⊢
   rw [hq19] at H ⊢
   clear hg17 hq19
   have hS20 : w18.cell? ⟨g2, 0, none⟩ = some (.int .i64 4) ∧ w18.cell? ⟨g2, 1, none⟩ = some (.string ⟨#[78, 111, 32, 108, 111, 110, 103, 101, 114, 32, 115, 117, 112, 112, 111, 114, 116, 101, 100]⟩) ∧ w18.cell? ⟨g2, 2, none⟩ = some (.bool false) ∧ w18.cell? ⟨g2, 3, none⟩ = some (.slice none 0 0) ∧ w18.cell? ⟨g2, 4, none⟩ = some (.slice none 0 0) ∧ w18.cell? ⟨g2, 5, none⟩ = some (.int .i64 0) ∧ w18.cell? ⟨g2, 6, none⟩ = some (.int .i64 0) := ⟨H.cell (i := 1) rfl rfl, H.cell (i := 1) rfl rfl, H.cell (i := 1) rfl rfl, H.cell (i := 1) rfl rfl, H.cell (i := 1) rfl rfl, H.cell (i := 1) rfl rfl, H.cell (i := 1) rfl rfl⟩
   refine hKq.out _ _ (fun _ => hS20) (fun _ => ?_)
   clear hKq Kq
   refine held.step (i := 0) (by kernel_rfl) rfl (fun Kq hKq => ?_)
   go_simp
   refine (ref_hp _ _ _ _ _ _ H).mono ?_
   clear H
   rintro e x2 ⟨rfl, H⟩
   replace H : Hp _ _ _ (_ :: _ :: _ :: M) := H
   try go_simp
   have hS21 : x2.cell? ⟨g2, 0, none⟩ = some (.int .i64 4) ∧ x2.cell? ⟨g2, 1, none⟩ = some (.string ⟨#[78, 111, 32, 108, 111, 110, 103, 101, 114, 32, 115, 117, 112, 112, 111, 114, 116, 101, 100]⟩) ∧ x2.cell? ⟨g2, 2, none⟩ = some (.bool false) ∧ x2.cell? ⟨g2, 3, none⟩ = some (.slice none 0 0) ∧ x2.cell? ⟨g2, 4, none⟩ = some (.slice none 0 0) ∧ x2.cell? ⟨g2, 5, none⟩ = some (.int .i64 0) ∧ x2.cell? ⟨g2, 6, none⟩ = some (.int .i64 0) := ⟨H.cell (i := 1) rfl rfl, H.cell (i := 1) rfl rfl, H.cell (i := 1) rfl rfl, H.cell (i := 1) rfl rfl, H.cell (i := 1) rfl rfl, H.cell (i := 1) rfl rfl, H.cell (i := 1) rfl rfl⟩
   refine hKq.out _ _ (fun _ => hS21) (fun _ => ?_)
   clear hKq Kq
   refine held.take (i := 2) (v := ?_) rfl (by kernel_rfl) (by kernel_rfl) (by kernel_rfl) (by kernel_rfl) (by kernel_rfl) (fun _ _ _ h => h) (Or.inl ⟨by rfl, ?_⟩) hS21 ?_
   rotate_left
   · intro w hSw
     try dsimp only at hSw
     go_simp
     try with_reducible rfl
   try simp only [Act.put, List.getElem_toArray, List.getElem_cons_zero, List.getElem_cons_succ, List.setIfInBounds_toArray, List.set_cons_zero, List.set_cons_succ]
   refine held.step (i := 4) (by kernel_rfl) rfl (fun Kq hKq => ?_)
   refine step_store_hp (by rfl) 123 (.tmp 3) (.tmp 9) (by rfl) g3 0 (by first | rfl | simp [Act.eval, Act.put]) (.agg #[.bool false, .bool false, .string ⟨#[]⟩, .string ⟨#[114, 101, 97, 115, 111, 110]⟩, .string ⟨#[83, 116, 114, 105, 110, 103]⟩, .string ⟨#[]⟩, .bool true, .int .i64 4, .string ⟨#[78, 111, 32, 108, 111, 110, 103, 101, 114, 32, 115, 117, 112, 112, 111, 114, 116, 101, 100]⟩, .bool false, .slice none 0 0, .slice none 0 0, .int .i64 0, .int .i64 0, .slice none 0 0, .int .i64 0, .int .i64 0]) (by first | rfl | simp [Act.eval, Act.put]) [.bool false, .bool false, .string ⟨#[]⟩, .string ⟨#[114, 101, 97, 115, 111, 110]⟩, .string ⟨#[83, 116, 114, 105, 110, 103]⟩, .string ⟨#[]⟩, .bool true, .int .i64 4, .string ⟨#[78, 111, 32, 108, 111, 110, 103, 101, 114, 32, 115, 117, 112, 112, 111, 114, 116, 101, 100]⟩, .bool false, .slice none 0 0, .slice none 0 0, .int .i64 0, .int .i64 0, .slice none 0 0, .int .i64 0, .int .i64 0] (by rfl) (by simp [Value.oneCell']) (by kernel_rfl) H 0 [.bool false, .bool false, .string ⟨#[]⟩, .string ⟨#[]⟩, .string ⟨#[]⟩, .string ⟨#[]⟩, .bool false, .int .i64 0, .string ⟨#[]⟩, .bool false, .slice none 0 0, .slice none 0 0, .int .i64 0, .int .i64 0, .slice none 0 0, .int .i64 0, .int .i64 0] [.bool false, .bool false, .string ⟨#[]⟩, .string ⟨#[114, 101, 97, 115, 111, 110]⟩, .string ⟨#[83, 116, 114, 105, 110, 103]⟩, .string ⟨#[]⟩, .bool true, .int .i64 4, .string ⟨#[78, 111, 32, 108, 111, 110, 103, 101, 114, 32, 115, 117, 112, 112, 111, 114, 116, 101, 100]⟩, .bool false, .slice none 0 0, .slice none 0 0, .int .i64 0, .int .i64 0, .slice none 0 0, .int .i64 0, .int .i64 0] 123 (by rfl) (Nat.le_of_ble_eq_true (by rfl)) (by rfl) ?_
   clear H
   intro w22 H
   refine hKq.out _ _ (fun h => absurd (List.mem_singleton.2 rfl) h) (fun _ => ?_)
   clear hKq Kq
   refine held.done (by kernel_rfl) ?_ _
   simp only [Act.put, List.getElem_toArray, List.getElem_cons_zero, List.getElem_cons_succ, List.setIfInBounds_toArray, List.set_cons_zero, List.set_cons_succ]
   replace H : Hp _ _ _ (_ :: _ :: _ :: M) := H
   go_upto_region 4 with (fail)
   replace H := H.sub (List.Sublist.cons_cons _ (List.Sublist.cons _ (List.Sublist.cons_cons _ (List.Sublist.refl _))))
   refine any_law (R := BdR) (by kernel_rfl) (by kernel_rfl) (by kernel_rfl) (by kernel_rfl) BdR.sat ?_ H ?_
   · simp only [List.mem_cons, List.not_mem_nil, or_false, forall_eq_or_imp, forall_eq]
     refine ⟨?_, ?_, ?_, ?_, ?_, ?_, ?_, ?_, ?_, ?_, ?_, ?_, ?_, ?_, ?_⟩
     · intro a w K hK H hdep hold Kc hKc
       have e1 : a.tmps.getD 1 undef = .pointer (some ⟨g1, 0, none⟩) := hold 1 (by kernel_rfl)
       refine step_load_hp (by rfl) 123 (.tmp 1) (by rfl) g1 0 e1 condV _ Tryz.underlying123 rfl (by kernel_rfl) H 1 condV 123 (by rfl) (by rfl) ?_
       exact hKc _ _ _ (Sat.refl _) H (fun t ht => by injection ht with ht; subst ht; exact rfl)
     · intro a w K hK H hdep hold Kc hKc
       refine step_build_hp (by rfl) 27 9 3 _ (by rfl) Tryz.underlying27 [(0, .string ⟨#[70, 73, 69, 76, 68]⟩), (1, .string ⟨#[70, 82, 65, 71, 77, 69, 78, 84, 95, 83, 80, 82, 69, 65, 68]⟩), (2, .string ⟨#[73, 78, 76, 73, 78, 69, 95, 70, 82, 65, 71, 77, 69, 78, 84]⟩)] (by kernel_rfl) [.string ⟨#[70, 73, 69, 76, 68]⟩, .string ⟨#[70, 82, 65, 71, 77, 69, 78, 84, 95, 83, 80, 82, 69, 65, 68]⟩, .string ⟨#[73, 78, 76, 73, 78, 69, 95, 70, 82, 65, 71, 77, 69, 78, 84]⟩] (by kernel_rfl) H ?_
       intro w1 g H
       obtain ⟨K1, hle, H, hb⟩ := H.freezeBox (n := 3) (ls := textsL pl3) (rt_s (rt_s (rt_s (RL.z)))) (by simp [maxLen])
       exact hKc _ _ _ hle H (fun t ht => by injection ht with ht; subst ht; exact ⟨_, rfl, hb⟩)
     · intro a w K hK H hdep hold Kc hKc
       obtain ⟨g, ev, hs⟩ := hdep 1 11 (by kernel_rfl) (by rfl)
       have ea : a.tmps.getD 10 undef = .agg condV.toArray := hdep 0 10 (by kernel_rfl) (by rfl)
       rw [ev] at hs
       have hc := directive_hp ⟨#[115, 107, 105, 112]⟩ condD _ _ _ _ _ _ _ _ _ _ _ _ _ _ _ _ _ pl3 3 3 (some ⟨g, 0, none⟩) _ _ _ _ H rfl (by omega) hs rl_condV
       go_simp
       refine hc.mono ?_
       rintro e w1 ⟨K1, gi, A, c, rfl, hle, H, hn, hi⟩
       exact hKc _ _ _ hle H (fun t ht => by injection ht with ht; subst ht; exact ⟨_, _, _, rfl, hn, hi⟩)
     · intro a w K hK H hdep hold Kc hKc
       have e1 : a.tmps.getD 1 undef = .pointer (some ⟨g1, 0, none⟩) := hold 1 (by kernel_rfl)
       refine step_load_hp (by rfl) 123 (.tmp 1) (by rfl) g1 0 e1 condV _ Tryz.underlying123 rfl (by kernel_rfl) H 1 condV 123 (by rfl) (by rfl) ?_
       exact hKc _ _ _ (Sat.refl _) H (fun t ht => by injection ht with ht; subst ht; exact rfl)
     · intro a w K hK H hdep hold Kc hKc
       refine step_build_hp (by rfl) 27 9 3 _ (by rfl) Tryz.underlying27 [(0, .string ⟨#[70, 73, 69, 76, 68]⟩), (1, .string ⟨#[70, 82, 65, 71, 77, 69, 78, 84, 95, 83, 80, 82, 69, 65, 68]⟩), (2, .string ⟨#[73, 78, 76, 73, 78, 69, 95, 70, 82, 65, 71, 77, 69, 78, 84]⟩)] (by kernel_rfl) [.string ⟨#[70, 73, 69, 76, 68]⟩, .string ⟨#[70, 82, 65, 71, 77, 69, 78, 84, 95, 83, 80, 82, 69, 65, 68]⟩, .string ⟨#[73, 78, 76, 73, 78, 69, 95, 70, 82, 65, 71, 77, 69, 78, 84]⟩] (by kernel_rfl) H ?_
       intro w1 g H
       obtain ⟨K1, hle, H, hb⟩ := H.freezeBox (n := 3) (ls := textsL pl3) (rt_s (rt_s (rt_s (RL.z)))) (by simp [maxLen])
       exact hKc _ _ _ hle H (fun t ht => by injection ht with ht; subst ht; exact ⟨_, rfl, hb⟩)
     · intro a w K hK H hdep hold Kc hKc
       obtain ⟨g, ev, hs⟩ := hdep 4 14 (by kernel_rfl) (by rfl)
       have ea : a.tmps.getD 13 undef = .agg condV.toArray := hdep 3 13 (by kernel_rfl) (by rfl)
       rw [ev] at hs
       have hc := directive_hp ⟨#[105, 110, 99, 108, 117, 100, 101]⟩ condD _ _ _ _ _ _ _ _ _ _ _ _ _ _ _ _ _ pl3 3 3 (some ⟨g, 0, none⟩) _ _ _ _ H rfl (by omega) hs rl_condV
       go_simp
       refine hc.mono ?_
       rintro e w1 ⟨K1, gi, A, c, rfl, hle, H, hn, hi⟩
       exact hKc _ _ _ hle H (fun t ht => by injection ht with ht; subst ht; exact ⟨_, _, _, rfl, hn, hi⟩)
     · intro a w K hK H hdep hold Kc hKc
       have e1 : a.tmps.getD 3 undef = .pointer (some ⟨g3, 0, none⟩) := hold 3 (by kernel_rfl)
       refine step_load_hp (by rfl) 123 (.tmp 3) (by rfl) g3 0 e1 reasonV _ Tryz.underlying123 rfl (by kernel_rfl) H 0 reasonV 123 (by rfl) (by rfl) ?_
       exact hKc _ _ _ (Sat.refl _) H (fun t ht => by injection ht with ht; subst ht; exact rfl)
     · intro a w K hK H hdep hold Kc hKc
       refine step_build_hp (by rfl) 27 9 2 _ (by rfl) Tryz.underlying27 [(0, .string ⟨#[70, 73, 69, 76, 68, 95, 68, 69, 70, 73, 78, 73, 84, 73, 79, 78]⟩), (1, .string ⟨#[69, 78, 85, 77, 95, 86, 65, 76, 85, 69]⟩)] (by kernel_rfl) [.string ⟨#[70, 73, 69, 76, 68, 95, 68, 69, 70, 73, 78, 73, 84, 73, 79, 78]⟩, .string ⟨#[69, 78, 85, 77, 95, 86, 65, 76, 85, 69]⟩] (by kernel_rfl) H ?_
       intro w1 g H
       obtain ⟨K1, hle, H, hb⟩ := H.freezeBox (n := 2) (ls := textsL pl2) (rt_s (rt_s (RL.z))) (by simp [maxLen])
       exact hKc _ _ _ hle H (fun t ht => by injection ht with ht; subst ht; exact ⟨_, rfl, hb⟩)
     · intro a w K hK H hdep hold Kc hKc
       obtain ⟨g, ev, hs⟩ := hdep 7 17 (by kernel_rfl) (by rfl)
       have ea : a.tmps.getD 16 undef = .agg reasonV.toArray := hdep 6 16 (by kernel_rfl) (by rfl)
       rw [ev] at hs
       have hc := directive_hp ⟨#[100, 101, 112, 114, 101, 99, 97, 116, 101, 100]⟩ reasonD _ _ _ _ _ _ _ _ _ _ _ _ _ _ _ _ _ pl2 2 2 (some ⟨g, 0, none⟩) _ _ _ _ H rfl (by omega) hs rl_reasonV
       go_simp
       refine hc.mono ?_
       rintro e w1 ⟨K1, gi, A, c, rfl, hle, H, hn, hi⟩
       exact hKc _ _ _ hle H (fun t ht => by injection ht with ht; subst ht; exact ⟨_, _, _, rfl, hn, hi⟩)
     · intro a w K hK H hdep hold Kc hKc
       have hc := ref_hp ⟨#[83, 116, 114, 105, 110, 103]⟩ ⟨#[33]⟩ _ _ _ _ H
       go_simp
       refine hc.mono ?_
       rintro e w1 ⟨rfl, H⟩
       exact hKc _ _ _ (Sat.refl _) H (fun t ht => by injection ht with ht; subst ht; exact rfl)
     · intro a w K hK H hdep hold Kc hKc
       have e19 : a.tmps.getD 19 undef = .agg #[.string ⟨#[83, 116, 114, 105, 110, 103]⟩, .string ⟨#[33]⟩] := hdep 9 19 (by kernel_rfl) (by rfl)
       have e19' : a.tmps[19]?.getD undef = .agg #[.string ⟨#[83, 116, 114, 105, 110, 103]⟩, .string ⟨#[33]⟩] := by simpa using e19
       go_simp
       exact hKc _ _ _ (Sat.refl _) H (fun t ht => by injection ht with ht; subst ht; exact rfl)
     · intro a w K hK H hdep hold Kc hKc
       refine step_build_hp (by rfl) 27 9 1 _ (by rfl) Tryz.underlying27 [(0, .string ⟨#[83, 67, 65, 76, 65, 82]⟩)] (by kernel_rfl) [.string ⟨#[83, 67, 65, 76, 65, 82]⟩] (by kernel_rfl) H ?_
       intro w1 g H
       obtain ⟨K1, hle, H, hb⟩ := H.freezeBox (n := 1) (ls := textsL pl1) (rt_s (RL.z)) (by simp [maxLen])
       exact hKc _ _ _ hle H (fun t ht => by injection ht with ht; subst ht; exact ⟨_, rfl, hb⟩)
     · intro a w K hK H hdep hold Kc hKc
       obtain ⟨g, ev, hs⟩ := hdep 11 21 (by kernel_rfl) (by rfl)
       have ea : a.tmps.getD 20 undef = .agg urlV.toArray := hdep 10 20 (by kernel_rfl) (by rfl)
       rw [ev] at hs
       have hc := directive_hp ⟨#[115, 112, 101, 99, 105, 102, 105, 101, 100, 66, 121]⟩ urlD _ _ _ _ _ _ _ _ _ _ _ _ _ _ _ _ _ pl1 1 1 (some ⟨g, 0, none⟩) _ _ _ _ H rfl (by omega) hs rl_urlV
       go_simp
       refine hc.mono ?_
       rintro e w1 ⟨K1, gi, A, c, rfl, hle, H, hn, hi⟩
       exact hKc _ _ _ hle H (fun t ht => by injection ht with ht; subst ht; exact ⟨_, _, _, rfl, hn, hi⟩)
     · intro a w K hK H hdep hold Kc hKc
       obtain ⟨ga, Aa, ca, e12, na, ia⟩ := hdep 2 12 (by kernel_rfl) (by rfl)
       obtain ⟨gb, Ab, cb, e15, nb, ib⟩ := hdep 5 15 (by kernel_rfl) (by rfl)
       obtain ⟨gc, Ac, cc, e18, nc, ic⟩ := hdep 8 18 (by kernel_rfl) (by rfl)
       obtain ⟨gd, Ad, cd, e22, nd, id⟩ := hdep 12 22 (by kernel_rfl) (by rfl)
       refine step_build_hp (by rfl) 22 43 4 _ (by rfl) Tryz.underlying22 [(0, .agg #[.int .i64 8, .bool false, .bool false, .bool false, .string ⟨#[]⟩, .string ⟨#[115, 107, 105, 112]⟩, .slice none 0 0, .slice none 0 0, .slice none 0 0, .slice (some ⟨ga, 0, none⟩) 1 1, .slice none 0 0, .slice none 0 0, .slice none 0 0, .bool false, .slice Aa 3 ca, .int .i64 0, .int .i64 0]), (1, .agg #[.int .i64 8, .bool false, .bool false, .bool false, .string ⟨#[]⟩, .string ⟨#[105, 110, 99, 108, 117, 100, 101]⟩, .slice none 0 0, .slice none 0 0, .slice none 0 0, .slice (some ⟨gb, 0, none⟩) 1 1, .slice none 0 0, .slice none 0 0, .slice none 0 0, .bool false, .slice Ab 3 cb, .int .i64 0, .int .i64 0]), (2, .agg #[.int .i64 8, .bool false, .bool false, .bool false, .string ⟨#[]⟩, .string ⟨#[100, 101, 112, 114, 101, 99, 97, 116, 101, 100]⟩, .slice none 0 0, .slice none 0 0, .slice none 0 0, .slice (some ⟨gc, 0, none⟩) 1 1, .slice none 0 0, .slice none 0 0, .slice none 0 0, .bool false, .slice Ac 2 cc, .int .i64 0, .int .i64 0]), (3, .agg #[.int .i64 8, .bool false, .bool false, .bool false, .string ⟨#[]⟩, .string ⟨#[115, 112, 101, 99, 105, 102, 105, 101, 100, 66, 121]⟩, .slice none 0 0, .slice none 0 0, .slice none 0 0, .slice (some ⟨gd, 0, none⟩) 1 1, .slice none 0 0, .slice none 0 0, .slice none 0 0, .bool false, .slice Ad 1 cd, .int .i64 0, .int .i64 0])] (Eq.trans (b := [(0, a.tmps.getD 12 undef), (1, a.tmps.getD 15 undef), (2, a.tmps.getD 18 undef), (3, a.tmps.getD 22 undef)]) (by kernel_rfl) (by rw [e12, e15, e18, e22])) [.int .i64 8, .bool false, .bool false, .bool false, .string ⟨#[]⟩, .string ⟨#[115, 107, 105, 112]⟩, .slice none 0 0, .slice none 0 0, .slice none 0 0, .slice (some ⟨ga, 0, none⟩) 1 1, .slice none 0 0, .slice none 0 0, .slice none 0 0, .bool false, .slice Aa 3 ca, .int .i64 0, .int .i64 0, .int .i64 8, .bool false, .bool false, .bool false, .string ⟨#[]⟩, .string ⟨#[105, 110, 99, 108, 117, 100, 101]⟩, .slice none 0 0, .slice none 0 0, .slice none 0 0, .slice (some ⟨gb, 0, none⟩) 1 1, .slice none 0 0, .slice none 0 0, .slice none 0 0, .bool false, .slice Ab 3 cb, .int .i64 0, .int .i64 0, .int .i64 8, .bool false, .bool false, .bool false, .string ⟨#[]⟩, .string ⟨#[100, 101, 112, 114, 101, 99, 97, 116, 101, 100]⟩, .slice none 0 0, .slice none 0 0, .slice none 0 0, .slice (some ⟨gc, 0, none⟩) 1 1, .slice none 0 0, .slice none 0 0, .slice none 0 0, .bool false, .slice Ac 2 cc, .int .i64 0, .int .i64 0, .int .i64 8, .bool false, .bool false, .bool false, .string ⟨#[]⟩, .string ⟨#[115, 112, 101, 99, 105, 102, 105, 101, 100, 66, 121]⟩, .slice none 0 0, .slice none 0 0, .slice none 0 0, .slice (some ⟨gd, 0, none⟩) 1 1, .slice none 0 0, .slice none 0 0, .slice none 0 0, .bool false, .slice Ad 1 cd, .int .i64 0, .int .i64 0] (by kernel_rfl) H ?_
       intro w1 g H
       obtain ⟨K1, hle, H, hb⟩ := H.freezeBox (n := 4) (ls := defsL givenDirsD) (rl_dirs na ia nb ib nc ic nd id) (by simp [maxLen])
       exact hKc _ _ _ hle H (fun t ht => by injection ht with ht; subst ht; exact ⟨_, rfl, hb⟩)
     · intro a w K hK H hdep hold Kc hKc
       obtain ⟨g, ev, hs⟩ := hdep 13 23 (by kernel_rfl) (by rfl)
       go_simp
       exact hKc _ _ _ (Sat.refl _) H (fun t ht => by injection ht with ht; subst ht; exact ⟨g, rfl, by rw [← ev]; exact hs⟩)
   · intro a' w' K' hle H hd hsz hn hold
     obtain ⟨g, ev, hv⟩ := hn 0 (by kernel_rfl)
     go_wp2_with fail
     have e0 : a'.tmps[0]?.getD undef = .slice (some ⟨g, 0, none⟩) 4 4 := by simpa using ev
     rw [ev] at hv
     replace H := H.tail.tail
     exact bodyPost_ret (v := .slice (some ⟨g, 0, none⟩) 4 4) (by simp [results, Tryz.results57, go_sem, e0]) hd ⟨K', _, _, rfl, hle, H, hv⟩
end Go.Proofs.YtbpgkkoeehopjaaGreat.hp
