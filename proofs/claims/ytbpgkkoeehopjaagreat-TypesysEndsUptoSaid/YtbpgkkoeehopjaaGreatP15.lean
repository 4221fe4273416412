/- Part 15 of 18 of a proof: see the last part. -/
import Derived.Test.YtbpgkkoeehopjaaGreatP7
import Derived.Test.YtbpgkkoeehopjaaGreatP9
import Derived.Test.YtbpgkkoeehopjaaGreatP14
import Derived.Deep.QuietTactic
import Derived.BigQuiet
import Derived.Laws.DeepStrings4
set_option linter.unusedVariables false
set_option linter.unusedSimpArgs false
namespace Go.Proofs.YtbpgkkoeehopjaaGreat.hp
open Go.RowKit Go.Proofs.YtbpgkkoeehopjaaGreat.words Go.Proofs.YtbpgkkoeehopjaaGreat.enc Go.Proofs.YtbpgkkoeehopjaaGreat.tree Go.Proofs.YtbpgkkoeehopjaaGreat.gram Go.Proofs.YtbpgkkoeehopjaaGreat.lex Go.Proofs.YtbpgkkoeehopjaaGreat.rd Go.Proofs.YtbpgkkoeehopjaaGreat.dec Go.Proofs.YtbpgkkoeehopjaaGreat.dat Go.Proofs.YtbpgkkoeehopjaaGreat.held Go.Proofs.YtbpgkkoeehopjaaGreat.ty
set_option maxRecDepth 100000
attribute [local go_sem ↓] Go.wp_at_zero Go.wp_at_succ
theorem rl_texts {K : World} : ∀ l : List Txt, RL K (textsL l) (l.map ks)
 | [] => RL.z
 | x :: r => .lit (rl_texts r)
def keyAt (S : List (Txt × Value)) (k : Nat) : Txt := ((S[k]?).map (·.1)).getD []
theorem keys_range (S : List (Txt × Value)) : (List.range S.length).map (keyAt S) = S.map (·.1) := by
 apply List.ext_getElem?
 intro j
 rw [List.getElem?_map, List.getElem?_map]
 rcases Nat.lt_or_ge j S.length with h | h
 · rw [List.getElem?_range h, List.getElem?_eq_getElem h]
   simp [keyAt, List.getElem?_eq_getElem h]
 · rw [List.getElem?_eq_none (by simpa using h), List.getElem?_eq_none h]; rfl
theorem seen_perm {n : Nat} {s : Array Nat} (h : SeenOk n s) (hall : ∀ k, k < n → k ∈ s) : s.toList.Perm (List.range n) :=
 (List.perm_ext_iff_of_nodup h.1 List.nodup_range).2 fun k => by
   rw [List.mem_range]
   exact ⟨fun hk => h.2 k hk, fun hk => by simpa using hall k hk⟩
def numV (q : Txt × Value) : Nat := match q.2 with | .int _ n => n.toNat | _ => 0
theorem sok_len {f : Nat → Option Txt} {s : List (Txt × Value)} {B : Nat} (h : SOk f s) (hB : ∀ n x, f n = some x → n < B) : s.length ≤ B := by
 have hk : List.Pairwise (fun q q' : Txt × Value => q.1 ≠ q'.1) s := by
  have := h.1
  unfold List.Nodup at this
  rw [List.pairwise_map] at this
  exact this
 have hn : (s.map numV).Nodup := by
  unfold List.Nodup
  rw [List.pairwise_map]
  refine List.Pairwise.imp_of_mem (fun {q q'} hq hq' hne he => ?_) hk
  obtain ⟨n, h1, h2⟩ := h.2 q hq
  obtain ⟨n', h1', h2'⟩ := h.2 q' hq'
  simp only [numV, h1, h1', Int.toNat_natCast] at he
  subst he
  rw [h2] at h2'
  injection h2' with h2'
  exact hne h2'
 have := nodup_lt B (s.map numV) hn (fun x hx => by
  obtain ⟨q, hq, rfl⟩ := List.mem_map.1 hx
  obtain ⟨n, h1, h2⟩ := h.2 q hq
  simp only [numV, h1, Int.toNat_natCast]
  exact hB n _ h2)
 simpa using this
theorem sort_none' {n : Nat} (h : n = 0) (v : Value) (c : Nat) (p : Option Addr) (w : World) : Calls Tryz.prog 67 #[.slice p n c, v] w fun e w' => e = .returned (.tuple #[]) ∧ w' = w := by
 subst h; exact sort_none v c p w
theorem pos1_hp (f : Txt → Int) (mv : Value) (gb : Nat) (W : World) (hc : W.cell? ⟨gb, 0, none⟩ = some mv) (hl : ∀ x, (Instr.lookup 87 mv (.string (str x)) false).run Tryz.prog W = .ok (.int .i64 (f x)) W) (hf : ∀ x, 0 ≤ f x ∧ f x ≤ 20000000) (x y : Txt) :
  Calls Tryz.prog 68 #[ks x, ks y, .pointer (some ⟨gb, 0, none⟩)] W fun e w' => e = .returned (.int .i64 (f x - f y)) ∧ w' = W := by
 have hx := hl x
 have hy := hl y
 have bx := hf x
 have hby := hf y
 have hw : IntKind.i64.wrap (f x - f y) = f x - f y := by simp [IntKind.wrap, IntKind.bits, IntKind.signed]; omega
 go_enter Tryz.func68, Tryz.ntmps68
 go_wp2_with (first
  | ((with_reducible show wpList _ _ _ (_ :: _) _ _); refine lookup_run (by rfl) (.tmp 6) (.tmp 7) 87 false (by rfl) (by first | rfl | simp [Act.eval, Act.put]) (by first | rfl | simp [Act.eval, Act.put]) hx ?_)
  | ((with_reducible show wpList _ _ _ (_ :: _) _ _); refine lookup_run (by rfl) (.tmp 9) (.tmp 10) 87 false (by rfl) (by first | rfl | simp [Act.eval, Act.put]) (by first | rfl | simp [Act.eval, Act.put]) hy ?_))
 go_ret
 exact ⟨by first | rfl | (rw [hw]; rfl) | simp [hw], rfl⟩
def PosP (D : TysD) (x : Txt) (w0 K : World) (M : List Ent) (e : Ending) (w' : World) : Prop :=
 ∃ K' l v, e = .returned v ∧ Sat K' K ∧ Hp w0 w' K' M ∧ RD K' (.list l.length (textsL l)) v ∧ l.Perm ((setOf D.objects x).map (·.1)) ∧ l.Pairwise (fun a b => numAt (setOf D.objects x) a ≤ numAt (setOf D.objects x) b)
set_option maxHeartbeats 16000000 in
theorem Possible_t (v : Value) (x : Txt) (D : TysD) (w0 w K : World) (M : List Ent) (H : Hp w0 w K M) (hv : Tp K v D) (hW : TyW D) :
  Calls Tryz.prog 27 #[v, .string (str x)] w (PosP D x w0 K M) := by
 have hK := Sat.refl K
 obtain ⟨k0, hk0, k0z, k0s, k0b⟩ := info_parts string_info
 have hSO := setOf_ok hW.o x
 have hfb : ∀ y, 0 ≤ numAt (setOf D.objects x) y ∧ numAt (setOf D.objects x) y ≤ 20000000 := by
  intro y
  have hN := hW.nT
  unfold numAt
  rcases sok_find hSO y with ⟨h, _⟩ | ⟨n, h, hn, _⟩
  · rw [h]; exact ⟨by simp, by simp⟩
  · rw [h]
    have := nmAt_le hn
    exact ⟨by simp, by simp only; omega⟩
 have hnv := numAt_val hSO
 have hSL : (setOf D.objects x).length ≤ 3002000 := sok_len hSO (fun n y hy => Nat.lt_of_lt_of_le (nmAt_le hy) hW.nT)
 obtain ⟨S, hS0⟩ : ∃ S, setOf D.objects x = S := ⟨_, rfl⟩
 have HS := hide hS0
 rw [hS0] at hfb hnv hSL
 clear hSO
 go_enter Tryz.func27, Tryz.ntmps27
 go_upto_region 1 with (fail)
 have h1 := fun OB go w ho => run_lookup_k (P := Tryz.prog) (w := w) (t := 89) (kt := 9) (et := 87) (l := ovals OB) (b := go) Tryz.underlying89 (keys_s Tryz.underlying9) (.map none) (zero_map w) ho x false
 have hmv : ∀ (K5 : World) (ga gd gf go : Nat) (sch : List Value) (VT VD : Value) (OB : List (Txt × Nat × List (Txt × Value))) (g9 : Nat), Tys K5 g9 D ga gd gf go sch VT VD OB → ∃ mv, (∀ w, Km w go (kents ks (ovals OB)) → (Instr.lookup 89 (.map (some go)) (.string (str x)) false).run Tryz.prog w = .ok mv w) ∧ ((mv = .map none ∧ S = []) ∨ ∃ b, mv = .map (some b) ∧ Km K5 b (kents ks S)) := by
  intro K5 ga gd gf go sch VT VD OB g9 T
  rcases oset x OB with ⟨hf, hS⟩ | ⟨p, hp, hf, hS⟩
  · exact ⟨.map none, fun w ho => by rw [h1 OB go w ho, hf]; rfl, .inl ⟨rfl, by rw [← HS.out, T.om, hS]⟩⟩
  · exact ⟨.map (some p.2.1), fun w ho => by rw [h1 OB go w ho, hf]; rfl, .inr ⟨_, rfl, by rw [← HS.out, T.om, hS]; exact T.sets p hp⟩⟩
 clear h1
 go_upto_region 3 with (first
  | (go_at_call 64; refine (all_t _ D _ _ K _ H hv).mono ?_; clear H; rintro e w5 ⟨K5, g9, rfl, hle, H, hT5⟩; replace hK := hle.trans hK; obtain ⟨ga, gd, gf, go, sch, VT, VD, OB, T⟩ := hT5; have h22 := H.kcell T.a.box T.a.c22)
  | ((with_reducible show wpList _ _ _ (_ :: _) _ _); obtain ⟨mv, hlk, hmk⟩ := hmv _ _ _ _ _ _ _ _ _ _ T; refine lookup_run (by rfl) (.tmp 12) (.tmp 13) 89 false (by rfl) (by first | rfl | simp [Act.eval, Act.put]) (by first | rfl | simp [Act.eval, Act.put]) (hlk _ (H.kmap T.objects)) ?_)
  | ((with_reducible show wpList _ _ _ (_ :: _) _ _); refine alloc_hp (by rfl) 87 (by rfl) [.map none] (by kernel_rfl) (some 5) (by rfl) H ?_; clear H; intro w6 g5 H hg5; clear hg5)
  | ((with_reducible show wpList _ _ _ (_ :: _) _ _); refine store_hp (by rfl) 87 (.tmp 5) (.tmp 14) (by rfl) g5 0 (by first | rfl | simp [Act.eval, Act.put]) mv (by first | rfl | simp [Act.eval, Act.put]) [mv] (by rcases hmk with ⟨rfl, _⟩ | ⟨b, rfl, _⟩ <;> rfl) (by rcases hmk with ⟨rfl, _⟩ | ⟨b, rfl, _⟩ <;> simp [Value.oneCell']) (by kernel_rfl) H 0 [.map none] [mv] 87 (by rfl) (Nat.le_of_ble_eq_true (by rfl)) (by rfl) ?_; clear H; intro w7 H; replace H : Hp w0 w7 K5 (.box g5 [mv] 87 :: M) := H; have hc5 : (w7).cell? ⟨g5, 0, none⟩ = some mv := H.cell (i := 0) rfl rfl))
 rcases hmk with ⟨rfl, hSn⟩ | ⟨b, rfl, hSk⟩
 · go_wp2_with (first
    | ((with_reducible show wpList _ _ _ (_ :: _) _ _); refine range_nil_hp (by rfl) 87 (.tmp 15) (by rfl) Tryz.underlying87 (by first | rfl | simp [Act.eval, Act.put]) (some 16) (by rfl) H ?_; clear H; intro w8 r H))
   try simp only [Act.put, List.getElem_toArray, List.getElem_cons_zero, List.getElem_cons_succ, List.setIfInBounds_toArray, List.set_cons_zero, List.set_cons_succ]
   go_loopw [6, 17] (fun o _ wr => o = .slice none 0 0 ∧ Hp w0 wr K5 (iter0 r :: .box g5 [.map none] 87 :: M)) (fun _ _ _ => 0)
   case atStart => exact ⟨rfl, H⟩
   case round =>
    clear H
    obtain ⟨rfl, H⟩ := hrel
    go_upto_region 7 with (first
     | ((with_reducible show wpList _ _ _ (_ :: _) _ _); refine next_nil_hp (by rfl) (.tmp 16) (by rfl) (by first | rfl | simp [Act.eval, Act.put]) H 0 (by rfl) ?_))
    have hsn := sort_none (.func (.func 68) #[] #[.pointer (some ⟨g5, 0, none⟩)]) 0 none wr
    go_wp2_with (first
     | (go_at_call 67; refine hsn.mono ?_; clear hsn; rintro e w9 ⟨rfl, rfl⟩))
    replace H := Hp.tail (Hp.tail H)
    go_ret
    exact ⟨K5, [], _, rfl, hK, H, RD.z, by rw [HS.out, hSn]; exact List.Perm.nil, List.Pairwise.nil⟩
 · obtain ⟨n, hn⟩ : ∃ n, (kents ks S).length = n := ⟨_, rfl⟩
   have hSl : S.length = n := by rw [← hn]; unfold kents; rw [List.length_map]
   go_wp2_with (first
    | ((with_reducible show wpList _ _ _ (_ :: _) _ _); refine range_hp (by rfl) 87 (.tmp 15) (by rfl) Tryz.underlying87 b (kents ks S) (H.kmap hSk) (by first | rfl | simp [Act.eval, Act.put]) (some 16) (by rfl) H ?_; clear H; intro w8 r H))
   try simp only [Act.put, List.getElem_toArray, List.getElem_cons_zero, List.getElem_cons_succ, List.setIfInBounds_toArray, List.set_cons_zero, List.set_cons_succ]
   rw [hn] at H
   have heg : ∀ args w, (callFunc 68 args).run Tryz.prog w = .ok (.enter 68 args) w := enters_of Tryz.func68 (by kernel_rfl) rfl
   go_loopw [6, 17] (fun o _ wr => ∃ s : Array Nat, SeenOk n s ∧ Hp w0 wr K5 (.row 9 1 o s.size ((s.toList.map (keyAt S)).map ks) :: iter r b n s :: .box g5 [.map (some b)] 87 :: M)) (fun _ _ wr => n - seenN wr r)
   case atStart => exact ⟨#[], ⟨List.nodup_nil, fun _ h => by cases h⟩, H.nilRow 9 1⟩
   case round =>
    clear H
    obtain ⟨s, hs, H, hrow⟩ : ∃ (s : Array Nat) (hs : SeenOk n s) (H : Hp w0 wr K5 (.row 9 1 _ s.size ((s.toList.map (keyAt S)).map ks) :: iter r b n s :: .box g5 [.map (some b)] 87 :: M)), True := by
     obtain ⟨s, hs, H⟩ := hrel
     exact ⟨s, hs, H, trivial⟩
    obtain ⟨Av, cv, hov, hcv1, hcv2⟩ := H.slice (i := 0) rfl
    subst hov
    have hsn := seen_iter H.tail
    have hsle := hs.le
    have H0 : Hp w0 wr K5 (.row 9 1 (.slice Av s.size cv) s.size ((s.toList.map (keyAt S)).map ks) :: iter r b (kents ks S).length s :: .box g5 [.map (some b)] 87 :: M) := by rw [hn]; exact H
    go_wp2_with (first
     | ((with_reducible show wpList _ _ _ (_ :: _) _ _); refine next_hp (by rfl) (.tmp 16) (by rfl) (by first | rfl | simp [Act.eval, Act.put]) H0 1 b (kents ks S) s (by rfl) (H.kmap hSk) ?_ ?_))
    · intro hall
      have hperm : (s.toList.map (keyAt S)).Perm (S.map (·.1)) := by
       rw [← keys_range, hSl]
       exact (seen_perm hs (fun k hk => by simpa using hall k hk)).map (keyAt S)
      have hLl : (s.toList.map (keyAt S)).length = s.size := by simp
      by_cases h0 : s.size = 0
      · have hsn := sort_none' h0 (.func (.func 68) #[] #[.pointer (some ⟨g5, 0, none⟩)]) cv Av wr
        have he : s.toList.map (keyAt S) = [] := List.eq_nil_of_length_eq_zero (by rw [hLl, h0])
        have he := hide he
        clear h0 hall
        go_wp2_with (first
         | (go_at_call 67; refine hsn.mono ?_; clear hsn; rintro e w9 ⟨rfl, rfl⟩))
        obtain ⟨K6, hle6, H, hr⟩ := Hp.freezeRow H (rl_texts (s.toList.map (keyAt S)))
        replace H := Hp.tail (Hp.tail H)
        go_ret
        exact ⟨K6, s.toList.map (keyAt S), _, rfl, hle6.trans hK, H, by rw [hLl]; exact hr, by rw [HS.out]; exact hperm, by rw [he.out]; exact List.Pairwise.nil⟩
      · obtain ⟨blk, cb, hbv, -, -, -⟩ := H.rowAt (i := 0) rfl (by omega)
        injection hbv with e1 _ e3
        subst e1 e3
        have hg5 : g5 ≠ blk := fun e => (List.pairwise_cons.1 H.nd).1 _ (List.mem_cons_of_mem _ (List.mem_cons_self ..)) blk rfl (by rw [← e]; rfl)
        have hbb : b ≠ blk := fun e => by
         have hF := (H.fr _ (List.mem_cons_self ..) blk rfl).2
         have := hF _ (e ▸ hSk)
         cases this
        have hltg := H.lt (i := 2) rfl rfl
        have hltb := (Array.getElem?_eq_some_iff.1 (H.kmap hSk)).1
        have hcb := H.cell (i := 2) (j := 0) rfl rfl
        have hsort := sort_hp (cb := #[.pointer (some ⟨g5, 0, none⟩)]) (numAt S) H hLl (by omega) heg (fun W _ hW x y => pos1_hp (numAt S) (.map (some b)) g5 W ((World.cell?_of_block (hW g5 hltg hg5)).trans hcb) (fun z => (run_lookup_k (w := W) Tryz.underlying87 (keys_s Tryz.underlying9) (.int .i64 0) (zero_int W) ((hW b hltb hbb).trans (H.kmap hSk)) z false).trans (by rw [if_neg Bool.false_ne_true, hnv])) hfb x y)
        clear hbb hg5 hltg hltb hcb
        go_wp2_with (first
         | (go_at_call 67; refine hsort.mono ?_; clear hsort H H0; rintro e w9 ⟨rfl, L, hLp, hLs, H⟩))
        have hLL : L.length = s.size := hLp.length_eq.trans hLl
        obtain ⟨K6, hle6, H, hr⟩ := Hp.freezeRow H (rl_texts L)
        replace H := Hp.tail (Hp.tail H)
        go_ret
        exact ⟨K6, L, _, rfl, hle6.trans hK, H, by rw [hLL]; exact hr, by rw [HS.out]; exact hLp.trans hperm, by rw [HS.out]; exact hLs⟩
    · intro k x1 x2 w9 hkx hks H9
      obtain ⟨q, hq, he⟩ := kents_at hkx
      injection he with e1 e2
      subst e1 e2
      have hkn : k < n := by rw [← hn]; exact (List.getElem?_eq_some_iff.1 hkx).1
      have hsp := hs.push hkn hks
      have hspl := hsp.le
      have hkey : keyAt S k = q.1 := by simp [keyAt, hq]
      have H7 : Hp w0 w9 K5 (.row 9 1 (.slice Av s.size cv) s.size ((s.toList.map (keyAt S)).map ks) :: iter r b (kents ks S).length (s.push k) :: .box g5 [.map (some b)] 87 :: M) := by rw [hn, List.map_map]; exact H9
      clear H H0 H9
      have H := H7
      rw [hn] at H
      go_wp2_with (first
       | (refine buildSlice_hp (by rfl) 27 9 1 _ (by rfl) (some 23) (by rfl) Tryz.underlying27 [.string (str q.1)] (by kernel_rfl) H ?_; clear H; intro w1 g23 H)
       | (at_builtin; refine append_hp (by rfl) _ _ 27 (by rfl) 9 k0 _ 1 16 Tryz.underlying27 hk0 k0z k0s k0b (by rfl) (by decide) H 1 (.slice Av s.size cv) (s.size) (((s.toList.map (keyAt S)).map ks)) (by rfl) (by first | rfl | simp [Act.eval, Act.put]) (some ⟨g23, 0, none⟩) 1 1 [.string (str q.1)] (by first | rfl | simp [Act.eval, Act.put]) (by rfl) (H.rd (i := 0) rfl) (by simp [Value.oneCell']) (by simp only [maxLen]; omega) (by omega) ?_; clear H; intro V2 w2 H; replace H : Hp w0 w2 K5 (.box g23 [.string (str q.1)] 9 :: .row 9 1 (V2) (s.size + 1) (((s.toList.map (keyAt S)).map ks) ++ [.string (str q.1)]) :: (iter r b n (s.push k) :: .box g5 [.map (some b)] 87 :: M)) := H; obtain ⟨V2A, V2c, rfl, V2l, V2m⟩ := H.slice (i := 1) rfl)
       | ((with_reducible show wpList _ _ _ (_ :: _) _ _); refine entry_hp (by rfl) (.tmp 16) (by rfl) (by first | rfl | simp [Act.eval, Act.put]) H7 1 b (kents ks S) s k (ks q.1, q.2) (by rfl) (H7.kmap hSk) hkx ?_))
      replace H := H.sub (List.Sublist.cons _ (List.Sublist.cons_cons _ (List.Sublist.refl _)))
      have hsn6 := seen_iter H.tail
      go_roundw
      case rel =>
       refine ⟨s.push k, hsp, ?_⟩
       rw [Array.size_push, Array.toList_push, List.map_append, List.map_append]
       simp only [List.map_cons, List.map_nil, hkey]
       exact H
      case measure =>
       rw [hsn6, hsn]
       rw [Array.size_push] at hspl ⊢
       omega
def typenameT : Txt := [95, 95, 116, 121, 112, 101, 110, 97, 109, 101]
def uschemaT : Txt := [95, 95, 115, 99, 104, 101, 109, 97]
def utypeT : Txt := [95, 95, 116, 121, 112, 101]
def uSchemaT : Txt := [95, 95, 83, 99, 104, 101, 109, 97]
def uTypeT : Txt := [95, 95, 84, 121, 112, 101]
theorem tl_typename : (str typenameT).toList = [95, 95, 116, 121, 112, 101, 110, 97, 109, 101] := by kernel_rfl
theorem tl_uschema : (str uschemaT).toList = [95, 95, 115, 99, 104, 101, 109, 97] := by kernel_rfl
theorem tl_utype : (str utypeT).toList = [95, 95, 116, 121, 112, 101] := by kernel_rfl
theorem eq_typename (f : Txt) : ((str f).toList == [95, 95, 116, 121, 112, 101, 110, 97, 109, 101]) = decide (f = typenameT) := by rw [← tl_typename]; exact str_toList f _
theorem eq_uschema (f : Txt) : ((str f).toList == [95, 95, 115, 99, 104, 101, 109, 97]) = decide (f = uschemaT) := by rw [← tl_uschema]; exact str_toList f _
theorem eq_utype (f : Txt) : ((str f).toList == [95, 95, 116, 121, 112, 101]) = decide (f = utypeT) := by rw [← tl_utype]; exact str_toList f _
def nameArgD : InputD := ⟨noteZ, [110, 97, 109, 101], (stringT, [33]), false, litZ, [], 0, 0⟩
def zeroF : FieldD := ⟨noteZ, [], [], ([], []), [], 0, 0⟩
def fieldO (D : TysD) (t f : Txt) : Option FieldD :=
 if kindOf D.types t ≠ 3 ∧ kindOf D.types t ≠ 4 ∧ kindOf D.types t ≠ 5 then none
 else if f = typenameT then some ⟨noteZ, f, [], (stringT, [33]), [], 0, 0⟩
 else if kindOf D.types t = 3 ∧ t = rootNm D.schema.roots 1 ∧ f = uschemaT then some ⟨noteZ, f, [], (uSchemaT, [33]), [], 0, 0⟩
 else if kindOf D.types t = 3 ∧ t = rootNm D.schema.roots 1 ∧ f = utypeT then some ⟨noteZ, f, [nameArgD], (uTypeT, []), [], 0, 0⟩
 else if kindOf D.types t = 5 then none
 else match kfind D.fields (t, f) with
  | some (.int .i64 k) => (lookD D.types t).bind fun d => d.fields[k.toNat]?
  | _ => none
def FldO (o : Option FieldD) (K : World) (v : Value) : Prop := ∃ cs, v = .tuple #[.agg cs, .bool o.isSome] ∧ RL K (fieldL (o.getD zeroF)) cs.toList
theorem rl_zeroF {K : World} : RL K (fieldL zeroF) [.bool false, .bool false, .string ⟨#[]⟩, .string ⟨#[]⟩, .slice none 0 0, .string ⟨#[]⟩, .string ⟨#[]⟩, .slice none 0 0, .int .i64 0, .int .i64 0] := .lit (.lit (.lit (.lit (.cons RD.z (.lit (.lit (.cons RD.z (.lit (.lit RL.z)))))))))
theorem rl_fld {K : World} (f n m : Txt) : RL K (fieldL ⟨noteZ, f, [], (n, m), [], 0, 0⟩) [.bool false, .bool false, .string ⟨#[]⟩, .string (str f), .slice none 0 0, .string (str n), .string (str m), .slice none 0 0, .int .i64 0, .int .i64 0] := .lit (.lit (.lit (.lit (.cons RD.z (.lit (.lit (.cons RD.z (.lit (.lit RL.z)))))))))
theorem rl_fldA {K : World} (f n m : Txt) {v : Value} (h : RD K (.list 1 (inputsL [nameArgD])) v) : RL K (fieldL ⟨noteZ, f, [nameArgD], (n, m), [], 0, 0⟩) [.bool false, .bool false, .string ⟨#[]⟩, .string (str f), v, .string (str n), .string (str m), .slice none 0 0, .int .i64 0, .int .i64 0] := .lit (.lit (.lit (.lit (.cons h (.lit (.lit (.cons RD.z (.lit (.lit RL.z)))))))))
theorem fieldN_at {d : DefD} {k : Nat} {f : FieldD} (h : d.fields[k]? = some f) : fieldN f ≤ defN d := by
 have h1 : d.fields = d.fields.take k ++ f :: d.fields.drop (k + 1) := by
  obtain ⟨hi, rfl⟩ := List.getElem?_eq_some_iff.1 h
  simp
 have h2 : sumN fieldN d.fields = sumN fieldN (d.fields.take k) + sumN fieldN (f :: d.fields.drop (k + 1)) := by
  conv => lhs; rw [h1]
  exact sum_app ..
 simp only [sumN] at h2
 unfold defN
 omega
set_option maxHeartbeats 16000000 in
theorem Field_no (v : Value) (t f : Txt) (kk : Int) (D : TysD) (w0 w K : World) (M : List Ent) (H : Hp w0 w K M) (hv : Tp K v D) (hW : TyW D) (hkk : kindOf D.types t = kk) (h3 : kk ≠ 3) (h4 : kk ≠ 4) (h5 : kk ≠ 5) :
  Calls Tryz.prog 41 #[v, .string (str t), .string (str f)] w (Post w0 K M (FldO (fieldO D t f))) := by
 have HR := hide (show fieldO D t f = none from if_pos ⟨by rw [hkk]; exact h3, by rw [hkk]; exact h4, by rw [hkk]; exact h5⟩)
 have n3 : (kk != 3) = true := by simp [h3]
 have n4 : (kk != 4) = true := by simp [h4]
 have n5 : (kk != 5) = true := by simp [h5]
 have m3 : (kk == 3) = false := by simp [h3]
 have m4 : (kk == 4) = false := by simp [h4]
 have m5 : (kk == 5) = false := by simp [h5]
 go_enter Tryz.func41, Tryz.ntmps41
 have hK := Sat.refl K
 go_upto_region 1 with (first
  | ((with_reducible refine isL ?_); first
   | (refine al z52 6 H ?_; clear H; intro w1 g6 H)))
 go_upto_region 2 with (first
  | (go_at_call 64; refine (all_t _ D _ _ K _ H hv).mono ?_; clear H; rintro e w5 ⟨K5, g5, rfl, hle, H, hT5⟩; replace hK := hle.trans hK))
 obtain ⟨ga, gd, gf, go, sch, VT, VD, OB, T⟩ := hT5
 have hT5 : TysK K5 g5 D := ⟨ga, gd, gf, go, sch, VT, VD, OB, T⟩
 go_upto_region 3 with (first
  | (go_at_call 79; refine (kind_is t _ g5 ga gd gf go sch VT VD D.schema D.types D.dirs _ _ _ _ H T.a hkk).mono ?_; clear H; rintro e wk ⟨rfl, H⟩))
 go_wp2_with (first
  | ((with_reducible refine isL ?_); first
   | (refine sA 6 0 H ?_; clear H; intro w5 H)))
 refine bodyPost_ret (results_box2 rfl _ _ g6 52 _ (0, 0) _ (by rfl) (H.blkAt (i := 0) rfl) Tryz.underlying52 rfl (by kernel_rfl)) rfl ?_
 replace H := H.sub (List.Sublist.cons _ (List.Sublist.refl _))
 exact ⟨K5, _, rfl, hK, H, _, by rw [HR.out]; rfl, by rw [HR.out]; exact rl_zeroF⟩
set_option maxHeartbeats 16000000 in
theorem Field_typename (v : Value) (t f : Txt) (kk : Int) (D : TysD) (w0 w K : World) (M : List Ent) (H : Hp w0 w K M) (hv : Tp K v D) (hW : TyW D) (hkk : kindOf D.types t = kk) (hk : kk = 3 ∨ kk = 4 ∨ kk = 5) (hf : f = typenameT) :
  Calls Tryz.prog 41 #[v, .string (str t), .string (str f)] w (Post w0 K M (FldO (fieldO D t f))) := by
 have HR := hide (show fieldO D t f = some ⟨noteZ, f, [], (stringT, [33]), [], 0, 0⟩ from (if_neg (by rw [hkk]; omega)).trans (if_pos hf))
 have hs := eq_typename f
 rw [decide_eq_true hf] at hs
 clear hf
 rcases hk with rfl | rfl | rfl
 · skip
   go_enter Tryz.func41, Tryz.ntmps41
   have hK := Sat.refl K
   go_upto_region 1 with (first
    | ((with_reducible refine isL ?_); first
     | (refine al z52 6 H ?_; clear H; intro w6 g6 H)))
   go_upto_region 2 with (first
    | (go_at_call 64; refine (all_t _ D _ _ K _ H hv).mono ?_; clear H; rintro e w5 ⟨K5, g5, rfl, hle, H, hT5⟩; replace hK := hle.trans hK))
   obtain ⟨ga, gd, gf, go, sch, VT, VD, OB, T⟩ := hT5
   have hT5 : TysK K5 g5 D := ⟨ga, gd, gf, go, sch, VT, VD, OB, T⟩
   go_upto_region 3 with (first
    | (go_at_call 79; refine (kind_is t _ g5 ga gd gf go sch VT VD D.schema D.types D.dirs _ _ _ _ H T.a hkk).mono ?_; clear H; rintro e wk ⟨rfl, H⟩))
   go_upto_region 6 with (fail)
   go_wp2_with (first
    | ((with_reducible refine isL ?_); first
     | (refine sA 6 0 H ?_; clear H; intro w10 H)))
   refine bodyPost_ret (results_box2 rfl _ _ g6 52 _ (0, 0) _ (by rfl) (H.blkAt (i := 0) rfl) Tryz.underlying52 rfl (by kernel_rfl)) rfl ?_
   replace H := H.sub (List.Sublist.cons _ (List.Sublist.refl _))
   exact ⟨K5, _, rfl, hK, H, _, by rw [HR.out]; rfl, by rw [HR.out]; exact rl_fld f stringT [33]⟩
 · skip
   go_enter Tryz.func41, Tryz.ntmps41
   have hK := Sat.refl K
   go_upto_region 1 with (first
    | ((with_reducible refine isL ?_); first
     | (refine al z52 6 H ?_; clear H; intro w11 g6 H)))
   go_upto_region 2 with (first
    | (go_at_call 64; refine (all_t _ D _ _ K _ H hv).mono ?_; clear H; rintro e w5 ⟨K5, g5, rfl, hle, H, hT5⟩; replace hK := hle.trans hK))
   obtain ⟨ga, gd, gf, go, sch, VT, VD, OB, T⟩ := hT5
   have hT5 : TysK K5 g5 D := ⟨ga, gd, gf, go, sch, VT, VD, OB, T⟩
   go_upto_region 3 with (first
    | (go_at_call 79; refine (kind_is t _ g5 ga gd gf go sch VT VD D.schema D.types D.dirs _ _ _ _ H T.a hkk).mono ?_; clear H; rintro e wk ⟨rfl, H⟩))
   go_upto_region 6 with (fail)
   go_wp2_with (first
    | ((with_reducible refine isL ?_); first
     | (refine sA 6 0 H ?_; clear H; intro w15 H)))
   refine bodyPost_ret (results_box2 rfl _ _ g6 52 _ (0, 0) _ (by rfl) (H.blkAt (i := 0) rfl) Tryz.underlying52 rfl (by kernel_rfl)) rfl ?_
   replace H := H.sub (List.Sublist.cons _ (List.Sublist.refl _))
   exact ⟨K5, _, rfl, hK, H, _, by rw [HR.out]; rfl, by rw [HR.out]; exact rl_fld f stringT [33]⟩
 · skip
   go_enter Tryz.func41, Tryz.ntmps41
   have hK := Sat.refl K
   go_upto_region 1 with (first
    | ((with_reducible refine isL ?_); first
     | (refine al z52 6 H ?_; clear H; intro w16 g6 H)))
   go_upto_region 2 with (first
    | (go_at_call 64; refine (all_t _ D _ _ K _ H hv).mono ?_; clear H; rintro e w5 ⟨K5, g5, rfl, hle, H, hT5⟩; replace hK := hle.trans hK))
   obtain ⟨ga, gd, gf, go, sch, VT, VD, OB, T⟩ := hT5
   have hT5 : TysK K5 g5 D := ⟨ga, gd, gf, go, sch, VT, VD, OB, T⟩
   go_upto_region 3 with (first
    | (go_at_call 79; refine (kind_is t _ g5 ga gd gf go sch VT VD D.schema D.types D.dirs _ _ _ _ H T.a hkk).mono ?_; clear H; rintro e wk ⟨rfl, H⟩))
   go_upto_region 6 with (fail)
   go_wp2_with (first
    | ((with_reducible refine isL ?_); first
     | (refine sA 6 0 H ?_; clear H; intro w20 H)))
   refine bodyPost_ret (results_box2 rfl _ _ g6 52 _ (0, 0) _ (by rfl) (H.blkAt (i := 0) rfl) Tryz.underlying52 rfl (by kernel_rfl)) rfl ?_
   replace H := H.sub (List.Sublist.cons _ (List.Sublist.refl _))
   exact ⟨K5, _, rfl, hK, H, _, by rw [HR.out]; rfl, by rw [HR.out]; exact rl_fld f stringT [33]⟩
abbrev argV : List Value := [.bool false, .bool false, .string ⟨#[]⟩, .string ⟨#[110, 97, 109, 101]⟩, .string ⟨#[83, 116, 114, 105, 110, 103]⟩, .string ⟨#[33]⟩, .bool false, .int .i64 0, .string ⟨#[]⟩, .bool false, .slice none 0 0, .slice none 0 0, .int .i64 0, .int .i64 0, .slice none 0 0, .int .i64 0, .int .i64 0]
theorem rl_argV {K : World} : RL K (inputsL [nameArgD]) argV := by unfold nameArgD; exact .lit (.lit (.lit (.lit (.lit (.lit (.lit (.lit (.lit (.lit (.cons RD.z (.cons RD.z (.lit (.lit (.cons RD.z (.lit (.lit RL.z))))))))))))))))
set_option maxHeartbeats 16000000 in
theorem Field_schema (v : Value) (t f : Txt) (D : TysD) (w0 w K : World) (M : List Ent) (H : Hp w0 w K M) (hv : Tp K v D) (hW : TyW D) (hkk : kindOf D.types t = 3) (ht : t = rootNm D.schema.roots 1) (hf : f = uschemaT) :
  Calls Tryz.prog 41 #[v, .string (str t), .string (str f)] w (Post w0 K M (FldO (fieldO D t f))) := by
 have hft : f ≠ typenameT := by rw [hf]; decide
 have HR := hide (show fieldO D t f = some ⟨noteZ, f, [], (uSchemaT, [33]), [], 0, 0⟩ from (if_neg (by rw [hkk]; omega)).trans ((if_neg hft).trans (if_pos ⟨hkk, ht, hf⟩)))
 have hs1 := eq_typename f
 have hs2 := eq_uschema f
 have hs4 := str_toList t (rootNm D.schema.roots 1)
 rw [decide_eq_false hft] at hs1
 rw [decide_eq_true hf] at hs2
 rw [decide_eq_true ht] at hs4
 clear hf hft ht
 go_enter Tryz.func41, Tryz.ntmps41
 have hK := Sat.refl K
 go_upto_region 1 with (first
  | ((with_reducible refine isL ?_); first
   | (refine al z52 6 H ?_; clear H; intro w21 g6 H)))
 go_upto_region 2 with (first
  | (go_at_call 64; refine (all_t _ D _ _ K _ H hv).mono ?_; clear H; rintro e w5 ⟨K5, g5, rfl, hle, H, hT5⟩; replace hK := hle.trans hK))
 obtain ⟨ga, gd, gf, go, sch, VT, VD, OB, T⟩ := hT5
 have hT5 : TysK K5 g5 D := ⟨ga, gd, gf, go, sch, VT, VD, OB, T⟩
 go_upto_region 3 with (first
  | (go_at_call 79; refine (kind_is t _ g5 ga gd gf go sch VT VD D.schema D.types D.dirs _ _ _ _ H T.a hkk).mono ?_; clear H; rintro e wk ⟨rfl, H⟩))
 go_upto_region 7 with (fail)
 go_upto_region 8 with (first
  | (go_at_call 17; refine (Root_t (.pointer (some ⟨g5, 0, none⟩)) 1 D _ _ _ _ H hT5.tp hW).mono ?_; clear H; rintro e w7 ⟨K7, rfl, hlew7, H⟩; replace hK := hlew7.trans hK; replace hT5 := hT5.sat hlew7))
 go_wp2_with (first
  | ((with_reducible refine isL ?_); first
   | (refine sA 6 0 H ?_; clear H; intro w26 H)))
 refine bodyPost_ret (results_box2 rfl _ _ g6 52 _ (0, 0) _ (by rfl) (H.blkAt (i := 0) rfl) Tryz.underlying52 rfl (by kernel_rfl)) rfl ?_
 replace H := H.sub (List.Sublist.cons _ (List.Sublist.refl _))
 exact ⟨K7, _, rfl, hK, H, _, by rw [HR.out]; rfl, by rw [HR.out]; exact rl_fld f uSchemaT [33]⟩
set_option maxHeartbeats 16000000 in
theorem Field_type (v : Value) (t f : Txt) (D : TysD) (w0 w K : World) (M : List Ent) (H : Hp w0 w K M) (hv : Tp K v D) (hW : TyW D) (hkk : kindOf D.types t = 3) (ht : t = rootNm D.schema.roots 1) (hf : f = utypeT) :
  Calls Tryz.prog 41 #[v, .string (str t), .string (str f)] w (Post w0 K M (FldO (fieldO D t f))) := by
 have hft : f ≠ typenameT := by rw [hf]; decide
 have hfs : f ≠ uschemaT := by rw [hf]; decide
 have HR := hide (show fieldO D t f = some ⟨noteZ, f, [nameArgD], (uTypeT, []), [], 0, 0⟩ from (if_neg (by rw [hkk]; omega)).trans ((if_neg hft).trans ((if_neg (fun h => hfs h.2.2)).trans (if_pos ⟨hkk, ht, hf⟩))))
 have hs1 := eq_typename f
 have hs2 := eq_uschema f
 have hs3 := eq_utype f
 have hs4 := str_toList t (rootNm D.schema.roots 1)
 rw [decide_eq_false hft] at hs1
 rw [decide_eq_false hfs] at hs2
 rw [decide_eq_true hf] at hs3
 rw [decide_eq_true ht] at hs4
 clear hf hft hfs ht
 go_enter Tryz.func41, Tryz.ntmps41
 have hK := Sat.refl K
 go_upto_region 1 with (first
  | ((with_reducible refine isL ?_); first
   | (refine al z52 6 H ?_; clear H; intro w27 g6 H)))
 go_upto_region 2 with (first
  | (go_at_call 64; refine (all_t _ D _ _ K _ H hv).mono ?_; clear H; rintro e w5 ⟨K5, g5, rfl, hle, H, hT5⟩; replace hK := hle.trans hK))
 obtain ⟨ga, gd, gf, go, sch, VT, VD, OB, T⟩ := hT5
 have hT5 : TysK K5 g5 D := ⟨ga, gd, gf, go, sch, VT, VD, OB, T⟩
 go_upto_region 3 with (first
  | (go_at_call 79; refine (kind_is t _ g5 ga gd gf go sch VT VD D.schema D.types D.dirs _ _ _ _ H T.a hkk).mono ?_; clear H; rintro e wk ⟨rfl, H⟩))
 go_upto_region 7 with (fail)
 go_upto_region 9 with (first
  | (go_at_call 17; refine (Root_t (.pointer (some ⟨g5, 0, none⟩)) 1 D _ _ _ _ H hT5.tp hW).mono ?_; clear H; rintro e w7 ⟨K7, rfl, hlew7, H⟩; replace hK := hlew7.trans hK; replace hT5 := hT5.sat hlew7))
 go_upto_region 10 with (first
  | (go_at_call 17; refine (Root_t (.pointer (some ⟨g5, 0, none⟩)) 1 D _ _ _ _ H hT5.tp hW).mono ?_; clear H; rintro e w8 ⟨K8, rfl, hlew8, H⟩; replace hK := hlew8.trans hK; replace hT5 := hT5.sat hlew8))
 go_upto_region 11 with (first
  | ((with_reducible refine isL ?_); first
   | (refine al z123 9 H ?_; clear H; intro w33 g9 H)
   | (refine sA 9 0 H ?_; clear H; intro w35 H)))
 go_wp2_with (first
  | (refine buildSlice_hp (by rfl) 37 123 1 _ (by rfl) (some 69) (by rfl) Tryz.underlying37 [.bool false, .bool false, .string ⟨#[]⟩, .string ⟨#[110, 97, 109, 101]⟩, .string ⟨#[83, 116, 114, 105, 110, 103]⟩, .string ⟨#[33]⟩, .bool false, .int .i64 0, .string ⟨#[]⟩, .bool false, .slice none 0 0, .slice none 0 0, .int .i64 0, .int .i64 0, .slice none 0 0, .int .i64 0, .int .i64 0] (by kernel_rfl) H ?_; clear H; intro w36 g69 H; obtain ⟨K9, hle37, H, hin⟩ := H.freezeBox (n := 1) (ls := inputsL [nameArgD]) (rl_argV) (by simp only [maxLen]; omega); replace hK := hle37.trans hK)
  | ((with_reducible refine isL ?_); first
   | (refine ld 9 0 17 Tryz.underlying123 H ?_)
   | (refine sA 6 1 H ?_; clear H; intro w38 H)))
 replace H := H.sub (List.Sublist.cons _ (List.Sublist.cons_cons _ (List.Sublist.refl _)))
 refine bodyPost_ret (results_box2 rfl _ _ g6 52 _ (0, 0) _ (by rfl) (H.blkAt (i := 0) rfl) Tryz.underlying52 rfl (by kernel_rfl)) rfl ?_
 replace H := H.sub (List.Sublist.cons _ (List.Sublist.refl _))
 exact ⟨K9, _, rfl, hK, H, _, by rw [HR.out]; rfl, by rw [HR.out]; exact rl_fldA f uTypeT [] hin⟩
set_option maxHeartbeats 16000000 in
theorem Field_union (v : Value) (t f : Txt) (D : TysD) (w0 w K : World) (M : List Ent) (H : Hp w0 w K M) (hv : Tp K v D) (hW : TyW D) (hkk : kindOf D.types t = 5) (hft : f ≠ typenameT) :
  Calls Tryz.prog 41 #[v, .string (str t), .string (str f)] w (Post w0 K M (FldO (fieldO D t f))) := by
 have HR := hide (show fieldO D t f = none from (if_neg (by rw [hkk]; omega)).trans ((if_neg hft).trans ((if_neg (fun h => by rw [hkk] at h; omega)).trans ((if_neg (fun h => by rw [hkk] at h; omega)).trans (if_pos hkk)))))
 have hs1 := eq_typename f
 rw [decide_eq_false hft] at hs1
 clear hft
 go_enter Tryz.func41, Tryz.ntmps41
 have hK := Sat.refl K
 go_upto_region 1 with (first
  | ((with_reducible refine isL ?_); first
   | (refine al z52 6 H ?_; clear H; intro w39 g6 H)))
 go_upto_region 2 with (first
  | (go_at_call 64; refine (all_t _ D _ _ K _ H hv).mono ?_; clear H; rintro e w5 ⟨K5, g5, rfl, hle, H, hT5⟩; replace hK := hle.trans hK))
 obtain ⟨ga, gd, gf, go, sch, VT, VD, OB, T⟩ := hT5
 have hT5 : TysK K5 g5 D := ⟨ga, gd, gf, go, sch, VT, VD, OB, T⟩
 go_upto_region 3 with (first
  | (go_at_call 79; refine (kind_is t _ g5 ga gd gf go sch VT VD D.schema D.types D.dirs _ _ _ _ H T.a hkk).mono ?_; clear H; rintro e wk ⟨rfl, H⟩))
 go_upto_region 13 with (fail)
 go_wp2_with (first
  | ((with_reducible refine isL ?_); first
   | (refine sA 6 0 H ?_; clear H; intro w43 H)))
 refine bodyPost_ret (results_box2 rfl _ _ g6 52 _ (0, 0) _ (by rfl) (H.blkAt (i := 0) rfl) Tryz.underlying52 rfl (by kernel_rfl)) rfl ?_
 replace H := H.sub (List.Sublist.cons _ (List.Sublist.refl _))
 exact ⟨K5, _, rfl, hK, H, _, by rw [HR.out]; rfl, by rw [HR.out]; exact rl_zeroF⟩
theorem at_range {w : World} {B O : Nat} {vs : List Value} (h : At w ⟨B, O, none⟩ vs) : w.rangeAt B O vs := fun k u hu => by
 cases k with
 | zero => exact h.1 u hu
 | succ k => exact h.2 k u hu
theorem range_sat {w K : World} {B O : Nat} {vs : List Value} (h : K.rangeAt B O vs) (hs : Sat w K) : w.rangeAt B O vs := fun k u hu => hs.cell (h k u hu)
theorem At.sat_cell {w K : World} {p : Addr} {v : Value} (h : K.cell? p = some v) (hs : Sat w K) : w.cell? p = some v := hs.cell h
theorem fieldO_k {D : TysD} {t f : Txt} {k i : Nat} {d : DefD} {fd : FieldD} (hk : kfind D.fields (t, f) = some (.int .i64 ((k : Nat) : Int))) (hi : numOf D.types t = some i) (hd : D.types[i]? = some d) (hf : d.fields[k]? = some fd) :
  (match kfind D.fields (t, f) with | some (.int .i64 k) => (lookD D.types t).bind fun d => d.fields[k.toNat]? | _ => none) = some fd := by
 rw [hk]
 simp only [Int.toNat_natCast]
 rw [lookD_some hi hd]
 exact hf
set_option maxHeartbeats 16000000 in
theorem Field_iface (v : Value) (t f : Txt) (D : TysD) (w0 w K : World) (M : List Ent) (H : Hp w0 w K M) (hv : Tp K v D) (hW : TyW D) (hkk : kindOf D.types t = 4) (hft : f ≠ typenameT) :
  Calls Tryz.prog 41 #[v, .string (str t), .string (str f)] w (Post w0 K M (FldO (fieldO D t f))) := by
 have HX := (show fieldO D t f = _ from (if_neg (by rw [hkk]; omega)).trans ((if_neg hft).trans ((if_neg (fun h => by rw [hkk] at h; omega)).trans ((if_neg (fun h => by rw [hkk] at h; omega)).trans (if_neg (by rw [hkk]; omega))))))
 have HRN := hide (fun (hk : kfind D.fields (t, f) = none) => HX.trans (by rw [hk]))
 have HRS := hide (fun (k i : Nat) (d : DefD) (fd : FieldD) hk hi hd hf => HX.trans (fieldO_k (k := k) (i := i) (d := d) (fd := fd) hk hi hd hf))
 have hs1 := eq_typename f
 rw [decide_eq_false hft] at hs1
 clear hft HX
 go_enter Tryz.func41, Tryz.ntmps41
 have hK := Sat.refl K
 go_upto_region 1 with (first
  | ((with_reducible refine isL ?_); first
   | (refine al z52 6 H ?_; clear H; intro w44 g6 H)))
 go_upto_region 2 with (first
  | (go_at_call 64; refine (all_t _ D _ _ K _ H hv).mono ?_; clear H; rintro e w5 ⟨K5, g5, rfl, hle, H, hT5⟩; replace hK := hle.trans hK))
 obtain ⟨ga, gd, gf, go, sch, VT, VD, OB, T⟩ := hT5
 have hT5 : TysK K5 g5 D := ⟨ga, gd, gf, go, sch, VT, VD, OB, T⟩
 go_upto_region 3 with (first
  | (go_at_call 79; refine (kind_is t _ g5 ga gd gf go sch VT VD D.schema D.types D.dirs _ _ _ _ H T.a hkk).mono ?_; clear H; rintro e wk ⟨rfl, H⟩))
 go_upto_region 14 with (fail)
 obtain ⟨ga6, gd6, gf6, go6, sch6, VT6, VD6, OB6, T6⟩ := hT5
 have hcF := H.kcell T6.a.box T6.a.c21
 cases hk : kfind D.fields (t, f) with
 | none =>
  have HR := hide (HRN.out hk)
  go_wp2_with (first
   | (refine lookup_k (by rfl) (.tmp 79) (.tmp 82) 88 true (by rfl) Tryz.underlying88 (keys_p pairT) (.int .i64 0) zero_int gf6 (D.fields) (H.kmap T6.fields) (by first | rfl | simp [Act.eval, Act.put]) ((t, f)) (by first | rfl | simp [Act.eval, Act.put]) (.tuple #[.int .i64 0, .bool false]) (by rw [hk]; rfl) ?_)
   | ((with_reducible refine isL ?_); first
    | (refine sA 6 0 H ?_; clear H; intro w48 H)))
  refine bodyPost_ret (results_box2 rfl _ _ g6 52 _ (0, 0) _ (by rfl) (H.blkAt (i := 0) rfl) Tryz.underlying52 rfl (by kernel_rfl)) rfl ?_
  replace H := H.sub (List.Sublist.cons _ (List.Sublist.refl _))
  exact ⟨K5, _, rfl, hK, H, _, by rw [HR.out]; rfl, by rw [HR.out]; exact rl_zeroF⟩
 | some y =>
  obtain ⟨i, d, k, fd, hi, hd, hfd, -, hy⟩ := kfind_ok hW.nd hW.f hk
  subst hy
  have HR := hide (HRS.out k i d fd hk hi hd hfd)
  have hq := nmap_kfind D.types t
  rw [hi] at hq
  replace hq : kfind (nmap (namesD D.types)) t = some (.int .i64 (i : Int)) := hq
  have hlt := numOf_lt hi
  have hltI : (i : Int) < (D.types.length : Int) := by omega
  have hklt := (List.getElem?_eq_some_iff.1 hfd).1
  have hkltI : (k : Int) < (d.fields.length : Int) := by omega
  have hN := hW.nT
  have hdn := defN_at hd
  have hfn := fieldN_at hfd
  have hfm : fieldN fd ≤ 9000000 := by omega
  have hTy := T6.a.types
  have hcT := T6.a.c17
  obtain ⟨A, c, hVT, hc1, hc2⟩ := slice_of hTy
  rw [hVT] at hTy
  obtain ⟨ad, xs, hA, hxd, hxl, hatK⟩ := elem_k (m := 17) (f := defL) defL_len hTy hd (by omega)
  subst hA
  obtain ⟨B, O, hBO⟩ := slice_plain (m := 17) (f := defL) defL_len hTy (by omega) (by omega)
  subst hBO
  obtain ⟨A6, c6, A7, c7, A8, c8, A9, c9, A10, c10, A11, c11, A12, c12, A14, c14, hcs, -, -, hfa, -, -, -, -, -⟩ := def_cells hxd
  subst hcs
  subst hVT
  rw [plain_add] at hatK
  have hcI := hatK.2 7 _ rfl
  obtain ⟨ad2, ys, hA2, hyd, hyl, hyK⟩ := elem_k (m := 10) (f := fieldL) (fun _ => rfl) hfa hfd (by omega)
  subst hA2
  obtain ⟨B2, O2, hBO2⟩ := slice_plain (m := 10) (f := fieldL) (fun _ => rfl) hfa (by omega) (by omega)
  subst hBO2
  rw [plain_add] at hyK
  have hrK := at_range hyK
  have hsz : (Tryz.prog.info? 52).map (·.size) = some ys.length := by rw [hyl]; exact field_size
  go_upto_region 15 with (first
   | (refine lookup_k (by rfl) (.tmp 79) (.tmp 82) 88 true (by rfl) Tryz.underlying88 (keys_p pairT) (.int .i64 0) zero_int gf6 (D.fields) (H.kmap T6.fields) (by first | rfl | simp [Act.eval, Act.put]) ((t, f)) (by first | rfl | simp [Act.eval, Act.put]) (.tuple #[.int .i64 (k : Int), .bool true]) (by rw [hk]; rfl) ?_))
  go_upto_region 17 with (fail)
  refine held.begin_ (fun w' => w'.cell? ⟨g5, 17, none⟩ = some (.slice (some ⟨B, O, none⟩) D.types.length c) ∧ w'.cell? ⟨g5, 18, none⟩ = some (.map (some ga6)) ∧ (Instr.lookup 87 (.map (some ga6)) (.string (str t)) false).run Tryz.prog w' = .ok (.int .i64 (i : Int)) w' ∧ w'.cell? ⟨B, O + i * 17 + (7 + 1), none⟩ = some (.slice (some ⟨B2, O2, none⟩) d.fields.length c8) ∧ w'.rangeAt B2 (O2 + k * 10) ys) [] (by kernel_rfl) ?_
  replace H := H.drew1
  obtain ⟨w49, hq50⟩ : ∃ x, (wk).drew = x := ⟨_, rfl⟩
  rw [hq50] at H ⊢
  clear hq50
  have hS51 : w49.cell? ⟨g5, 17, none⟩ = some (.slice (some ⟨B, O, none⟩) D.types.length c) ∧ w49.cell? ⟨g5, 18, none⟩ = some (.map (some ga6)) ∧ (Instr.lookup 87 (.map (some ga6)) (.string (str t)) false).run Tryz.prog w49 = .ok (.int .i64 (i : Int)) w49 ∧ w49.cell? ⟨B, O + i * 17 + (7 + 1), none⟩ = some (.slice (some ⟨B2, O2, none⟩) d.fields.length c8) ∧ w49.rangeAt B2 (O2 + k * 10) ys := ⟨H.kcell T6.a.box T6.a.c17, H.kcell T6.a.box T6.a.c18, (run_lookup_k Tryz.underlying87 (keys_s Tryz.underlying9) (.int .i64 0) (zero_int _) (H.kmap T6.a.at_) t false).trans (by rw [hq]; rfl), H.sat.cell hcI, range_sat hrK H.sat⟩
  refine held.take (i := 0) (v := ?_) rfl (by kernel_rfl) (by kernel_rfl) (by kernel_rfl) (by kernel_rfl) (by kernel_rfl) (fun _ _ _ h => h) (Or.inl ⟨by rfl, ?_⟩) hS51 ?_
  rotate_left
  · intro w hSw
    try dsimp only at hSw
    go_simp
    try with_reducible rfl
  try simp only [Act.put, List.getElem_toArray, List.getElem_cons_zero, List.getElem_cons_succ, List.setIfInBounds_toArray, List.set_cons_zero, List.set_cons_succ]
  refine held.take (i := 1) (v := ?_) rfl (by kernel_rfl) (by kernel_rfl) (by kernel_rfl) (by kernel_rfl) (by kernel_rfl) (fun _ _ _ h => h) (Or.inl ⟨by rfl, ?_⟩) hS51 ?_
  rotate_left
  · intro w hSw
    try dsimp only at hSw
    go_simp
    try with_reducible rfl
  try simp only [Act.put, List.getElem_toArray, List.getElem_cons_zero, List.getElem_cons_succ, List.setIfInBounds_toArray, List.set_cons_zero, List.set_cons_succ]
  refine held.take (i := 2) (v := ?_) rfl (by kernel_rfl) (by kernel_rfl) (by kernel_rfl) (by kernel_rfl) (by kernel_rfl) (fun _ _ _ h => h) (Or.inl ⟨by rfl, ?_⟩) hS51 ?_
  rotate_left
  · intro w hSw
    try dsimp only at hSw
    go_simp
    try with_reducible rfl
  try simp only [Act.put, List.getElem_toArray, List.getElem_cons_zero, List.getElem_cons_succ, List.setIfInBounds_toArray, List.set_cons_zero, List.set_cons_succ]
  refine held.take (i := 3) (v := ?_) rfl (by kernel_rfl) (by kernel_rfl) (by kernel_rfl) (by kernel_rfl) (by kernel_rfl) (fun _ _ _ h => h) (Or.inl ⟨by rfl, ?_⟩) hS51 ?_
  rotate_left
  · intro w hSw
    try dsimp only at hSw
    go_simp
    try with_reducible rfl
  try simp only [Act.put, List.getElem_toArray, List.getElem_cons_zero, List.getElem_cons_succ, List.setIfInBounds_toArray, List.set_cons_zero, List.set_cons_succ]
  refine held.take (i := 4) (v := ?_) rfl (by kernel_rfl) (by kernel_rfl) (by kernel_rfl) (by kernel_rfl) (by kernel_rfl) (fun _ _ _ h => h) (Or.inl ⟨by rfl, ?_⟩) hS51 ?_
  rotate_left
  · intro w hSw
    try dsimp only at hSw
    go_simp
    try with_reducible rfl
  try simp only [Act.put, List.getElem_toArray, List.getElem_cons_zero, List.getElem_cons_succ, List.setIfInBounds_toArray, List.set_cons_zero, List.set_cons_succ]
  refine held.take (i := 5) (v := ?_) rfl (by kernel_rfl) (by kernel_rfl) (by kernel_rfl) (by kernel_rfl) (by kernel_rfl) (fun _ _ _ h => h) (Or.inl ⟨by rfl, ?_⟩) hS51 ?_
  rotate_left
  · intro w hSw
    try dsimp only at hSw
    go_simp
    try with_reducible rfl
  try simp only [Act.put, List.getElem_toArray, List.getElem_cons_zero, List.getElem_cons_succ, List.setIfInBounds_toArray, List.set_cons_zero, List.set_cons_succ]
  refine held.take (i := 6) (v := ?_) rfl (by kernel_rfl) (by kernel_rfl) (by kernel_rfl) (by kernel_rfl) (by kernel_rfl) (fun _ _ _ h => h) (Or.inl ⟨by rfl, ?_⟩) hS51 ?_
  rotate_left
  · intro w hSw
    try dsimp only at hSw
    go_simp
    try with_reducible rfl
  try simp only [Act.put, List.getElem_toArray, List.getElem_cons_zero, List.getElem_cons_succ, List.setIfInBounds_toArray, List.set_cons_zero, List.set_cons_succ]
  refine held.take (i := 7) (v := ?_) rfl (by kernel_rfl) (by kernel_rfl) (by kernel_rfl) (by kernel_rfl) (by kernel_rfl) (fun _ _ _ h => h) (Or.inl ⟨by rfl, ?_⟩) hS51 ?_
  rotate_left
  · intro w hSw
    try dsimp only at hSw
    go_simp
    try with_reducible rfl
  try simp only [Act.put, List.getElem_toArray, List.getElem_cons_zero, List.getElem_cons_succ, List.setIfInBounds_toArray, List.set_cons_zero, List.set_cons_succ]
  refine held.take (i := 8) (v := ?_) rfl (by kernel_rfl) (by kernel_rfl) (by kernel_rfl) (by kernel_rfl) (by kernel_rfl) (fun _ _ _ h => h) (Or.inl ⟨by rfl, ?_⟩) hS51 ?_
  rotate_left
  · intro w hSw
    try dsimp only at hSw
    go_simp
    try with_reducible rfl
  try simp only [Act.put, List.getElem_toArray, List.getElem_cons_zero, List.getElem_cons_succ, List.setIfInBounds_toArray, List.set_cons_zero, List.set_cons_succ]
  refine held.take (i := 9) (v := ?_) rfl (by kernel_rfl) (by kernel_rfl) (by kernel_rfl) (by kernel_rfl) (by kernel_rfl) (fun _ _ _ h => h) (Or.inl ⟨by rfl, ?_⟩) hS51 ?_
  rotate_left
  · intro w hSw
    try dsimp only at hSw
    go_simp
    try with_reducible rfl
  try simp only [Act.put, List.getElem_toArray, List.getElem_cons_zero, List.getElem_cons_succ, List.setIfInBounds_toArray, List.set_cons_zero, List.set_cons_succ]
  refine held.take (i := 10) (v := ?_) rfl (by kernel_rfl) (by kernel_rfl) (by kernel_rfl) (by kernel_rfl) (by kernel_rfl) (fun _ _ _ h => h) (Or.inl ⟨by rfl, ?_⟩) hS51 ?_
  rotate_left
  · intro w hSw
    try dsimp only at hSw
    go_simp
    try with_reducible rfl
  try simp only [Act.put, List.getElem_toArray, List.getElem_cons_zero, List.getElem_cons_succ, List.setIfInBounds_toArray, List.set_cons_zero, List.set_cons_succ]
  refine held.take (i := 11) (v := ?_) rfl (by kernel_rfl) (by kernel_rfl) (by kernel_rfl) (by kernel_rfl) (by kernel_rfl) (fun _ _ _ h => h) (Or.inl ⟨by rfl, ?_⟩) hS51 ?_
  rotate_left
  · intro w hSw
    try dsimp only at hSw
    go_simp
    try with_reducible rfl
  try simp only [Act.put, List.getElem_toArray, List.getElem_cons_zero, List.getElem_cons_succ, List.setIfInBounds_toArray, List.set_cons_zero, List.set_cons_succ]
  refine held.take (i := 12) (v := ?_) rfl (by kernel_rfl) (by kernel_rfl) (by kernel_rfl) (by kernel_rfl) (by kernel_rfl) (fun _ _ _ h => h) (Or.inl ⟨by rfl, ?_⟩) hS51 ?_
  rotate_left
  · intro w hSw
    try dsimp only at hSw
    go_simp
    try with_reducible rfl
  try simp only [Act.put, List.getElem_toArray, List.getElem_cons_zero, List.getElem_cons_succ, List.setIfInBounds_toArray, List.set_cons_zero, List.set_cons_succ]
  refine held.take (i := 13) (v := ?_) rfl (by kernel_rfl) (by kernel_rfl) (by kernel_rfl) (by kernel_rfl) (by kernel_rfl) (fun _ _ _ h => h) (Or.inl ⟨by rfl, ?_⟩) hS51 ?_
  rotate_left
  · intro w hSw
    try dsimp only at hSw
    go_simp
    try with_reducible rfl
  try simp only [Act.put, List.getElem_toArray, List.getElem_cons_zero, List.getElem_cons_succ, List.setIfInBounds_toArray, List.set_cons_zero, List.set_cons_succ]
  refine held.take (i := 14) (v := ?_) rfl (by kernel_rfl) (by kernel_rfl) (by kernel_rfl) (by kernel_rfl) (by kernel_rfl) (fun _ _ _ h => h) (Or.inl ⟨by rfl, ?_⟩) hS51 ?_
  rotate_left
  · intro w hSw
    try dsimp only at hSw
    go_simp
    try with_reducible rfl
  try simp only [Act.put, List.getElem_toArray, List.getElem_cons_zero, List.getElem_cons_succ, List.setIfInBounds_toArray, List.set_cons_zero, List.set_cons_succ]
  refine held.take (i := 15) (v := _) rfl (by kernel_rfl) (by kernel_rfl) (by kernel_rfl) (by kernel_rfl) (by kernel_rfl) (fun _ _ _ h => h) (yieldsIf_load_mid (by rfl) 52 (.tmp 103) (by rfl) B2 (O2 + k * 10) (by first | rfl | simp [Act.eval, Act.put]) (ys) _ (fun w h => h.2.2.2.2) Tryz.underlying52 rfl hsz) hS51 ?_
  try simp only [Act.put, List.getElem_toArray, List.getElem_cons_zero, List.getElem_cons_succ, List.setIfInBounds_toArray, List.set_cons_zero, List.set_cons_succ]
  refine held.step (i := 16) (by kernel_rfl) rfl (fun Kq hKq => ?_)
  go_simp
  refine (copyField_hp fd ys.toArray H hfm hyd).mono ?_
  clear H
  rintro e wz ⟨Kz, cs5, rfl, hlez, H, hd5⟩
  replace hK := hlez.trans hK
  obtain ⟨E4, e4, E7, e7, hcs5, -, -⟩ := fieldD_cells hd5
  obtain rfl : cs5 = #[.bool fd.note.has, .bool fd.note.block, .string (str fd.note.text), .string (str fd.name), .slice E4 fd.args.length e4, .string (str fd.ty.1), .string (str fd.ty.2), .slice E7 fd.dirs.length e7, .int .i64 fd.line, .int .i64 fd.col] := Array.toList_inj.1 hcs5
  replace T6 := T6.sat hlez
  replace hcI := At.sat_cell hcI hlez
  replace hrK := range_sat hrK hlez
  replace H : Hp _ _ _ (_ :: M) := H
  try go_simp
  have hS52 : wz.cell? ⟨g5, 17, none⟩ = some (.slice (some ⟨B, O, none⟩) D.types.length c) ∧ wz.cell? ⟨g5, 18, none⟩ = some (.map (some ga6)) ∧ (Instr.lookup 87 (.map (some ga6)) (.string (str t)) false).run Tryz.prog wz = .ok (.int .i64 (i : Int)) wz ∧ wz.cell? ⟨B, O + i * 17 + (7 + 1), none⟩ = some (.slice (some ⟨B2, O2, none⟩) d.fields.length c8) ∧ wz.rangeAt B2 (O2 + k * 10) ys := ⟨H.kcell T6.a.box T6.a.c17, H.kcell T6.a.box T6.a.c18, (run_lookup_k Tryz.underlying87 (keys_s Tryz.underlying9) (.int .i64 0) (zero_int _) (H.kmap T6.a.at_) t false).trans (by rw [hq]; rfl), H.sat.cell hcI, range_sat hrK H.sat⟩
  refine hKq.out _ _ (fun _ => hS52) (fun _ => ?_)
  clear hKq Kq
  refine held.step (i := 17) (by kernel_rfl) rfl (fun Kq hKq => ?_)
  refine step_store_hp (by rfl) 52 (.tmp 6) (.tmp 105) (by rfl) g6 0 (by first | rfl | simp [Act.eval, Act.put]) (.agg #[.bool fd.note.has, .bool fd.note.block, .string (str fd.note.text), .string (str fd.name), .slice E4 fd.args.length e4, .string (str fd.ty.1), .string (str fd.ty.2), .slice E7 fd.dirs.length e7, .int .i64 fd.line, .int .i64 fd.col]) (by first | rfl | simp [Act.eval, Act.put]) [.bool fd.note.has, .bool fd.note.block, .string (str fd.note.text), .string (str fd.name), .slice E4 fd.args.length e4, .string (str fd.ty.1), .string (str fd.ty.2), .slice E7 fd.dirs.length e7, .int .i64 fd.line, .int .i64 fd.col] (by rfl) (by simp [Value.oneCell']) (by kernel_rfl) H 0 [.bool false, .bool false, .string ⟨#[]⟩, .string ⟨#[]⟩, .slice none 0 0, .string ⟨#[]⟩, .string ⟨#[]⟩, .slice none 0 0, .int .i64 0, .int .i64 0] [.bool fd.note.has, .bool fd.note.block, .string (str fd.note.text), .string (str fd.name), .slice E4 fd.args.length e4, .string (str fd.ty.1), .string (str fd.ty.2), .slice E7 fd.dirs.length e7, .int .i64 fd.line, .int .i64 fd.col] 52 (by rfl) (Nat.le_of_ble_eq_true (by rfl)) (by rfl) ?_
  clear H
  intro w53 H
  replace H : Hp _ _ _ (_ :: M) := H
  have hS54 : w53.cell? ⟨g5, 17, none⟩ = some (.slice (some ⟨B, O, none⟩) D.types.length c) ∧ w53.cell? ⟨g5, 18, none⟩ = some (.map (some ga6)) ∧ (Instr.lookup 87 (.map (some ga6)) (.string (str t)) false).run Tryz.prog w53 = .ok (.int .i64 (i : Int)) w53 ∧ w53.cell? ⟨B, O + i * 17 + (7 + 1), none⟩ = some (.slice (some ⟨B2, O2, none⟩) d.fields.length c8) ∧ w53.rangeAt B2 (O2 + k * 10) ys := ⟨H.kcell T6.a.box T6.a.c17, H.kcell T6.a.box T6.a.c18, (run_lookup_k Tryz.underlying87 (keys_s Tryz.underlying9) (.int .i64 0) (zero_int _) (H.kmap T6.a.at_) t false).trans (by rw [hq]; rfl), H.sat.cell hcI, range_sat hrK H.sat⟩
  refine hKq.out _ _ (fun _ => hS54) (fun _ => ?_)
  clear hKq Kq
  try simp only [Act.put, List.getElem_toArray, List.getElem_cons_zero, List.getElem_cons_succ, List.setIfInBounds_toArray, List.set_cons_zero, List.set_cons_succ]
  refine held.take (i := 18) (v := ?_) rfl (by kernel_rfl) (by kernel_rfl) (by kernel_rfl) (by kernel_rfl) (by kernel_rfl) (fun _ _ _ h => h) (Or.inl ⟨by rfl, ?_⟩) hS54 ?_
  rotate_left
  · intro w hSw
    try dsimp only at hSw
    go_simp
    try with_reducible rfl
  try simp only [Act.put, List.getElem_toArray, List.getElem_cons_zero, List.getElem_cons_succ, List.setIfInBounds_toArray, List.set_cons_zero, List.set_cons_succ]
  refine held.done (by kernel_rfl) ?_ _
  go_wp2_with fail
  refine bodyPost_ret (results_box2 rfl _ _ g6 52 _ (0, 0) _ (by rfl) (H.blkAt (i := 0) rfl) Tryz.underlying52 rfl (by kernel_rfl)) rfl ?_
  replace H := H.sub (List.Sublist.cons _ (List.Sublist.refl _))
  exact ⟨Kz, _, rfl, hK, H, _, by rw [HR.out]; rfl, by rw [HR.out]; exact hd5⟩
set_option maxHeartbeats 16000000 in
theorem Field_root (v : Value) (t f : Txt) (D : TysD) (w0 w K : World) (M : List Ent) (H : Hp w0 w K M) (hv : Tp K v D) (hW : TyW D) (hkk : kindOf D.types t = 3) (ht : t = rootNm D.schema.roots 1) (hft : f ≠ typenameT) (hfs : f ≠ uschemaT) (hfu : f ≠ utypeT) :
  Calls Tryz.prog 41 #[v, .string (str t), .string (str f)] w (Post w0 K M (FldO (fieldO D t f))) := by
 have HX := (show fieldO D t f = _ from (if_neg (by rw [hkk]; omega)).trans ((if_neg hft).trans ((if_neg (fun h => hfs h.2.2)).trans ((if_neg (fun h => hfu h.2.2)).trans (if_neg (by rw [hkk]; omega))))))
 have HRN := hide (fun (hk : kfind D.fields (t, f) = none) => HX.trans (by rw [hk]))
 have HRS := hide (fun (k i : Nat) (d : DefD) (fd : FieldD) hk hi hd hf => HX.trans (fieldO_k (k := k) (i := i) (d := d) (fd := fd) hk hi hd hf))
 have hs1 := eq_typename f
 have hs2 := eq_uschema f
 have hs3 := eq_utype f
 have hs4 := str_toList t (rootNm D.schema.roots 1)
 rw [decide_eq_false hft] at hs1
 rw [decide_eq_false hfs] at hs2
 rw [decide_eq_false hfu] at hs3
 rw [decide_eq_true ht] at hs4
 clear hft hfs hfu ht HX
 go_enter Tryz.func41, Tryz.ntmps41
 have hK := Sat.refl K
 go_upto_region 1 with (first
  | ((with_reducible refine isL ?_); first
   | (refine al z52 6 H ?_; clear H; intro w55 g6 H)))
 go_upto_region 2 with (first
  | (go_at_call 64; refine (all_t _ D _ _ K _ H hv).mono ?_; clear H; rintro e w5 ⟨K5, g5, rfl, hle, H, hT5⟩; replace hK := hle.trans hK))
 obtain ⟨ga, gd, gf, go, sch, VT, VD, OB, T⟩ := hT5
 have hT5 : TysK K5 g5 D := ⟨ga, gd, gf, go, sch, VT, VD, OB, T⟩
 go_upto_region 3 with (first
  | (go_at_call 79; refine (kind_is t _ g5 ga gd gf go sch VT VD D.schema D.types D.dirs _ _ _ _ H T.a hkk).mono ?_; clear H; rintro e wk ⟨rfl, H⟩))
 go_upto_region 7 with (fail)
 go_upto_region 9 with (first
  | (go_at_call 17; refine (Root_t (.pointer (some ⟨g5, 0, none⟩)) 1 D _ _ _ _ H hT5.tp hW).mono ?_; clear H; rintro e w7 ⟨K7, rfl, hlew7, H⟩; replace hK := hlew7.trans hK; replace hT5 := hT5.sat hlew7))
 go_upto_region 14 with (first
  | (go_at_call 17; refine (Root_t (.pointer (some ⟨g5, 0, none⟩)) 1 D _ _ _ _ H hT5.tp hW).mono ?_; clear H; rintro e w8 ⟨K8, rfl, hlew8, H⟩; replace hK := hlew8.trans hK; replace hT5 := hT5.sat hlew8))
 obtain ⟨ga6, gd6, gf6, go6, sch6, VT6, VD6, OB6, T6⟩ := hT5
 have hcF := H.kcell T6.a.box T6.a.c21
 cases hk : kfind D.fields (t, f) with
 | none =>
  have HR := hide (HRN.out hk)
  go_wp2_with (first
   | (refine lookup_k (by rfl) (.tmp 79) (.tmp 82) 88 true (by rfl) Tryz.underlying88 (keys_p pairT) (.int .i64 0) zero_int gf6 (D.fields) (H.kmap T6.fields) (by first | rfl | simp [Act.eval, Act.put]) ((t, f)) (by first | rfl | simp [Act.eval, Act.put]) (.tuple #[.int .i64 0, .bool false]) (by rw [hk]; rfl) ?_)
   | ((with_reducible refine isL ?_); first
    | (refine sA 6 0 H ?_; clear H; intro w61 H)))
  refine bodyPost_ret (results_box2 rfl _ _ g6 52 _ (0, 0) _ (by rfl) (H.blkAt (i := 0) rfl) Tryz.underlying52 rfl (by kernel_rfl)) rfl ?_
  replace H := H.sub (List.Sublist.cons _ (List.Sublist.refl _))
  exact ⟨K8, _, rfl, hK, H, _, by rw [HR.out]; rfl, by rw [HR.out]; exact rl_zeroF⟩
 | some y =>
  obtain ⟨i, d, k, fd, hi, hd, hfd, -, hy⟩ := kfind_ok hW.nd hW.f hk
  subst hy
  have HR := hide (HRS.out k i d fd hk hi hd hfd)
  have hq := nmap_kfind D.types t
  rw [hi] at hq
  replace hq : kfind (nmap (namesD D.types)) t = some (.int .i64 (i : Int)) := hq
  have hlt := numOf_lt hi
  have hltI : (i : Int) < (D.types.length : Int) := by omega
  have hklt := (List.getElem?_eq_some_iff.1 hfd).1
  have hkltI : (k : Int) < (d.fields.length : Int) := by omega
  have hN := hW.nT
  have hdn := defN_at hd
  have hfn := fieldN_at hfd
  have hfm : fieldN fd ≤ 9000000 := by omega
  have hTy := T6.a.types
  have hcT := T6.a.c17
  obtain ⟨A, c, hVT, hc1, hc2⟩ := slice_of hTy
  rw [hVT] at hTy
  obtain ⟨ad, xs, hA, hxd, hxl, hatK⟩ := elem_k (m := 17) (f := defL) defL_len hTy hd (by omega)
  subst hA
  obtain ⟨B, O, hBO⟩ := slice_plain (m := 17) (f := defL) defL_len hTy (by omega) (by omega)
  subst hBO
  obtain ⟨A6, c6, A7, c7, A8, c8, A9, c9, A10, c10, A11, c11, A12, c12, A14, c14, hcs, -, -, hfa, -, -, -, -, -⟩ := def_cells hxd
  subst hcs
  subst hVT
  rw [plain_add] at hatK
  have hcI := hatK.2 7 _ rfl
  obtain ⟨ad2, ys, hA2, hyd, hyl, hyK⟩ := elem_k (m := 10) (f := fieldL) (fun _ => rfl) hfa hfd (by omega)
  subst hA2
  obtain ⟨B2, O2, hBO2⟩ := slice_plain (m := 10) (f := fieldL) (fun _ => rfl) hfa (by omega) (by omega)
  subst hBO2
  rw [plain_add] at hyK
  have hrK := at_range hyK
  have hsz : (Tryz.prog.info? 52).map (·.size) = some ys.length := by rw [hyl]; exact field_size
  go_upto_region 15 with (first
   | (refine lookup_k (by rfl) (.tmp 79) (.tmp 82) 88 true (by rfl) Tryz.underlying88 (keys_p pairT) (.int .i64 0) zero_int gf6 (D.fields) (H.kmap T6.fields) (by first | rfl | simp [Act.eval, Act.put]) ((t, f)) (by first | rfl | simp [Act.eval, Act.put]) (.tuple #[.int .i64 (k : Int), .bool true]) (by rw [hk]; rfl) ?_))
  go_upto_region 17 with (fail)
  refine held.begin_ (fun w' => w'.cell? ⟨g5, 17, none⟩ = some (.slice (some ⟨B, O, none⟩) D.types.length c) ∧ w'.cell? ⟨g5, 18, none⟩ = some (.map (some ga6)) ∧ (Instr.lookup 87 (.map (some ga6)) (.string (str t)) false).run Tryz.prog w' = .ok (.int .i64 (i : Int)) w' ∧ w'.cell? ⟨B, O + i * 17 + (7 + 1), none⟩ = some (.slice (some ⟨B2, O2, none⟩) d.fields.length c8) ∧ w'.rangeAt B2 (O2 + k * 10) ys) [] (by kernel_rfl) ?_
  replace H := H.drew1
  obtain ⟨w62, hq63⟩ : ∃ x, (w8).drew = x := ⟨_, rfl⟩
  rw [hq63] at H ⊢
  clear hq63
  have hS64 : w62.cell? ⟨g5, 17, none⟩ = some (.slice (some ⟨B, O, none⟩) D.types.length c) ∧ w62.cell? ⟨g5, 18, none⟩ = some (.map (some ga6)) ∧ (Instr.lookup 87 (.map (some ga6)) (.string (str t)) false).run Tryz.prog w62 = .ok (.int .i64 (i : Int)) w62 ∧ w62.cell? ⟨B, O + i * 17 + (7 + 1), none⟩ = some (.slice (some ⟨B2, O2, none⟩) d.fields.length c8) ∧ w62.rangeAt B2 (O2 + k * 10) ys := ⟨H.kcell T6.a.box T6.a.c17, H.kcell T6.a.box T6.a.c18, (run_lookup_k Tryz.underlying87 (keys_s Tryz.underlying9) (.int .i64 0) (zero_int _) (H.kmap T6.a.at_) t false).trans (by rw [hq]; rfl), H.sat.cell hcI, range_sat hrK H.sat⟩
  refine held.take (i := 0) (v := ?_) rfl (by kernel_rfl) (by kernel_rfl) (by kernel_rfl) (by kernel_rfl) (by kernel_rfl) (fun _ _ _ h => h) (Or.inl ⟨by rfl, ?_⟩) hS64 ?_
  rotate_left
  · intro w hSw
    try dsimp only at hSw
    go_simp
    try with_reducible rfl
  try simp only [Act.put, List.getElem_toArray, List.getElem_cons_zero, List.getElem_cons_succ, List.setIfInBounds_toArray, List.set_cons_zero, List.set_cons_succ]
  refine held.take (i := 1) (v := ?_) rfl (by kernel_rfl) (by kernel_rfl) (by kernel_rfl) (by kernel_rfl) (by kernel_rfl) (fun _ _ _ h => h) (Or.inl ⟨by rfl, ?_⟩) hS64 ?_
  rotate_left
  · intro w hSw
    try dsimp only at hSw
    go_simp
    try with_reducible rfl
  try simp only [Act.put, List.getElem_toArray, List.getElem_cons_zero, List.getElem_cons_succ, List.setIfInBounds_toArray, List.set_cons_zero, List.set_cons_succ]
  refine held.take (i := 2) (v := ?_) rfl (by kernel_rfl) (by kernel_rfl) (by kernel_rfl) (by kernel_rfl) (by kernel_rfl) (fun _ _ _ h => h) (Or.inl ⟨by rfl, ?_⟩) hS64 ?_
  rotate_left
  · intro w hSw
    try dsimp only at hSw
    go_simp
    try with_reducible rfl
  try simp only [Act.put, List.getElem_toArray, List.getElem_cons_zero, List.getElem_cons_succ, List.setIfInBounds_toArray, List.set_cons_zero, List.set_cons_succ]
  refine held.take (i := 3) (v := ?_) rfl (by kernel_rfl) (by kernel_rfl) (by kernel_rfl) (by kernel_rfl) (by kernel_rfl) (fun _ _ _ h => h) (Or.inl ⟨by rfl, ?_⟩) hS64 ?_
  rotate_left
  · intro w hSw
    try dsimp only at hSw
    go_simp
    try with_reducible rfl
  try simp only [Act.put, List.getElem_toArray, List.getElem_cons_zero, List.getElem_cons_succ, List.setIfInBounds_toArray, List.set_cons_zero, List.set_cons_succ]
  refine held.take (i := 4) (v := ?_) rfl (by kernel_rfl) (by kernel_rfl) (by kernel_rfl) (by kernel_rfl) (by kernel_rfl) (fun _ _ _ h => h) (Or.inl ⟨by rfl, ?_⟩) hS64 ?_
  rotate_left
  · intro w hSw
    try dsimp only at hSw
    go_simp
    try with_reducible rfl
  try simp only [Act.put, List.getElem_toArray, List.getElem_cons_zero, List.getElem_cons_succ, List.setIfInBounds_toArray, List.set_cons_zero, List.set_cons_succ]
  refine held.take (i := 5) (v := ?_) rfl (by kernel_rfl) (by kernel_rfl) (by kernel_rfl) (by kernel_rfl) (by kernel_rfl) (fun _ _ _ h => h) (Or.inl ⟨by rfl, ?_⟩) hS64 ?_
  rotate_left
  · intro w hSw
    try dsimp only at hSw
    go_simp
    try with_reducible rfl
  try simp only [Act.put, List.getElem_toArray, List.getElem_cons_zero, List.getElem_cons_succ, List.setIfInBounds_toArray, List.set_cons_zero, List.set_cons_succ]
  refine held.take (i := 6) (v := ?_) rfl (by kernel_rfl) (by kernel_rfl) (by kernel_rfl) (by kernel_rfl) (by kernel_rfl) (fun _ _ _ h => h) (Or.inl ⟨by rfl, ?_⟩) hS64 ?_
  rotate_left
  · intro w hSw
    try dsimp only at hSw
    go_simp
    try with_reducible rfl
  try simp only [Act.put, List.getElem_toArray, List.getElem_cons_zero, List.getElem_cons_succ, List.setIfInBounds_toArray, List.set_cons_zero, List.set_cons_succ]
  refine held.take (i := 7) (v := ?_) rfl (by kernel_rfl) (by kernel_rfl) (by kernel_rfl) (by kernel_rfl) (by kernel_rfl) (fun _ _ _ h => h) (Or.inl ⟨by rfl, ?_⟩) hS64 ?_
  rotate_left
  · intro w hSw
    try dsimp only at hSw
    go_simp
    try with_reducible rfl
  try simp only [Act.put, List.getElem_toArray, List.getElem_cons_zero, List.getElem_cons_succ, List.setIfInBounds_toArray, List.set_cons_zero, List.set_cons_succ]
  refine held.take (i := 8) (v := ?_) rfl (by kernel_rfl) (by kernel_rfl) (by kernel_rfl) (by kernel_rfl) (by kernel_rfl) (fun _ _ _ h => h) (Or.inl ⟨by rfl, ?_⟩) hS64 ?_
  rotate_left
  · intro w hSw
    try dsimp only at hSw
    go_simp
    try with_reducible rfl
  try simp only [Act.put, List.getElem_toArray, List.getElem_cons_zero, List.getElem_cons_succ, List.setIfInBounds_toArray, List.set_cons_zero, List.set_cons_succ]
  refine held.take (i := 9) (v := ?_) rfl (by kernel_rfl) (by kernel_rfl) (by kernel_rfl) (by kernel_rfl) (by kernel_rfl) (fun _ _ _ h => h) (Or.inl ⟨by rfl, ?_⟩) hS64 ?_
  rotate_left
  · intro w hSw
    try dsimp only at hSw
    go_simp
    try with_reducible rfl
  try simp only [Act.put, List.getElem_toArray, List.getElem_cons_zero, List.getElem_cons_succ, List.setIfInBounds_toArray, List.set_cons_zero, List.set_cons_succ]
  refine held.take (i := 10) (v := ?_) rfl (by kernel_rfl) (by kernel_rfl) (by kernel_rfl) (by kernel_rfl) (by kernel_rfl) (fun _ _ _ h => h) (Or.inl ⟨by rfl, ?_⟩) hS64 ?_
  rotate_left
  · intro w hSw
    try dsimp only at hSw
    go_simp
    try with_reducible rfl
  try simp only [Act.put, List.getElem_toArray, List.getElem_cons_zero, List.getElem_cons_succ, List.setIfInBounds_toArray, List.set_cons_zero, List.set_cons_succ]
  refine held.take (i := 11) (v := ?_) rfl (by kernel_rfl) (by kernel_rfl) (by kernel_rfl) (by kernel_rfl) (by kernel_rfl) (fun _ _ _ h => h) (Or.inl ⟨by rfl, ?_⟩) hS64 ?_
  rotate_left
  · intro w hSw
    try dsimp only at hSw
    go_simp
    try with_reducible rfl
  try simp only [Act.put, List.getElem_toArray, List.getElem_cons_zero, List.getElem_cons_succ, List.setIfInBounds_toArray, List.set_cons_zero, List.set_cons_succ]
  refine held.take (i := 12) (v := ?_) rfl (by kernel_rfl) (by kernel_rfl) (by kernel_rfl) (by kernel_rfl) (by kernel_rfl) (fun _ _ _ h => h) (Or.inl ⟨by rfl, ?_⟩) hS64 ?_
  rotate_left
  · intro w hSw
    try dsimp only at hSw
    go_simp
    try with_reducible rfl
  try simp only [Act.put, List.getElem_toArray, List.getElem_cons_zero, List.getElem_cons_succ, List.setIfInBounds_toArray, List.set_cons_zero, List.set_cons_succ]
  refine held.take (i := 13) (v := ?_) rfl (by kernel_rfl) (by kernel_rfl) (by kernel_rfl) (by kernel_rfl) (by kernel_rfl) (fun _ _ _ h => h) (Or.inl ⟨by rfl, ?_⟩) hS64 ?_
  rotate_left
  · intro w hSw
    try dsimp only at hSw
    go_simp
    try with_reducible rfl
  try simp only [Act.put, List.getElem_toArray, List.getElem_cons_zero, List.getElem_cons_succ, List.setIfInBounds_toArray, List.set_cons_zero, List.set_cons_succ]
  refine held.take (i := 14) (v := ?_) rfl (by kernel_rfl) (by kernel_rfl) (by kernel_rfl) (by kernel_rfl) (by kernel_rfl) (fun _ _ _ h => h) (Or.inl ⟨by rfl, ?_⟩) hS64 ?_
  rotate_left
  · intro w hSw
    try dsimp only at hSw
    go_simp
    try with_reducible rfl
  try simp only [Act.put, List.getElem_toArray, List.getElem_cons_zero, List.getElem_cons_succ, List.setIfInBounds_toArray, List.set_cons_zero, List.set_cons_succ]
  refine held.take (i := 15) (v := _) rfl (by kernel_rfl) (by kernel_rfl) (by kernel_rfl) (by kernel_rfl) (by kernel_rfl) (fun _ _ _ h => h) (yieldsIf_load_mid (by rfl) 52 (.tmp 103) (by rfl) B2 (O2 + k * 10) (by first | rfl | simp [Act.eval, Act.put]) (ys) _ (fun w h => h.2.2.2.2) Tryz.underlying52 rfl hsz) hS64 ?_
  try simp only [Act.put, List.getElem_toArray, List.getElem_cons_zero, List.getElem_cons_succ, List.setIfInBounds_toArray, List.set_cons_zero, List.set_cons_succ]
  refine held.step (i := 16) (by kernel_rfl) rfl (fun Kq hKq => ?_)
  go_simp
  refine (copyField_hp fd ys.toArray H hfm hyd).mono ?_
  clear H
  rintro e wz ⟨Kz, cs5, rfl, hlez, H, hd5⟩
  replace hK := hlez.trans hK
  obtain ⟨E4, e4, E7, e7, hcs5, -, -⟩ := fieldD_cells hd5
  obtain rfl : cs5 = #[.bool fd.note.has, .bool fd.note.block, .string (str fd.note.text), .string (str fd.name), .slice E4 fd.args.length e4, .string (str fd.ty.1), .string (str fd.ty.2), .slice E7 fd.dirs.length e7, .int .i64 fd.line, .int .i64 fd.col] := Array.toList_inj.1 hcs5
  replace T6 := T6.sat hlez
  replace hcI := At.sat_cell hcI hlez
  replace hrK := range_sat hrK hlez
  replace H : Hp _ _ _ (_ :: M) := H
  try go_simp
  have hS65 : wz.cell? ⟨g5, 17, none⟩ = some (.slice (some ⟨B, O, none⟩) D.types.length c) ∧ wz.cell? ⟨g5, 18, none⟩ = some (.map (some ga6)) ∧ (Instr.lookup 87 (.map (some ga6)) (.string (str t)) false).run Tryz.prog wz = .ok (.int .i64 (i : Int)) wz ∧ wz.cell? ⟨B, O + i * 17 + (7 + 1), none⟩ = some (.slice (some ⟨B2, O2, none⟩) d.fields.length c8) ∧ wz.rangeAt B2 (O2 + k * 10) ys := ⟨H.kcell T6.a.box T6.a.c17, H.kcell T6.a.box T6.a.c18, (run_lookup_k Tryz.underlying87 (keys_s Tryz.underlying9) (.int .i64 0) (zero_int _) (H.kmap T6.a.at_) t false).trans (by rw [hq]; rfl), H.sat.cell hcI, range_sat hrK H.sat⟩
  refine hKq.out _ _ (fun _ => hS65) (fun _ => ?_)
  clear hKq Kq
  refine held.step (i := 17) (by kernel_rfl) rfl (fun Kq hKq => ?_)
  refine step_store_hp (by rfl) 52 (.tmp 6) (.tmp 105) (by rfl) g6 0 (by first | rfl | simp [Act.eval, Act.put]) (.agg #[.bool fd.note.has, .bool fd.note.block, .string (str fd.note.text), .string (str fd.name), .slice E4 fd.args.length e4, .string (str fd.ty.1), .string (str fd.ty.2), .slice E7 fd.dirs.length e7, .int .i64 fd.line, .int .i64 fd.col]) (by first | rfl | simp [Act.eval, Act.put]) [.bool fd.note.has, .bool fd.note.block, .string (str fd.note.text), .string (str fd.name), .slice E4 fd.args.length e4, .string (str fd.ty.1), .string (str fd.ty.2), .slice E7 fd.dirs.length e7, .int .i64 fd.line, .int .i64 fd.col] (by rfl) (by simp [Value.oneCell']) (by kernel_rfl) H 0 [.bool false, .bool false, .string ⟨#[]⟩, .string ⟨#[]⟩, .slice none 0 0, .string ⟨#[]⟩, .string ⟨#[]⟩, .slice none 0 0, .int .i64 0, .int .i64 0] [.bool fd.note.has, .bool fd.note.block, .string (str fd.note.text), .string (str fd.name), .slice E4 fd.args.length e4, .string (str fd.ty.1), .string (str fd.ty.2), .slice E7 fd.dirs.length e7, .int .i64 fd.line, .int .i64 fd.col] 52 (by rfl) (Nat.le_of_ble_eq_true (by rfl)) (by rfl) ?_
  clear H
  intro w66 H
  replace H : Hp _ _ _ (_ :: M) := H
  have hS67 : w66.cell? ⟨g5, 17, none⟩ = some (.slice (some ⟨B, O, none⟩) D.types.length c) ∧ w66.cell? ⟨g5, 18, none⟩ = some (.map (some ga6)) ∧ (Instr.lookup 87 (.map (some ga6)) (.string (str t)) false).run Tryz.prog w66 = .ok (.int .i64 (i : Int)) w66 ∧ w66.cell? ⟨B, O + i * 17 + (7 + 1), none⟩ = some (.slice (some ⟨B2, O2, none⟩) d.fields.length c8) ∧ w66.rangeAt B2 (O2 + k * 10) ys := ⟨H.kcell T6.a.box T6.a.c17, H.kcell T6.a.box T6.a.c18, (run_lookup_k Tryz.underlying87 (keys_s Tryz.underlying9) (.int .i64 0) (zero_int _) (H.kmap T6.a.at_) t false).trans (by rw [hq]; rfl), H.sat.cell hcI, range_sat hrK H.sat⟩
  refine hKq.out _ _ (fun _ => hS67) (fun _ => ?_)
  clear hKq Kq
  try simp only [Act.put, List.getElem_toArray, List.getElem_cons_zero, List.getElem_cons_succ, List.setIfInBounds_toArray, List.set_cons_zero, List.set_cons_succ]
  refine held.take (i := 18) (v := ?_) rfl (by kernel_rfl) (by kernel_rfl) (by kernel_rfl) (by kernel_rfl) (by kernel_rfl) (fun _ _ _ h => h) (Or.inl ⟨by rfl, ?_⟩) hS67 ?_
  rotate_left
  · intro w hSw
    try dsimp only at hSw
    go_simp
    try with_reducible rfl
  try simp only [Act.put, List.getElem_toArray, List.getElem_cons_zero, List.getElem_cons_succ, List.setIfInBounds_toArray, List.set_cons_zero, List.set_cons_succ]
  refine held.done (by kernel_rfl) ?_ _
  go_wp2_with fail
  refine bodyPost_ret (results_box2 rfl _ _ g6 52 _ (0, 0) _ (by rfl) (H.blkAt (i := 0) rfl) Tryz.underlying52 rfl (by kernel_rfl)) rfl ?_
  replace H := H.sub (List.Sublist.cons _ (List.Sublist.refl _))
  exact ⟨Kz, _, rfl, hK, H, _, by rw [HR.out]; rfl, by rw [HR.out]; exact hd5⟩
set_option maxHeartbeats 16000000 in
theorem Field_obj (v : Value) (t f : Txt) (D : TysD) (w0 w K : World) (M : List Ent) (H : Hp w0 w K M) (hv : Tp K v D) (hW : TyW D) (hkk : kindOf D.types t = 3) (ht : t ≠ rootNm D.schema.roots 1) (hft : f ≠ typenameT) :
  Calls Tryz.prog 41 #[v, .string (str t), .string (str f)] w (Post w0 K M (FldO (fieldO D t f))) := by
 have HX := (show fieldO D t f = _ from (if_neg (by rw [hkk]; omega)).trans ((if_neg hft).trans ((if_neg (fun h => ht h.2.1)).trans ((if_neg (fun h => ht h.2.1)).trans (if_neg (by rw [hkk]; omega))))))
 have HRN := hide (fun (hk : kfind D.fields (t, f) = none) => HX.trans (by rw [hk]))
 have HRS := hide (fun (k i : Nat) (d : DefD) (fd : FieldD) hk hi hd hf => HX.trans (fieldO_k (k := k) (i := i) (d := d) (fd := fd) hk hi hd hf))
 have hs1 := eq_typename f
 have hs4 := str_toList t (rootNm D.schema.roots 1)
 rw [decide_eq_false hft] at hs1
 rw [decide_eq_false ht] at hs4
 clear hft ht HX
 go_enter Tryz.func41, Tryz.ntmps41
 have hK := Sat.refl K
 go_upto_region 1 with (first
  | ((with_reducible refine isL ?_); first
   | (refine al z52 6 H ?_; clear H; intro w68 g6 H)))
 go_upto_region 2 with (first
  | (go_at_call 64; refine (all_t _ D _ _ K _ H hv).mono ?_; clear H; rintro e w5 ⟨K5, g5, rfl, hle, H, hT5⟩; replace hK := hle.trans hK))
 obtain ⟨ga, gd, gf, go, sch, VT, VD, OB, T⟩ := hT5
 have hT5 : TysK K5 g5 D := ⟨ga, gd, gf, go, sch, VT, VD, OB, T⟩
 go_upto_region 3 with (first
  | (go_at_call 79; refine (kind_is t _ g5 ga gd gf go sch VT VD D.schema D.types D.dirs _ _ _ _ H T.a hkk).mono ?_; clear H; rintro e wk ⟨rfl, H⟩))
 go_upto_region 7 with (fail)
 go_upto_region 9 with (first
  | (go_at_call 17; refine (Root_t (.pointer (some ⟨g5, 0, none⟩)) 1 D _ _ _ _ H hT5.tp hW).mono ?_; clear H; rintro e w7 ⟨K7, rfl, hlew7, H⟩; replace hK := hlew7.trans hK; replace hT5 := hT5.sat hlew7))
 go_upto_region 14 with (first
  | (go_at_call 17; refine (Root_t (.pointer (some ⟨g5, 0, none⟩)) 1 D _ _ _ _ H hT5.tp hW).mono ?_; clear H; rintro e w8 ⟨K8, rfl, hlew8, H⟩; replace hK := hlew8.trans hK; replace hT5 := hT5.sat hlew8))
 obtain ⟨ga6, gd6, gf6, go6, sch6, VT6, VD6, OB6, T6⟩ := hT5
 have hcF := H.kcell T6.a.box T6.a.c21
 cases hk : kfind D.fields (t, f) with
 | none =>
  have HR := hide (HRN.out hk)
  go_wp2_with (first
   | (refine lookup_k (by rfl) (.tmp 79) (.tmp 82) 88 true (by rfl) Tryz.underlying88 (keys_p pairT) (.int .i64 0) zero_int gf6 (D.fields) (H.kmap T6.fields) (by first | rfl | simp [Act.eval, Act.put]) ((t, f)) (by first | rfl | simp [Act.eval, Act.put]) (.tuple #[.int .i64 0, .bool false]) (by rw [hk]; rfl) ?_)
   | ((with_reducible refine isL ?_); first
    | (refine sA 6 0 H ?_; clear H; intro w74 H)))
  refine bodyPost_ret (results_box2 rfl _ _ g6 52 _ (0, 0) _ (by rfl) (H.blkAt (i := 0) rfl) Tryz.underlying52 rfl (by kernel_rfl)) rfl ?_
  replace H := H.sub (List.Sublist.cons _ (List.Sublist.refl _))
  exact ⟨K8, _, rfl, hK, H, _, by rw [HR.out]; rfl, by rw [HR.out]; exact rl_zeroF⟩
 | some y =>
  obtain ⟨i, d, k, fd, hi, hd, hfd, -, hy⟩ := kfind_ok hW.nd hW.f hk
  subst hy
  have HR := hide (HRS.out k i d fd hk hi hd hfd)
  have hq := nmap_kfind D.types t
  rw [hi] at hq
  replace hq : kfind (nmap (namesD D.types)) t = some (.int .i64 (i : Int)) := hq
  have hlt := numOf_lt hi
  have hltI : (i : Int) < (D.types.length : Int) := by omega
  have hklt := (List.getElem?_eq_some_iff.1 hfd).1
  have hkltI : (k : Int) < (d.fields.length : Int) := by omega
  have hN := hW.nT
  have hdn := defN_at hd
  have hfn := fieldN_at hfd
  have hfm : fieldN fd ≤ 9000000 := by omega
  have hTy := T6.a.types
  have hcT := T6.a.c17
  obtain ⟨A, c, hVT, hc1, hc2⟩ := slice_of hTy
  rw [hVT] at hTy
  obtain ⟨ad, xs, hA, hxd, hxl, hatK⟩ := elem_k (m := 17) (f := defL) defL_len hTy hd (by omega)
  subst hA
  obtain ⟨B, O, hBO⟩ := slice_plain (m := 17) (f := defL) defL_len hTy (by omega) (by omega)
  subst hBO
  obtain ⟨A6, c6, A7, c7, A8, c8, A9, c9, A10, c10, A11, c11, A12, c12, A14, c14, hcs, -, -, hfa, -, -, -, -, -⟩ := def_cells hxd
  subst hcs
  subst hVT
  rw [plain_add] at hatK
  have hcI := hatK.2 7 _ rfl
  obtain ⟨ad2, ys, hA2, hyd, hyl, hyK⟩ := elem_k (m := 10) (f := fieldL) (fun _ => rfl) hfa hfd (by omega)
  subst hA2
  obtain ⟨B2, O2, hBO2⟩ := slice_plain (m := 10) (f := fieldL) (fun _ => rfl) hfa (by omega) (by omega)
  subst hBO2
  rw [plain_add] at hyK
  have hrK := at_range hyK
  have hsz : (Tryz.prog.info? 52).map (·.size) = some ys.length := by rw [hyl]; exact field_size
  go_upto_region 15 with (first
   | (refine lookup_k (by rfl) (.tmp 79) (.tmp 82) 88 true (by rfl) Tryz.underlying88 (keys_p pairT) (.int .i64 0) zero_int gf6 (D.fields) (H.kmap T6.fields) (by first | rfl | simp [Act.eval, Act.put]) ((t, f)) (by first | rfl | simp [Act.eval, Act.put]) (.tuple #[.int .i64 (k : Int), .bool true]) (by rw [hk]; rfl) ?_))
  go_upto_region 17 with (fail)
  refine held.begin_ (fun w' => w'.cell? ⟨g5, 17, none⟩ = some (.slice (some ⟨B, O, none⟩) D.types.length c) ∧ w'.cell? ⟨g5, 18, none⟩ = some (.map (some ga6)) ∧ (Instr.lookup 87 (.map (some ga6)) (.string (str t)) false).run Tryz.prog w' = .ok (.int .i64 (i : Int)) w' ∧ w'.cell? ⟨B, O + i * 17 + (7 + 1), none⟩ = some (.slice (some ⟨B2, O2, none⟩) d.fields.length c8) ∧ w'.rangeAt B2 (O2 + k * 10) ys) [] (by kernel_rfl) ?_
  replace H := H.drew1
  obtain ⟨w75, hq76⟩ : ∃ x, (w8).drew = x := ⟨_, rfl⟩
  rw [hq76] at H ⊢
  clear hq76
  have hS77 : w75.cell? ⟨g5, 17, none⟩ = some (.slice (some ⟨B, O, none⟩) D.types.length c) ∧ w75.cell? ⟨g5, 18, none⟩ = some (.map (some ga6)) ∧ (Instr.lookup 87 (.map (some ga6)) (.string (str t)) false).run Tryz.prog w75 = .ok (.int .i64 (i : Int)) w75 ∧ w75.cell? ⟨B, O + i * 17 + (7 + 1), none⟩ = some (.slice (some ⟨B2, O2, none⟩) d.fields.length c8) ∧ w75.rangeAt B2 (O2 + k * 10) ys := ⟨H.kcell T6.a.box T6.a.c17, H.kcell T6.a.box T6.a.c18, (run_lookup_k Tryz.underlying87 (keys_s Tryz.underlying9) (.int .i64 0) (zero_int _) (H.kmap T6.a.at_) t false).trans (by rw [hq]; rfl), H.sat.cell hcI, range_sat hrK H.sat⟩
  refine held.take (i := 0) (v := ?_) rfl (by kernel_rfl) (by kernel_rfl) (by kernel_rfl) (by kernel_rfl) (by kernel_rfl) (fun _ _ _ h => h) (Or.inl ⟨by rfl, ?_⟩) hS77 ?_
  rotate_left
  · intro w hSw
    try dsimp only at hSw
    go_simp
    try with_reducible rfl
  try simp only [Act.put, List.getElem_toArray, List.getElem_cons_zero, List.getElem_cons_succ, List.setIfInBounds_toArray, List.set_cons_zero, List.set_cons_succ]
  refine held.take (i := 1) (v := ?_) rfl (by kernel_rfl) (by kernel_rfl) (by kernel_rfl) (by kernel_rfl) (by kernel_rfl) (fun _ _ _ h => h) (Or.inl ⟨by rfl, ?_⟩) hS77 ?_
  rotate_left
  · intro w hSw
    try dsimp only at hSw
    go_simp
    try with_reducible rfl
  try simp only [Act.put, List.getElem_toArray, List.getElem_cons_zero, List.getElem_cons_succ, List.setIfInBounds_toArray, List.set_cons_zero, List.set_cons_succ]
  refine held.take (i := 2) (v := ?_) rfl (by kernel_rfl) (by kernel_rfl) (by kernel_rfl) (by kernel_rfl) (by kernel_rfl) (fun _ _ _ h => h) (Or.inl ⟨by rfl, ?_⟩) hS77 ?_
  rotate_left
  · intro w hSw
    try dsimp only at hSw
    go_simp
    try with_reducible rfl
  try simp only [Act.put, List.getElem_toArray, List.getElem_cons_zero, List.getElem_cons_succ, List.setIfInBounds_toArray, List.set_cons_zero, List.set_cons_succ]
  refine held.take (i := 3) (v := ?_) rfl (by kernel_rfl) (by kernel_rfl) (by kernel_rfl) (by kernel_rfl) (by kernel_rfl) (fun _ _ _ h => h) (Or.inl ⟨by rfl, ?_⟩) hS77 ?_
  rotate_left
  · intro w hSw
    try dsimp only at hSw
    go_simp
    try with_reducible rfl
  try simp only [Act.put, List.getElem_toArray, List.getElem_cons_zero, List.getElem_cons_succ, List.setIfInBounds_toArray, List.set_cons_zero, List.set_cons_succ]
  refine held.take (i := 4) (v := ?_) rfl (by kernel_rfl) (by kernel_rfl) (by kernel_rfl) (by kernel_rfl) (by kernel_rfl) (fun _ _ _ h => h) (Or.inl ⟨by rfl, ?_⟩) hS77 ?_
  rotate_left
  · intro w hSw
    try dsimp only at hSw
    go_simp
    try with_reducible rfl
  try simp only [Act.put, List.getElem_toArray, List.getElem_cons_zero, List.getElem_cons_succ, List.setIfInBounds_toArray, List.set_cons_zero, List.set_cons_succ]
  refine held.take (i := 5) (v := ?_) rfl (by kernel_rfl) (by kernel_rfl) (by kernel_rfl) (by kernel_rfl) (by kernel_rfl) (fun _ _ _ h => h) (Or.inl ⟨by rfl, ?_⟩) hS77 ?_
  rotate_left
  · intro w hSw
    try dsimp only at hSw
    go_simp
    try with_reducible rfl
  try simp only [Act.put, List.getElem_toArray, List.getElem_cons_zero, List.getElem_cons_succ, List.setIfInBounds_toArray, List.set_cons_zero, List.set_cons_succ]
  refine held.take (i := 6) (v := ?_) rfl (by kernel_rfl) (by kernel_rfl) (by kernel_rfl) (by kernel_rfl) (by kernel_rfl) (fun _ _ _ h => h) (Or.inl ⟨by rfl, ?_⟩) hS77 ?_
  rotate_left
  · intro w hSw
    try dsimp only at hSw
    go_simp
    try with_reducible rfl
  try simp only [Act.put, List.getElem_toArray, List.getElem_cons_zero, List.getElem_cons_succ, List.setIfInBounds_toArray, List.set_cons_zero, List.set_cons_succ]
  refine held.take (i := 7) (v := ?_) rfl (by kernel_rfl) (by kernel_rfl) (by kernel_rfl) (by kernel_rfl) (by kernel_rfl) (fun _ _ _ h => h) (Or.inl ⟨by rfl, ?_⟩) hS77 ?_
  rotate_left
  · intro w hSw
    try dsimp only at hSw
    go_simp
    try with_reducible rfl
  try simp only [Act.put, List.getElem_toArray, List.getElem_cons_zero, List.getElem_cons_succ, List.setIfInBounds_toArray, List.set_cons_zero, List.set_cons_succ]
  refine held.take (i := 8) (v := ?_) rfl (by kernel_rfl) (by kernel_rfl) (by kernel_rfl) (by kernel_rfl) (by kernel_rfl) (fun _ _ _ h => h) (Or.inl ⟨by rfl, ?_⟩) hS77 ?_
  rotate_left
  · intro w hSw
    try dsimp only at hSw
    go_simp
    try with_reducible rfl
  try simp only [Act.put, List.getElem_toArray, List.getElem_cons_zero, List.getElem_cons_succ, List.setIfInBounds_toArray, List.set_cons_zero, List.set_cons_succ]
  refine held.take (i := 9) (v := ?_) rfl (by kernel_rfl) (by kernel_rfl) (by kernel_rfl) (by kernel_rfl) (by kernel_rfl) (fun _ _ _ h => h) (Or.inl ⟨by rfl, ?_⟩) hS77 ?_
  rotate_left
  · intro w hSw
    try dsimp only at hSw
    go_simp
    try with_reducible rfl
  try simp only [Act.put, List.getElem_toArray, List.getElem_cons_zero, List.getElem_cons_succ, List.setIfInBounds_toArray, List.set_cons_zero, List.set_cons_succ]
  refine held.take (i := 10) (v := ?_) rfl (by kernel_rfl) (by kernel_rfl) (by kernel_rfl) (by kernel_rfl) (by kernel_rfl) (fun _ _ _ h => h) (Or.inl ⟨by rfl, ?_⟩) hS77 ?_
  rotate_left
  · intro w hSw
    try dsimp only at hSw
    go_simp
    try with_reducible rfl
  try simp only [Act.put, List.getElem_toArray, List.getElem_cons_zero, List.getElem_cons_succ, List.setIfInBounds_toArray, List.set_cons_zero, List.set_cons_succ]
  refine held.take (i := 11) (v := ?_) rfl (by kernel_rfl) (by kernel_rfl) (by kernel_rfl) (by kernel_rfl) (by kernel_rfl) (fun _ _ _ h => h) (Or.inl ⟨by rfl, ?_⟩) hS77 ?_
  rotate_left
  · intro w hSw
    try dsimp only at hSw
    go_simp
    try with_reducible rfl
  try simp only [Act.put, List.getElem_toArray, List.getElem_cons_zero, List.getElem_cons_succ, List.setIfInBounds_toArray, List.set_cons_zero, List.set_cons_succ]
  refine held.take (i := 12) (v := ?_) rfl (by kernel_rfl) (by kernel_rfl) (by kernel_rfl) (by kernel_rfl) (by kernel_rfl) (fun _ _ _ h => h) (Or.inl ⟨by rfl, ?_⟩) hS77 ?_
  rotate_left
  · intro w hSw
    try dsimp only at hSw
    go_simp
    try with_reducible rfl
  try simp only [Act.put, List.getElem_toArray, List.getElem_cons_zero, List.getElem_cons_succ, List.setIfInBounds_toArray, List.set_cons_zero, List.set_cons_succ]
  refine held.take (i := 13) (v := ?_) rfl (by kernel_rfl) (by kernel_rfl) (by kernel_rfl) (by kernel_rfl) (by kernel_rfl) (fun _ _ _ h => h) (Or.inl ⟨by rfl, ?_⟩) hS77 ?_
  rotate_left
  · intro w hSw
    try dsimp only at hSw
    go_simp
    try with_reducible rfl
  try simp only [Act.put, List.getElem_toArray, List.getElem_cons_zero, List.getElem_cons_succ, List.setIfInBounds_toArray, List.set_cons_zero, List.set_cons_succ]
  refine held.take (i := 14) (v := ?_) rfl (by kernel_rfl) (by kernel_rfl) (by kernel_rfl) (by kernel_rfl) (by kernel_rfl) (fun _ _ _ h => h) (Or.inl ⟨by rfl, ?_⟩) hS77 ?_
  rotate_left
  · intro w hSw
    try dsimp only at hSw
    go_simp
    try with_reducible rfl
  try simp only [Act.put, List.getElem_toArray, List.getElem_cons_zero, List.getElem_cons_succ, List.setIfInBounds_toArray, List.set_cons_zero, List.set_cons_succ]
  refine held.take (i := 15) (v := _) rfl (by kernel_rfl) (by kernel_rfl) (by kernel_rfl) (by kernel_rfl) (by kernel_rfl) (fun _ _ _ h => h) (yieldsIf_load_mid (by rfl) 52 (.tmp 103) (by rfl) B2 (O2 + k * 10) (by first | rfl | simp [Act.eval, Act.put]) (ys) _ (fun w h => h.2.2.2.2) Tryz.underlying52 rfl hsz) hS77 ?_
  try simp only [Act.put, List.getElem_toArray, List.getElem_cons_zero, List.getElem_cons_succ, List.setIfInBounds_toArray, List.set_cons_zero, List.set_cons_succ]
  refine held.step (i := 16) (by kernel_rfl) rfl (fun Kq hKq => ?_)
  go_simp
  refine (copyField_hp fd ys.toArray H hfm hyd).mono ?_
  clear H
  rintro e wz ⟨Kz, cs5, rfl, hlez, H, hd5⟩
  replace hK := hlez.trans hK
  obtain ⟨E4, e4, E7, e7, hcs5, -, -⟩ := fieldD_cells hd5
  obtain rfl : cs5 = #[.bool fd.note.has, .bool fd.note.block, .string (str fd.note.text), .string (str fd.name), .slice E4 fd.args.length e4, .string (str fd.ty.1), .string (str fd.ty.2), .slice E7 fd.dirs.length e7, .int .i64 fd.line, .int .i64 fd.col] := Array.toList_inj.1 hcs5
  replace T6 := T6.sat hlez
  replace hcI := At.sat_cell hcI hlez
  replace hrK := range_sat hrK hlez
  replace H : Hp _ _ _ (_ :: M) := H
  try go_simp
  have hS78 : wz.cell? ⟨g5, 17, none⟩ = some (.slice (some ⟨B, O, none⟩) D.types.length c) ∧ wz.cell? ⟨g5, 18, none⟩ = some (.map (some ga6)) ∧ (Instr.lookup 87 (.map (some ga6)) (.string (str t)) false).run Tryz.prog wz = .ok (.int .i64 (i : Int)) wz ∧ wz.cell? ⟨B, O + i * 17 + (7 + 1), none⟩ = some (.slice (some ⟨B2, O2, none⟩) d.fields.length c8) ∧ wz.rangeAt B2 (O2 + k * 10) ys := ⟨H.kcell T6.a.box T6.a.c17, H.kcell T6.a.box T6.a.c18, (run_lookup_k Tryz.underlying87 (keys_s Tryz.underlying9) (.int .i64 0) (zero_int _) (H.kmap T6.a.at_) t false).trans (by rw [hq]; rfl), H.sat.cell hcI, range_sat hrK H.sat⟩
  refine hKq.out _ _ (fun _ => hS78) (fun _ => ?_)
  clear hKq Kq
  refine held.step (i := 17) (by kernel_rfl) rfl (fun Kq hKq => ?_)
  refine step_store_hp (by rfl) 52 (.tmp 6) (.tmp 105) (by rfl) g6 0 (by first | rfl | simp [Act.eval, Act.put]) (.agg #[.bool fd.note.has, .bool fd.note.block, .string (str fd.note.text), .string (str fd.name), .slice E4 fd.args.length e4, .string (str fd.ty.1), .string (str fd.ty.2), .slice E7 fd.dirs.length e7, .int .i64 fd.line, .int .i64 fd.col]) (by first | rfl | simp [Act.eval, Act.put]) [.bool fd.note.has, .bool fd.note.block, .string (str fd.note.text), .string (str fd.name), .slice E4 fd.args.length e4, .string (str fd.ty.1), .string (str fd.ty.2), .slice E7 fd.dirs.length e7, .int .i64 fd.line, .int .i64 fd.col] (by rfl) (by simp [Value.oneCell']) (by kernel_rfl) H 0 [.bool false, .bool false, .string ⟨#[]⟩, .string ⟨#[]⟩, .slice none 0 0, .string ⟨#[]⟩, .string ⟨#[]⟩, .slice none 0 0, .int .i64 0, .int .i64 0] [.bool fd.note.has, .bool fd.note.block, .string (str fd.note.text), .string (str fd.name), .slice E4 fd.args.length e4, .string (str fd.ty.1), .string (str fd.ty.2), .slice E7 fd.dirs.length e7, .int .i64 fd.line, .int .i64 fd.col] 52 (by rfl) (Nat.le_of_ble_eq_true (by rfl)) (by rfl) ?_
  clear H
  intro w79 H
  replace H : Hp _ _ _ (_ :: M) := H
  have hS80 : w79.cell? ⟨g5, 17, none⟩ = some (.slice (some ⟨B, O, none⟩) D.types.length c) ∧ w79.cell? ⟨g5, 18, none⟩ = some (.map (some ga6)) ∧ (Instr.lookup 87 (.map (some ga6)) (.string (str t)) false).run Tryz.prog w79 = .ok (.int .i64 (i : Int)) w79 ∧ w79.cell? ⟨B, O + i * 17 + (7 + 1), none⟩ = some (.slice (some ⟨B2, O2, none⟩) d.fields.length c8) ∧ w79.rangeAt B2 (O2 + k * 10) ys := ⟨H.kcell T6.a.box T6.a.c17, H.kcell T6.a.box T6.a.c18, (run_lookup_k Tryz.underlying87 (keys_s Tryz.underlying9) (.int .i64 0) (zero_int _) (H.kmap T6.a.at_) t false).trans (by rw [hq]; rfl), H.sat.cell hcI, range_sat hrK H.sat⟩
  refine hKq.out _ _ (fun _ => hS80) (fun _ => ?_)
  clear hKq Kq
  try simp only [Act.put, List.getElem_toArray, List.getElem_cons_zero, List.getElem_cons_succ, List.setIfInBounds_toArray, List.set_cons_zero, List.set_cons_succ]
  refine held.take (i := 18) (v := ?_) rfl (by kernel_rfl) (by kernel_rfl) (by kernel_rfl) (by kernel_rfl) (by kernel_rfl) (fun _ _ _ h => h) (Or.inl ⟨by rfl, ?_⟩) hS80 ?_
  rotate_left
  · intro w hSw
    try dsimp only at hSw
    go_simp
    try with_reducible rfl
  try simp only [Act.put, List.getElem_toArray, List.getElem_cons_zero, List.getElem_cons_succ, List.setIfInBounds_toArray, List.set_cons_zero, List.set_cons_succ]
  refine held.done (by kernel_rfl) ?_ _
  go_wp2_with fail
  refine bodyPost_ret (results_box2 rfl _ _ g6 52 _ (0, 0) _ (by rfl) (H.blkAt (i := 0) rfl) Tryz.underlying52 rfl (by kernel_rfl)) rfl ?_
  replace H := H.sub (List.Sublist.cons _ (List.Sublist.refl _))
  exact ⟨Kz, _, rfl, hK, H, _, by rw [HR.out]; rfl, by rw [HR.out]; exact hd5⟩
theorem Field_t (v : Value) (t f : Txt) (D : TysD) (w0 w K : World) (M : List Ent) (H : Hp w0 w K M) (hv : Tp K v D) (hW : TyW D) :
  Calls Tryz.prog 41 #[v, .string (str t), .string (str f)] w (Post w0 K M (FldO (fieldO D t f))) := by
 by_cases h3 : kindOf D.types t = 3
 · by_cases hft : f = typenameT
   · exact Field_typename v t f 3 D w0 w K M H hv hW h3 (.inl rfl) hft
   · by_cases ht : t = rootNm D.schema.roots 1
     · by_cases hfs : f = uschemaT
       · exact Field_schema v t f D w0 w K M H hv hW h3 ht hfs
       · by_cases hfu : f = utypeT
         · exact Field_type v t f D w0 w K M H hv hW h3 ht hfu
         · exact Field_root v t f D w0 w K M H hv hW h3 ht hft hfs hfu
     · exact Field_obj v t f D w0 w K M H hv hW h3 ht hft
 · by_cases h4 : kindOf D.types t = 4
   · by_cases hft : f = typenameT
     · exact Field_typename v t f 4 D w0 w K M H hv hW h4 (.inr (.inl rfl)) hft
     · exact Field_iface v t f D w0 w K M H hv hW h4 hft
   · by_cases h5 : kindOf D.types t = 5
     · by_cases hft : f = typenameT
       · exact Field_typename v t f 5 D w0 w K M H hv hW h5 (.inr (.inr rfl)) hft
       · exact Field_union v t f D w0 w K M H hv hW h5 hft
     · exact Field_no v t f _ D w0 w K M H hv hW rfl h3 h4 h5
theorem read_b (src : Txt) (defs : List DefD) (hp : ParsedOk src defs) (w0 w K : World) (M : List Ent) (H : Hp w0 w K M) :
  Calls Tryz.prog 13 #[.string (str src)] w fun e w' => ∃ K' A c, e = .returned (.slice A defs.length c) ∧ Sat K' K ∧ Hp w0 w' K' M ∧ RD K' (.list defs.length (defsL defs)) (.slice A defs.length c) := read_hp H hp rfl
theorem own_len {l : List Txt} {x : Txt} (h : l.Perm [x]) : l = [x] := List.perm_singleton.1 h
def buildSrc : Txt := List.append [101, 120, 116, 101, 110, 100, 32, 116, 121, 112, 101, 32, 81, 117, 101, 114, 121, 123, 98, 58, 91, 73, 110, 116, 33, 93, 33, 125, 32, 116, 121, 112, 101, 32, 81, 117, 101, 114, 121] [123, 97, 58, 73, 110, 116, 125, 32, 116, 121, 112, 101, 32, 81, 117, 101, 114, 121, 123, 99, 58, 73, 110, 116, 125, 32, 117, 110, 105, 111, 110, 32, 85, 61, 81, 117, 101, 114, 121]
def buildToks : List TokD := (tokensF buildSrc).getD []
def buildDefs : List DefD := (defsGo buildToks 100 50 100 0).getD []
theorem build_parsed : ParsedOk buildSrc buildDefs :=
 ⟨of_decide_eq_true (by kernel_rfl), buildToks, 40, 40, 3000, 100, 50, by kernel_rfl, of_decide_eq_true (by kernel_rfl), by omega, by kernel_rfl, by omega, by kernel_rfl⟩
theorem build_N : defsN buildDefs ≤ 1000 := of_decide_eq_true (by kernel_rfl)
def queryT : Txt := [81, 117, 101, 114, 121]
def uT : Txt := [85]
def D0 : TysD := buildD buildDefs
theorem D0_W : TyW D0 := buildD_W buildDefs (by have := build_N; omega)
theorem D0_root : rootNm D0.schema.roots 1 = queryT := by kernel_rfl
def Q0 : DefD := (lookD D0.types queryT).getD zeroD
def F0 : FieldD := Q0.fields.getD 0 zeroF
def F1 : FieldD := Q0.fields.getD 1 zeroF
theorem D0_look : lookD D0.types queryT = some Q0 := by kernel_rfl
theorem Q0_fields : Q0.fields = [F0, F1] := by kernel_rfl
theorem Q0_len : Q0.fields.length = 2 := by rw [Q0_fields]; rfl
theorem D0_set : (setOf D0.objects uT).map (·.1) = [queryT] := by kernel_rfl
theorem D0_in : withinD D0 queryT uT = true := by kernel_rfl
theorem D0_out : withinD D0 uT queryT = false := by kernel_rfl
set_option maxHeartbeats 16000000 in
theorem builds_hp (w0 w K : World) (M : List Ent) (H : Hp w0 w K M) :
  Calls Tryz.prog 24 #[] w fun e w' => ∃ K', e = .returned (.bool true) ∧ Sat K' K ∧ Hp w0 w' K' M := by
 have hK := Sat.refl K
 have hq : ((str queryT).toList == [81, 117, 101, 114, 121]) = true := by kernel_rfl
 have hn0 : ((str F0.name).toList == [97]) = true := by kernel_rfl
 have hn1 : ((str F1.ty.2).toList == [33, 93, 33]) = true := by kernel_rfl
 go_enter Tryz.func24, Tryz.ntmps24
 go_upto_region 4 with (first
  | (go_at_call 13; refine (read_b buildSrc buildDefs build_parsed _ _ _ _ H).mono ?_; clear H; rintro e w1 ⟨K1, Ad, cd, rfl, hle1, H, hd⟩; replace hK := hle1.trans hK)
  | (go_at_call 14; refine (Build_hp buildDefs _ cd Ad _ _ _ _ H rfl hd (by have := build_N; omega)).mono ?_; clear H; rintro e w2 ⟨K2, g, rfl, hle2, H, hT⟩; replace hd := hd.sat hle2; replace hK := hle2.trans hK)
  | (go_at_call 17; refine (Root_t (.pointer (some ⟨g, 0, none⟩)) 1 D0 _ _ _ _ H hT.tp D0_W).mono ?_; clear H; rintro e w3 ⟨K3, rfl, hle3, H⟩; replace hd := hd.sat hle3; replace hT := hT.sat hle3; replace hK := hle3.trans hK; rw [D0_root]))
 go_upto_region 5 with (first
  | (go_at_call 19; refine (Type_t (.pointer (some ⟨g, 0, none⟩)) queryT D0 _ _ _ _ H hT.tp D0_W).mono ?_; clear H; rintro e w4 ⟨K4, v4, rfl, hle4, H, cs4, rfl, hd4⟩; replace hd := hd.sat hle4; replace hT := hT.sat hle4; replace hK := hle4.trans hK; simp only [D0_look, Option.getD_some] at hd4; rw [D0_look]; obtain ⟨B6, e6, B7, e7, B8, e8, B9, e9, B10, e10, B11, e11, B12, e12, B14, e14, hcs4, -, -, df, -, -, -, -, -⟩ := def_cells hd4; rw [Q0_len] at hcs4 df; rw [Q0_fields] at df; obtain ⟨ad0, xs0, hB8, hx0, -, hat0⟩ := elem_k (m := 10) (f := fieldL) (k := 0) (fun _ => rfl) df rfl (by omega); subst hB8; obtain ⟨bf, of, hbo⟩ := slice_plain (m := 10) (f := fieldL) (fun _ => rfl) df (by simp) (by omega); subst hbo; obtain ⟨ad1, xs1, hB9, hx1, -, hat1⟩ := elem_k (m := 10) (f := fieldL) (k := 1) (fun _ => rfl) df rfl (by omega); injection hB9 with hB9; subst hB9; obtain rfl : cs4 = #[.int .i64 Q0.kind, .bool Q0.ext, .bool Q0.note.has, .bool Q0.note.block, .string (str Q0.note.text), .string (str Q0.name), .slice B6 Q0.ifaces.length e6, .slice B7 Q0.dirs.length e7, .slice (some ⟨bf, of, none⟩) 2 e8, .slice B9 Q0.inputs.length e9, .slice B10 Q0.members.length e10, .slice B11 Q0.values.length e11, .slice B12 Q0.roots.length e12, .bool Q0.rep, .slice B14 Q0.places.length e14, .int .i64 Q0.line, .int .i64 Q0.col] := Array.toList_inj.1 hcs4)
  | ((with_reducible refine isL ?_); first
   | (refine al z43 2 H ?_; clear H; intro w5 g2 H)
   | (refine sA 2 0 H ?_; clear H; intro w7 H)))
 obtain ⟨Af0, cf0, Ag0, cg0, hx0e, -, -⟩ := fieldD_cells hx0
 obtain ⟨Af1, cf1, Ag1, cg1, hx1e, -, -⟩ := fieldD_cells hx1
 subst hx0e hx1e
 rw [plain_add] at hat0 hat1
 have f0 := H.sat.cell ((at_range hat0) 3 _ rfl)
 have f1 := H.sat.cell ((at_range hat1) 6 _ rfl)
 simp only [Nat.zero_mul, Nat.add_zero, Nat.one_mul] at f0 f1
 clear hd4 hcs4 df hx0 hx1 hat0 hat1
 have := H.c 0 8
 go_upto_region 8 with (first
  | (go_at_call 27; refine (Possible_t (.pointer (some ⟨g, 0, none⟩)) uT D0 _ _ _ _ H hT.tp D0_W).mono ?_; clear H; rintro e w7 ⟨K7, l7, v7, rfl, hle7, H, hl7, hp7, -⟩; replace hd := hd.sat hle7; replace hT := hT.sat hle7; replace hK := hle7.trans hK; rw [D0_set] at hp7; obtain rfl := own_len hp7; replace hl7 : RD K7 (.list 1 (textsL [queryT])) v7 := hl7; obtain ⟨A7, c7, hv7, -, -⟩ := slice_of hl7; subst hv7; obtain ⟨ad7, xs7, hA7, hx7, -, hat7⟩ := elem_k (m := 1) (f := fun x => [str' x]) (l := [queryT]) (k := 0) (fun _ => rfl) hl7 rfl (by omega); subst hA7; obtain ⟨b7, o7, hbo7⟩ := slice_plain (m := 1) (f := fun x => [str' x]) (l := [queryT]) (fun _ => rfl) hl7 (by simp) (by omega); subst hbo7; have := H.c 0 8))
 have x7 : xs7 = [.string (str queryT)] := by
  obtain ⟨r0, e0, h0⟩ := DatL.lit_inv hx7
  rw [e0, h0.nil_inv]
 subst x7
 rw [plain_add] at hat7
 have f7 := H.sat.cell ((at_range hat7) 0 _ rfl)
 simp only [Nat.zero_mul, Nat.add_zero] at f7
 clear hl7 hx7 hat7 hp7 f0 f1
 have mk1 := True.intro
 go_wp2_with (first
  | (go_at_call 37; clear mk1; refine (Within_t (.pointer (some ⟨g, 0, none⟩)) queryT uT D0 _ _ _ _ H hT.tp D0_W).mono ?_; clear H; rintro e w8 ⟨K8, rfl, hle8, H⟩; replace hT := hT.sat hle8; replace hK := hle8.trans hK; rw [D0_in])
  | (go_at_call 37; refine (Within_t (.pointer (some ⟨g, 0, none⟩)) uT queryT D0 _ _ _ _ H hT.tp D0_W).mono ?_; clear H; rintro e w9 ⟨K9, rfl, hle9, H⟩; replace hT := hT.sat hle9; replace hK := hle9.trans hK; rw [D0_out]))
 go_ret
 exact ⟨_, rfl, hK, H.tail⟩
def lastB (m : Txt) : Int := match m.getLast? with | none => 0 | some b => (b.toNat : Int)
theorem str_empty (m : Txt) : (str m).toList.isEmpty = m.isEmpty := by
 have e : (str []).toList = [] := by kernel_rfl
 have h := str_toList m []
 rw [e] at h
 cases m with
 | nil => rw [e]
 | cons a r =>
  rw [decide_eq_false (by simp)] at h
  cases hx : (str (a :: r)).toList with
  | nil => rw [hx] at h; simp at h
  | cons x y => rfl
theorem str_at (l : Txt) (i : Nat) (h : i < (str l).size) (h2 : i < l.length) : (str l)[i] = l[i] := by
 rfl
theorem lastB_snoc (m : Txt) (b : UInt8) : lastB (m ++ [b]) = (b.toNat : Int) := by simp [lastB]
theorem last_nil (n : Txt) (w0 w K : World) (M : List Ent) (H : Hp w0 w K M) :
  Calls Tryz.prog 89 #[.agg #[.string (str n), .string (str [])]] w fun e w' => e = .returned (.int .u8 (lastB [])) ∧ Hp w0 w' K M := by
 have he : (str []).toList.isEmpty = true := str_empty []
 go_enter Tryz.func89, Tryz.ntmps89
 go_wp2_with (first
  | (refine box_hp (by rfl) 50 (.tmp 0) (by rfl) [.string (str n), .string (str [])] _ (by rfl) (by rfl) (some 1) (by rfl) H ?_; clear H; intro w1 g1 H hg2; clear hg2; have := H.c 0 1))
 replace H := H.sub (List.Sublist.cons _ (List.Sublist.refl _))
 go_ret
 exact ⟨rfl, H⟩
theorem last_cons (n m : Txt) (b : UInt8) (w0 w K : World) (M : List Ent) (H : Hp w0 w K M) (h63 : m.length + 1 ≤ maxLen) :
  Calls Tryz.prog 89 #[.agg #[.string (str n), .string (str (m ++ [b]))]] w fun e w' => e = .returned (.int .u8 (lastB (m ++ [b]))) ∧ Hp w0 w' K M := by
 have hsz := str_size (m ++ [b])
 have he : (str (m ++ [b])).toList.isEmpty = false := by rw [str_empty]; simp
 have hlen : (m ++ [b]).length = m.length + 1 := by simp
 rw [hlen] at hsz
 have hix := str_at (m ++ [b]) m.length (by omega) (by omega)
 have hg : (m ++ [b])[m.length]'(by omega) = b := by simp
 rw [lastB_snoc]
 simp only [maxLen] at h63
 go_enter Tryz.func89, Tryz.ntmps89
 have hwr : wrap64 (((m.length + 1 : Nat) : Int) - 1) = (m.length : Int) := by simp [wrap64]; omega
 go_wp2_with (first
  | (refine box_hp (by rfl) 50 (.tmp 0) (by rfl) [.string (str n), .string (str (m ++ [b]))] _ (by rfl) (by rfl) (some 1) (by rfl) H ?_; clear H; intro w3 g1 H hg4; clear hg4; have := H.c 0 1))
 replace H := H.sub (List.Sublist.cons _ (List.Sublist.refl _))
 go_ret
 have hb := hix.trans hg
 exact ⟨congrArg (fun z : UInt8 => Ending.returned (.int .u8 (z.toNat : Int))) hb, H⟩
theorem last_hp (n m : Txt) (w0 w K : World) (M : List Ent) (H : Hp w0 w K M) (h63 : m.length ≤ maxLen) :
  Calls Tryz.prog 89 #[.agg #[.string (str n), .string (str m)]] w fun e w' => e = .returned (.int .u8 (lastB m)) ∧ Hp w0 w' K M := by
 rcases List.eq_nil_or_concat m with rfl | ⟨l, b, rfl⟩
 · exact last_nil n w0 w K M H
 · rw [List.concat_eq_append] at h63 ⊢
   exact last_cons n l b w0 w K M H (by simpa using h63)
theorem str_cut (m : Txt) (b : UInt8) : (str (m ++ [b])).extract 0 m.length = str m := by
 have h : ((str (m ++ [b])).extract 0 m.length).data = (str m).data := by
  rw [ByteArray.data_extract]
  apply Array.toList_inj.1
  simp [str]
 exact ByteArray.ext h
theorem less_hp (n m : Txt) (b : UInt8) (w0 w K : World) (M : List Ent) (H : Hp w0 w K M) (h63 : m.length + 1 ≤ maxLen) :
  Calls Tryz.prog 90 #[.agg #[.string (str n), .string (str (m ++ [b]))]] w fun e w' => e = .returned (.agg #[.string (str n), .string (str m)]) ∧ Hp w0 w' K M := by
 have hsz := str_size (m ++ [b])
 have hlen : (m ++ [b]).length = m.length + 1 := by simp
 rw [hlen] at hsz
 have hcut := str_cut m b
 simp only [maxLen] at h63
 have hwr : wrap64 (((m.length + 1 : Nat) : Int) - 1) = (m.length : Int) := by simp [wrap64]; omega
 go_enter Tryz.func90, Tryz.ntmps90
 have hw2 : IntKind.i64.wrap (m.length : Int) = (m.length : Int) := by simp [IntKind.wrap, IntKind.bits, IntKind.signed]; omega
 have hle : (m.length : Int) ≤ ((m.length : Int) + 1) := by omega
 go_upto_region 1 with (first
  | (refine box_hp (by rfl) 50 (.tmp 0) (by rfl) [.string (str n), .string (str (m ++ [b]))] _ (by rfl) (by rfl) (some 1) (by rfl) H ?_; clear H; intro w5 g1 H hg6; clear hg6)
  | ((with_reducible refine isL ?_); first
   | (refine al z50 2 H ?_; clear H; intro w7 g2 H)))
 refine still_hp 10 (by kernel_rfl) (by kernel_rfl) H ?_
 clear H
 intro w9 H
 have := H.c 1 0
 have := H.c 1 1
 simp only [List.take_succ_cons, List.take_zero, List.drop_succ_cons, List.drop_zero]
 repeat still_step
 refine wpStill_nil ?_
 replace H : Hp _ _ _ (_ :: _ :: M) := H
 have := H.c 1 0
 have := H.c 1 1
 go_wp2_with (first
  | ((with_reducible refine isL ?_); first
   | (refine sA 2 0 H ?_; clear H; intro w10 H; have := H.c 1 0; have := H.c 1 1)))
 refine bodyPost_ret (v := .agg #[.string (str n), .string (str m)]) (results_cell_row rfl _ _ g2 50 _ (0, 0) _ (by rfl) (H.blkAt (i := 0) rfl) Tryz.underlying50 rfl (by kernel_rfl)) rfl ?_
 replace H := H.sub (List.Sublist.cons _ (List.Sublist.cons _ (List.Sublist.refl _)))
 exact ⟨rfl, H⟩
theorem last_split {m : Txt} {k : Nat} (h : lastB m = (k : Int)) (hk : 0 < k) : ∃ l b, m = l ++ [b] ∧ b.toNat = k := by
 rcases List.eq_nil_or_concat m with rfl | ⟨l, b, rfl⟩
 · simp [lastB] at h; omega
 · rw [List.concat_eq_append] at h ⊢
   rw [lastB_snoc] at h
   exact ⟨l, b, rfl, by omega⟩
def itemR (n m : Txt) : (Txt × Txt) × Bool :=
 if lastB (if lastB m = 33 then m.dropLast else m) = 93 then ((n, (if lastB m = 33 then m.dropLast else m).dropLast), true) else (([], []), false)
def bareR (n m : Txt) : (Txt × Txt) × Bool := if lastB m = 33 then ((n, m.dropLast), true) else ((n, m), false)
def refB (r : (Txt × Txt) × Bool) : Value := .tuple #[.agg #[.string (str r.1.1), .string (str r.1.2)], .bool r.2]
theorem Bare_hp (n m : Txt) (w0 w K : World) (M : List Ent) (H : Hp w0 w K M) (h63 : m.length ≤ 20000000) :
  Calls Tryz.prog 51 #[.agg #[.string (str n), .string (str m)]] w fun e w' => e = .returned (refB (bareR n m)) ∧ Hp w0 w' K M := by
 have hl : m.length ≤ maxLen := by simp only [maxLen]; omega
 by_cases h : lastB m = 33
 · obtain ⟨l, b, rfl, hb⟩ := last_split (k := 33) h (by omega)
   have hl2 : l.length + 1 ≤ maxLen := by simpa using hl
   have HR := hide (show refB (bareR n (l ++ [b])) = .tuple #[.agg #[.string (str n), .string (str l)], .bool true] by unfold bareR; rw [if_pos h]; simp [refB])
   go_enter Tryz.func51, Tryz.ntmps51
   go_upto_region 3 with (first
    | (refine box_hp (by rfl) 50 (.tmp 0) (by rfl) [.string (str n), .string (str (l ++ [b]))] _ (by rfl) (by rfl) (some 1) (by rfl) H ?_; clear H; intro w1 g1 H hg2; clear hg2)
    | (go_at_call 89; refine (last_hp n (l ++ [b]) _ _ _ _ H hl).mono ?_; clear H; rintro e w5 ⟨rfl, H⟩; rw [h])
    | ((with_reducible refine isL ?_); first
     | (refine al z50 2 H ?_; clear H; intro w3 g2 H)
     | (refine ld 1 1 2 Tryz.underlying50 H ?_)))
   go_wp2_with (first
    | (go_at_call 90; refine (less_hp n l b _ _ _ _ H hl2).mono ?_; clear H; rintro e w6 ⟨rfl, H⟩)
    | ((with_reducible refine isL ?_); first
     | (refine ld 1 1 2 Tryz.underlying50 H ?_)
     | (refine sA 2 0 H ?_; clear H; intro w7 H)))
   refine bodyPost_ret (results_box2 rfl _ _ g2 50 _ (0, 0) _ (by rfl) (H.blkAt (i := 0) rfl) Tryz.underlying50 rfl (by kernel_rfl)) rfl ?_
   replace H := H.sub (List.Sublist.cons _ (List.Sublist.cons _ (List.Sublist.refl _)))
   exact ⟨by rw [HR.out]; rfl, H⟩
 · have HR := hide (show refB (bareR n m) = .tuple #[.agg #[.string (str n), .string (str m)], .bool false] by unfold bareR; rw [if_neg h]; rfl)
   obtain ⟨q, hq⟩ : ∃ q, lastB m = q := ⟨_, rfl⟩
   rw [hq] at h
   have hb : (q == 33) = false := by simp [h]
   have hb2 : (q != 33) = true := by simp [h]
   go_enter Tryz.func51, Tryz.ntmps51
   go_wp2_with (first
    | (refine box_hp (by rfl) 50 (.tmp 0) (by rfl) [.string (str n), .string (str m)] _ (by rfl) (by rfl) (some 1) (by rfl) H ?_; clear H; intro w8 g1 H hg9; clear hg9)
    | (go_at_call 89; refine (last_hp n m _ _ _ _ H hl).mono ?_; clear H; rintro e w5 ⟨rfl, H⟩; rw [hq])
    | ((with_reducible refine isL ?_); first
     | (refine al z50 2 H ?_; clear H; intro w10 g2 H)
     | (refine ld 1 1 2 Tryz.underlying50 H ?_)
     | (refine ld 1 1 2 Tryz.underlying50 H ?_)
     | (refine sA 2 0 H ?_; clear H; intro w13 H)))
   refine bodyPost_ret (results_box2 rfl _ _ g2 50 _ (0, 0) _ (by rfl) (H.blkAt (i := 0) rfl) Tryz.underlying50 rfl (by kernel_rfl)) rfl ?_
   replace H := H.sub (List.Sublist.cons _ (List.Sublist.cons _ (List.Sublist.refl _)))
   exact ⟨by rw [HR.out]; rfl, H⟩
end Go.Proofs.YtbpgkkoeehopjaaGreat.hp
