/- Part 17 of 18 of a proof: see the last part. -/
import Derived.Test.YtbpgkkoeehopjaaGreatP9
import Derived.Test.YtbpgkkoeehopjaaGreatP15
import Derived.Test.YtbpgkkoeehopjaaGreatP16
import Derived.Deep.QuietTactic
import Derived.BigQuiet
set_option linter.unusedVariables false
set_option linter.unusedSimpArgs false
namespace Go.Proofs.YtbpgkkoeehopjaaGreat.hp
open Go.RowKit Go.Proofs.YtbpgkkoeehopjaaGreat.words Go.Proofs.YtbpgkkoeehopjaaGreat.enc Go.Proofs.YtbpgkkoeehopjaaGreat.tree Go.Proofs.YtbpgkkoeehopjaaGreat.gram Go.Proofs.YtbpgkkoeehopjaaGreat.lex Go.Proofs.YtbpgkkoeehopjaaGreat.rd Go.Proofs.YtbpgkkoeehopjaaGreat.dec Go.Proofs.YtbpgkkoeehopjaaGreat.dat Go.Proofs.YtbpgkkoeehopjaaGreat.held Go.Proofs.YtbpgkkoeehopjaaGreat.ty
set_option maxRecDepth 100000
attribute [local go_sem ↓] Go.wp_at_zero Go.wp_at_succ
def fitsF (D : TysD) (a b : Txt) : Nat → Txt → Txt → Bool
 | 0, _, _ => false
 | k + 1, x, y =>
  if x = [] ∧ y = [] then withinD D a b
  else if (lastB y = 33 ∧ lastB x = 33) ∨ (lastB y = 93 ∧ lastB x = 93) then fitsF D a b k x.dropLast y.dropLast
  else if lastB y ≠ 33 ∧ lastB x = 33 then fitsF D a b k x.dropLast y
  else false
def fitsD (D : TysD) (a x b y : Txt) : Bool := fitsF D a b (x.length + y.length + 1) x y
def wlen (w : World) (g : Nat) : Nat := match w.cell? ⟨g, 1, none⟩ with | some (.string s) => s.size | _ => 0
theorem wlen_is {w : World} {g : Nat} {m : Txt} (h : w.cell? ⟨g, 1, none⟩ = some (.string (str m))) : wlen w g = m.length := by unfold wlen; rw [h]; exact str_size m
set_option maxHeartbeats 16000000 in
theorem Fits_t (v : Value) (a x b y : Txt) (D : TysD) (w0 w K : World) (M : List Ent) (H : Hp w0 w K M) (hv : Tp K v D) (hW : TyW D) (hxl : x.length ≤ 20000000) (hyl : y.length ≤ 20000000) :
  Calls Tryz.prog 49 #[v, .agg #[.string (str a), .string (str x)], .agg #[.string (str b), .string (str y)]] w fun e w' => ∃ K', e = .returned (.bool (fitsD D a x b y)) ∧ Sat K' K ∧ Hp w0 w' K' M := by
 obtain ⟨r, hr⟩ : ∃ r, fitsD D a x b y = r := ⟨_, rfl⟩
 rw [hr]
 unfold fitsD at hr
 go_enter Tryz.func49, Tryz.ntmps49
 go_wp2_with (first
  | ((with_reducible show wpList _ _ _ (_ :: _) _ _); refine box_hp (by rfl) 50 (.tmp 1) (by rfl) [.string (str a), .string (str x)] _ (by rfl) (by rfl) (some 4) (by rfl) H ?_; clear H; intro w1 g4 H hg1; clear hg1)
  | ((with_reducible show wpList _ _ _ (_ :: _) _ _); refine box_hp (by rfl) 50 (.tmp 2) (by rfl) [.string (str b), .string (str y)] _ (by rfl) (by rfl) (some 5) (by rfl) H ?_; clear H; intro w2 g5 H hg2; clear hg2))
 try simp only [Act.put, List.getElem_toArray, List.getElem_cons_zero, List.getElem_cons_succ, List.setIfInBounds_toArray, List.set_cons_zero, List.set_cons_succ]
 go_loopw [9] (fun _ wr => ∃ (k : Nat) (p q : Txt), p.length + q.length < k ∧ p.length ≤ 20000000 ∧ q.length ≤ 20000000 ∧ fitsF D a b k p q = r ∧ Hp w0 wr K (.box g5 [.string (str b), .string (str q)] 50 :: .box g4 [.string (str a), .string (str p)] 50 :: M)) (fun _ wr => wlen wr g4 + wlen wr g5)
 case atStart => exact ⟨_, x, y, Nat.lt_succ_self _, hxl, hyl, hr, H⟩
 case round =>
  clear H hr
  obtain ⟨k, p, q, hpq, hpl, hql, hr, H⟩ := hrel
  have hw4 := wlen_is (H.cell (i := 1) (j := 1) rfl rfl)
  have hw5 := wlen_is (H.cell (i := 0) (j := 1) rfl rfl)
  have hpe := str_empty p
  have hqe := str_empty q
  have hpm : p.length ≤ maxLen := by simp only [maxLen]; omega
  have hqm : q.length ≤ maxLen := by simp only [maxLen]; omega
  cases k with
  | zero => omega
  | succ k =>
   have HR := hide (show fitsF D a b (k + 1) p q = _ from rfl)
   by_cases hnil : p = [] ∧ q = []
   · obtain ⟨rfl, rfl⟩ := hnil
     have hr2 : withinD D a b = r := by rw [← hr]; unfold fitsF; rw [if_pos ⟨rfl, rfl⟩]
     clear hr HR
     have c1 : (wr).cell? ⟨g4, 1, none⟩ = some (.string (str [])) := H.cell (i := 1) rfl rfl
     have c2 : (wr).cell? ⟨g5, 1, none⟩ = some (.string (str [])) := H.cell (i := 0) rfl rfl
     go_upto_region 9 with (fail)
     have := H.c 1 0
     have := H.c 0 0
     go_wp2_with (first
      | (go_at_call 37; refine (Within_t v a b D _ _ _ _ H hv hW).mono ?_; clear H; rintro e w9 ⟨K9, rfl, hle9, H⟩; rw [hr2]; have := H.c 1 0; have := H.c 0 0))
     replace H := Hp.tail (Hp.tail H)
     go_ret
     exact ⟨K9, rfl, hle9, H⟩
   · have HR2 := hide (HR.out.trans (if_neg hnil))
     clear HR
     obtain ⟨lx, hlx⟩ : ∃ z, lastB p = z := ⟨_, rfl⟩
     obtain ⟨ly, hly⟩ : ∃ z, lastB q = z := ⟨_, rfl⟩
     rw [hr, hlx, hly] at HR2
     have c1 : (wr).cell? ⟨g4, 1, none⟩ = some (.string (str p)) := H.cell (i := 1) rfl rfl
     have c2 : (wr).cell? ⟨g5, 1, none⟩ = some (.string (str q)) := H.cell (i := 0) rfl rfl
     have hgo : (str p).toList.isEmpty = false ∨ ((str p).toList.isEmpty = true ∧ (str q).toList.isEmpty = false) := by
      rw [hpe, hqe]
      cases p with
      | cons _ _ => exact .inl rfl
      | nil =>
       cases q with
       | cons _ _ => exact .inr ⟨rfl, rfl⟩
       | nil => exact absurd ⟨rfl, rfl⟩ hnil
     clear hnil hpe hqe hr
     have hat : ∀ (Qz : Prop), Qz → Qz := fun _ h => h
     rcases hgo with hpe | ⟨hpe, hqe⟩
     · skip
       go_upto_region 2 with (fail)
       refine held.begin_ (fun w' => w'.cell? ⟨g4, 0, none⟩ = some (.string (str a)) ∧ w'.cell? ⟨g4, 1, none⟩ = some (.string (str p)) ∧ w'.cell? ⟨g5, 0, none⟩ = some (.string (str b)) ∧ w'.cell? ⟨g5, 1, none⟩ = some (.string (str q))) [] (by kernel_rfl) ?_
       replace H := H.drew1
       obtain ⟨w2, hq3⟩ : ∃ x, (wr).drew = x := ⟨_, rfl⟩
       rw [hq3] at H ⊢
       clear hq3
       have hS4 : w2.cell? ⟨g4, 0, none⟩ = some (.string (str a)) ∧ w2.cell? ⟨g4, 1, none⟩ = some (.string (str p)) ∧ w2.cell? ⟨g5, 0, none⟩ = some (.string (str b)) ∧ w2.cell? ⟨g5, 1, none⟩ = some (.string (str q)) := ⟨H.cell (i := 1) rfl rfl, H.cell (i := 1) rfl rfl, H.cell (i := 0) rfl rfl, H.cell (i := 0) rfl rfl⟩
       refine held.take (i := 0) (v := ?_) rfl (by kernel_rfl) (by kernel_rfl) (by kernel_rfl) (by kernel_rfl) (by kernel_rfl) (fun _ _ _ h => h) (Or.inl ⟨by rfl, ?_⟩) hS4 ?_
       rotate_left
       · intro w hSw
         try dsimp only at hSw
         go_simp
         try with_reducible rfl
       try simp only [Act.put, List.getElem_toArray, List.getElem_cons_zero, List.getElem_cons_succ, List.setIfInBounds_toArray, List.set_cons_zero, List.set_cons_succ]
       refine held.take (i := 2) (v := ?_) rfl (by kernel_rfl) (by kernel_rfl) (by kernel_rfl) (by kernel_rfl) (by kernel_rfl) (fun _ _ _ h => h) (Or.inl ⟨by rfl, ?_⟩) hS4 ?_
       rotate_left
       · intro w hSw
         try dsimp only at hSw
         go_simp
         try with_reducible rfl
       try simp only [Act.put, List.getElem_toArray, List.getElem_cons_zero, List.getElem_cons_succ, List.setIfInBounds_toArray, List.set_cons_zero, List.set_cons_succ]
       refine held.step (i := 1) (by kernel_rfl) rfl (fun Kq hKq => ?_)
       go_simp
       refine (last_hp a p _ _ _ _ H hpm).mono ?_
       clear H
       rintro e w5 ⟨rfl, H⟩
       rw [hlx]
       replace H : Hp _ _ _ (_ :: _ :: M) := H
       try go_simp
       have hS5 : w5.cell? ⟨g4, 0, none⟩ = some (.string (str a)) ∧ w5.cell? ⟨g4, 1, none⟩ = some (.string (str p)) ∧ w5.cell? ⟨g5, 0, none⟩ = some (.string (str b)) ∧ w5.cell? ⟨g5, 1, none⟩ = some (.string (str q)) := ⟨H.cell (i := 1) rfl rfl, H.cell (i := 1) rfl rfl, H.cell (i := 0) rfl rfl, H.cell (i := 0) rfl rfl⟩
       refine hKq.out _ _ (fun _ => hS5) (fun _ => ?_)
       clear hKq Kq
       refine held.step (i := 3) (by kernel_rfl) rfl (fun Kq hKq => ?_)
       go_simp
       refine (last_hp b q _ _ _ _ H hqm).mono ?_
       clear H
       rintro e w6 ⟨rfl, H⟩
       rw [hly]
       replace H : Hp _ _ _ (_ :: _ :: M) := H
       try go_simp
       have hS6 : w6.cell? ⟨g4, 0, none⟩ = some (.string (str a)) ∧ w6.cell? ⟨g4, 1, none⟩ = some (.string (str p)) ∧ w6.cell? ⟨g5, 0, none⟩ = some (.string (str b)) ∧ w6.cell? ⟨g5, 1, none⟩ = some (.string (str q)) := ⟨H.cell (i := 1) rfl rfl, H.cell (i := 1) rfl rfl, H.cell (i := 0) rfl rfl, H.cell (i := 0) rfl rfl⟩
       refine hKq.out _ _ (fun _ => hS6) (fun _ => ?_)
       clear hKq Kq
       refine held.take (i := 4) (v := ?_) rfl (by kernel_rfl) (by kernel_rfl) (by kernel_rfl) (by kernel_rfl) (by kernel_rfl) (fun _ _ _ h => h) (Or.inl ⟨by rfl, ?_⟩) hS6 ?_
       rotate_left
       · intro w hSw
         try dsimp only at hSw
         go_simp
         try with_reducible rfl
       try simp only [Act.put, List.getElem_toArray, List.getElem_cons_zero, List.getElem_cons_succ, List.setIfInBounds_toArray, List.set_cons_zero, List.set_cons_succ]
       refine held.take (i := 5) (v := ?_) rfl (by kernel_rfl) (by kernel_rfl) (by kernel_rfl) (by kernel_rfl) (by kernel_rfl) (fun _ _ _ h => h) (Or.inl ⟨by rfl, ?_⟩) hS6 ?_
       rotate_left
       · intro w hSw
         try dsimp only at hSw
         go_simp
         try with_reducible rfl
       try simp only [Act.put, List.getElem_toArray, List.getElem_cons_zero, List.getElem_cons_succ, List.setIfInBounds_toArray, List.set_cons_zero, List.set_cons_succ]
       refine held.done (by kernel_rfl) ?_ _
       go_upto_region 4 with (fail)
       clear c1 c2
       by_cases hc1 : ly = 33 ∧ lx = 33
       · obtain ⟨rfl, rfl⟩ := hc1
         obtain ⟨p', b1, rfl, hb1⟩ := last_split (k := 33) hlx (by omega)
         obtain ⟨q', b2, rfl, hb2⟩ := last_split (k := 33) hly (by omega)
         have hlp : p'.length + 1 ≤ maxLen := by simpa using hpm
         have hlq : q'.length + 1 ≤ maxLen := by simpa using hqm
         go_upto_region 6 with (fail)
         refine held.begin_ (fun w' => w'.cell? ⟨g4, 0, none⟩ = some (.string (str a)) ∧ w'.cell? ⟨g4, 1, none⟩ = some (.string (str (p' ++ [b1]))) ∧ w'.cell? ⟨g5, 0, none⟩ = some (.string (str b)) ∧ w'.cell? ⟨g5, 1, none⟩ = some (.string (str (q' ++ [b2])))) [4,5] (by kernel_rfl) ?_
         replace H := H.drew1
         obtain ⟨w7, hq8⟩ : ∃ x, (w6).drew = x := ⟨_, rfl⟩
         rw [hq8] at H ⊢
         clear hq8
         have hS9 : w7.cell? ⟨g4, 0, none⟩ = some (.string (str a)) ∧ w7.cell? ⟨g4, 1, none⟩ = some (.string (str (p' ++ [b1]))) ∧ w7.cell? ⟨g5, 0, none⟩ = some (.string (str b)) ∧ w7.cell? ⟨g5, 1, none⟩ = some (.string (str (q' ++ [b2]))) := ⟨H.cell (i := 1) rfl rfl, H.cell (i := 1) rfl rfl, H.cell (i := 0) rfl rfl, H.cell (i := 0) rfl rfl⟩
         refine held.take (i := 0) (v := ?_) rfl (by kernel_rfl) (by kernel_rfl) (by kernel_rfl) (by kernel_rfl) (by kernel_rfl) (fun _ _ _ h => h) (Or.inl ⟨by rfl, ?_⟩) hS9 ?_
         rotate_left
         · intro w hSw
           try dsimp only at hSw
           go_simp
           try with_reducible rfl
         try simp only [Act.put, List.getElem_toArray, List.getElem_cons_zero, List.getElem_cons_succ, List.setIfInBounds_toArray, List.set_cons_zero, List.set_cons_succ]
         refine held.take (i := 2) (v := ?_) rfl (by kernel_rfl) (by kernel_rfl) (by kernel_rfl) (by kernel_rfl) (by kernel_rfl) (fun _ _ _ h => h) (Or.inl ⟨by rfl, ?_⟩) hS9 ?_
         rotate_left
         · intro w hSw
           try dsimp only at hSw
           go_simp
           try with_reducible rfl
         try simp only [Act.put, List.getElem_toArray, List.getElem_cons_zero, List.getElem_cons_succ, List.setIfInBounds_toArray, List.set_cons_zero, List.set_cons_succ]
         refine held.step (i := 1) (by kernel_rfl) rfl (fun Kq hKq => ?_)
         go_simp
         refine (less_hp a p' b1 _ _ _ _ H hlp).mono ?_
         clear H
         rintro e w7 ⟨rfl, H⟩
         replace H : Hp _ _ _ (_ :: _ :: M) := H
         try go_simp
         have hS10 : w7.cell? ⟨g4, 0, none⟩ = some (.string (str a)) ∧ w7.cell? ⟨g4, 1, none⟩ = some (.string (str (p' ++ [b1]))) ∧ w7.cell? ⟨g5, 0, none⟩ = some (.string (str b)) ∧ w7.cell? ⟨g5, 1, none⟩ = some (.string (str (q' ++ [b2]))) := ⟨H.cell (i := 1) rfl rfl, H.cell (i := 1) rfl rfl, H.cell (i := 0) rfl rfl, H.cell (i := 0) rfl rfl⟩
         refine hKq.out _ _ (fun _ => hS10) (fun _ => ?_)
         clear hKq Kq
         refine held.step (i := 3) (by kernel_rfl) rfl (fun Kq hKq => ?_)
         go_simp
         refine (less_hp b q' b2 _ _ _ _ H hlq).mono ?_
         clear H
         rintro e w8 ⟨rfl, H⟩
         replace H : Hp _ _ _ (_ :: _ :: M) := H
         try go_simp
         have hS11 : w8.cell? ⟨g4, 0, none⟩ = some (.string (str a)) ∧ w8.cell? ⟨g4, 1, none⟩ = some (.string (str (p' ++ [b1]))) ∧ w8.cell? ⟨g5, 0, none⟩ = some (.string (str b)) ∧ w8.cell? ⟨g5, 1, none⟩ = some (.string (str (q' ++ [b2]))) := ⟨H.cell (i := 1) rfl rfl, H.cell (i := 1) rfl rfl, H.cell (i := 0) rfl rfl, H.cell (i := 0) rfl rfl⟩
         refine hKq.out _ _ (fun _ => hS11) (fun _ => ?_)
         clear hKq Kq
         refine held.step (i := 4) (by kernel_rfl) rfl (fun Kq hKq => ?_)
         refine step_store_hp (by rfl) 50 (.tmp 4) (.tmp 35) (by rfl) g4 0 (by first | rfl | simp [Act.eval, Act.put]) (.agg #[.string (str a), .string (str p')]) (by first | rfl | simp [Act.eval, Act.put]) [.string (str a), .string (str p')] (by rfl) (by simp [Value.oneCell']) (by kernel_rfl) H 1 [.string (str a), .string (str (p' ++ [b1]))] [.string (str a), .string (str p')] 50 (by rfl) (Nat.le_of_ble_eq_true (by rfl)) (by rfl) ?_
         clear H
         intro w12 H
         replace H : Hp _ _ _ (_ :: _ :: M) := H
         refine hKq.out _ _ (fun h => absurd (by simp) h) (fun _ => ?_)
         clear hKq Kq
         try simp only [Act.put, List.getElem_toArray, List.getElem_cons_zero, List.getElem_cons_succ, List.setIfInBounds_toArray, List.set_cons_zero, List.set_cons_succ]
         refine held.step (i := 5) (by kernel_rfl) rfl (fun Kq hKq => ?_)
         refine step_store_hp (by rfl) 50 (.tmp 5) (.tmp 37) (by rfl) g5 0 (by first | rfl | simp [Act.eval, Act.put]) (.agg #[.string (str b), .string (str q')]) (by first | rfl | simp [Act.eval, Act.put]) [.string (str b), .string (str q')] (by rfl) (by simp [Value.oneCell']) (by kernel_rfl) H 0 [.string (str b), .string (str (q' ++ [b2]))] [.string (str b), .string (str q')] 50 (by rfl) (Nat.le_of_ble_eq_true (by rfl)) (by rfl) ?_
         clear H
         intro w13 H
         refine hKq.out _ _ (fun h => absurd (by simp) h) (fun _ => ?_)
         clear hKq Kq
         refine held.done (by kernel_rfl) ?_ _
         simp only [Act.put, List.getElem_toArray, List.getElem_cons_zero, List.getElem_cons_succ, List.setIfInBounds_toArray, List.set_cons_zero, List.set_cons_succ]
         replace H : Hp _ _ _ (_ :: _ :: M) := H
         go_wp2_with fail
         go_roundw
         case rel => exact ⟨k, p', q', by simp at hpq; omega, by simp at hpl ⊢; omega, by simp at hql ⊢; omega, by rw [HR2.out]; rw [if_pos (.inl ⟨rfl, rfl⟩)]; simp, H⟩
         case measure =>
          have e4 := wlen_is (H.cell (i := 1) (j := 1) rfl rfl)
          have e5 := wlen_is (H.cell (i := 0) (j := 1) rfl rfl)
          rw [hw4, hw5, e4, e5]
          simp
          try omega
       · by_cases hc2 : ly = 93 ∧ lx = 93
         · obtain ⟨rfl, rfl⟩ := hc2
           clear hc1
           obtain ⟨p', b1, rfl, hb1⟩ := last_split (k := 93) hlx (by omega)
           obtain ⟨q', b2, rfl, hb2⟩ := last_split (k := 93) hly (by omega)
           have hlp : p'.length + 1 ≤ maxLen := by simpa using hpm
           have hlq : q'.length + 1 ≤ maxLen := by simpa using hqm
           go_upto_region 6 with (fail)
           refine held.begin_ (fun w' => w'.cell? ⟨g4, 0, none⟩ = some (.string (str a)) ∧ w'.cell? ⟨g4, 1, none⟩ = some (.string (str (p' ++ [b1]))) ∧ w'.cell? ⟨g5, 0, none⟩ = some (.string (str b)) ∧ w'.cell? ⟨g5, 1, none⟩ = some (.string (str (q' ++ [b2])))) [4,5] (by kernel_rfl) ?_
           replace H := H.drew1
           obtain ⟨w14, hq15⟩ : ∃ x, (w6).drew = x := ⟨_, rfl⟩
           rw [hq15] at H ⊢
           clear hq15
           have hS16 : w14.cell? ⟨g4, 0, none⟩ = some (.string (str a)) ∧ w14.cell? ⟨g4, 1, none⟩ = some (.string (str (p' ++ [b1]))) ∧ w14.cell? ⟨g5, 0, none⟩ = some (.string (str b)) ∧ w14.cell? ⟨g5, 1, none⟩ = some (.string (str (q' ++ [b2]))) := ⟨H.cell (i := 1) rfl rfl, H.cell (i := 1) rfl rfl, H.cell (i := 0) rfl rfl, H.cell (i := 0) rfl rfl⟩
           refine held.take (i := 0) (v := ?_) rfl (by kernel_rfl) (by kernel_rfl) (by kernel_rfl) (by kernel_rfl) (by kernel_rfl) (fun _ _ _ h => h) (Or.inl ⟨by rfl, ?_⟩) hS16 ?_
           rotate_left
           · intro w hSw
             try dsimp only at hSw
             go_simp
             try with_reducible rfl
           try simp only [Act.put, List.getElem_toArray, List.getElem_cons_zero, List.getElem_cons_succ, List.setIfInBounds_toArray, List.set_cons_zero, List.set_cons_succ]
           refine held.take (i := 2) (v := ?_) rfl (by kernel_rfl) (by kernel_rfl) (by kernel_rfl) (by kernel_rfl) (by kernel_rfl) (fun _ _ _ h => h) (Or.inl ⟨by rfl, ?_⟩) hS16 ?_
           rotate_left
           · intro w hSw
             try dsimp only at hSw
             go_simp
             try with_reducible rfl
           try simp only [Act.put, List.getElem_toArray, List.getElem_cons_zero, List.getElem_cons_succ, List.setIfInBounds_toArray, List.set_cons_zero, List.set_cons_succ]
           refine held.step (i := 1) (by kernel_rfl) rfl (fun Kq hKq => ?_)
           go_simp
           refine (less_hp a p' b1 _ _ _ _ H hlp).mono ?_
           clear H
           rintro e w7 ⟨rfl, H⟩
           replace H : Hp _ _ _ (_ :: _ :: M) := H
           try go_simp
           have hS17 : w7.cell? ⟨g4, 0, none⟩ = some (.string (str a)) ∧ w7.cell? ⟨g4, 1, none⟩ = some (.string (str (p' ++ [b1]))) ∧ w7.cell? ⟨g5, 0, none⟩ = some (.string (str b)) ∧ w7.cell? ⟨g5, 1, none⟩ = some (.string (str (q' ++ [b2]))) := ⟨H.cell (i := 1) rfl rfl, H.cell (i := 1) rfl rfl, H.cell (i := 0) rfl rfl, H.cell (i := 0) rfl rfl⟩
           refine hKq.out _ _ (fun _ => hS17) (fun _ => ?_)
           clear hKq Kq
           refine held.step (i := 3) (by kernel_rfl) rfl (fun Kq hKq => ?_)
           go_simp
           refine (less_hp b q' b2 _ _ _ _ H hlq).mono ?_
           clear H
           rintro e w8 ⟨rfl, H⟩
           replace H : Hp _ _ _ (_ :: _ :: M) := H
           try go_simp
           have hS18 : w8.cell? ⟨g4, 0, none⟩ = some (.string (str a)) ∧ w8.cell? ⟨g4, 1, none⟩ = some (.string (str (p' ++ [b1]))) ∧ w8.cell? ⟨g5, 0, none⟩ = some (.string (str b)) ∧ w8.cell? ⟨g5, 1, none⟩ = some (.string (str (q' ++ [b2]))) := ⟨H.cell (i := 1) rfl rfl, H.cell (i := 1) rfl rfl, H.cell (i := 0) rfl rfl, H.cell (i := 0) rfl rfl⟩
           refine hKq.out _ _ (fun _ => hS18) (fun _ => ?_)
           clear hKq Kq
           refine held.step (i := 4) (by kernel_rfl) rfl (fun Kq hKq => ?_)
           refine step_store_hp (by rfl) 50 (.tmp 4) (.tmp 35) (by rfl) g4 0 (by first | rfl | simp [Act.eval, Act.put]) (.agg #[.string (str a), .string (str p')]) (by first | rfl | simp [Act.eval, Act.put]) [.string (str a), .string (str p')] (by rfl) (by simp [Value.oneCell']) (by kernel_rfl) H 1 [.string (str a), .string (str (p' ++ [b1]))] [.string (str a), .string (str p')] 50 (by rfl) (Nat.le_of_ble_eq_true (by rfl)) (by rfl) ?_
           clear H
           intro w19 H
           replace H : Hp _ _ _ (_ :: _ :: M) := H
           refine hKq.out _ _ (fun h => absurd (by simp) h) (fun _ => ?_)
           clear hKq Kq
           try simp only [Act.put, List.getElem_toArray, List.getElem_cons_zero, List.getElem_cons_succ, List.setIfInBounds_toArray, List.set_cons_zero, List.set_cons_succ]
           refine held.step (i := 5) (by kernel_rfl) rfl (fun Kq hKq => ?_)
           refine step_store_hp (by rfl) 50 (.tmp 5) (.tmp 37) (by rfl) g5 0 (by first | rfl | simp [Act.eval, Act.put]) (.agg #[.string (str b), .string (str q')]) (by first | rfl | simp [Act.eval, Act.put]) [.string (str b), .string (str q')] (by rfl) (by simp [Value.oneCell']) (by kernel_rfl) H 0 [.string (str b), .string (str (q' ++ [b2]))] [.string (str b), .string (str q')] 50 (by rfl) (Nat.le_of_ble_eq_true (by rfl)) (by rfl) ?_
           clear H
           intro w20 H
           refine hKq.out _ _ (fun h => absurd (by simp) h) (fun _ => ?_)
           clear hKq Kq
           refine held.done (by kernel_rfl) ?_ _
           simp only [Act.put, List.getElem_toArray, List.getElem_cons_zero, List.getElem_cons_succ, List.setIfInBounds_toArray, List.set_cons_zero, List.set_cons_succ]
           replace H : Hp _ _ _ (_ :: _ :: M) := H
           go_wp2_with fail
           go_roundw
           case rel => exact ⟨k, p', q', by simp at hpq; omega, by simp at hpl ⊢; omega, by simp at hql ⊢; omega, by rw [HR2.out]; rw [if_pos (.inr ⟨rfl, rfl⟩)]; simp, H⟩
           case measure =>
            have e4 := wlen_is (H.cell (i := 1) (j := 1) rfl rfl)
            have e5 := wlen_is (H.cell (i := 0) (j := 1) rfl rfl)
            rw [hw4, hw5, e4, e5]
            simp
            try omega
         · have HR3 := hide (HR2.out.trans (if_neg (by rintro (h | h); exact hc1 h; exact hc2 h)))
           by_cases hc3 : ly ≠ 33 ∧ lx = 33
           · obtain ⟨hy3, rfl⟩ := hc3
             have HR4 := hide (HR3.out.trans (if_pos ⟨hy3, rfl⟩))
             obtain ⟨p', b1, rfl, hb1⟩ := last_split (k := 33) hlx (by omega)
             have hlp : p'.length + 1 ≤ maxLen := by simpa using hpm
             have f1 : (ly == 33) = false := by simp [hy3]
             have f2 : (ly != 33) = true := by simp [hy3]
             clear hc1 hc2 hy3
             cases hly9 : (ly == 93) with
             | true =>
              go_upto_region 8 with (fail)
              go_wp2_with (first
               | (go_at_call 90; refine (less_hp a p' b1 _ _ _ _ H hlp).mono ?_; clear H; rintro e w7 ⟨rfl, H⟩)
               | ((with_reducible refine isL ?_); first
                | (refine ld 4 1 2 Tryz.underlying50 H ?_)
                | (refine sA 4 1 H ?_; clear H; intro w22 H)))
              go_roundw
              case rel => exact ⟨_, _, _, _, _, _, _, _, _, _, _, _, _, _, _, _, _, _, _, _, _, _, _, _, _, _, _, _, _, _, _, _, _, _, _, _, _, _, _, _, _, ⟨k, p', q, by simp at hpq; omega, by simp at hpl ⊢; omega, hql, by rw [HR4.out]; simp, H⟩, rfl⟩
              case measure =>
               have e4 := wlen_is (H.cell (i := 1) (j := 1) rfl rfl)
               have e5 := wlen_is (H.cell (i := 0) (j := 1) rfl rfl)
               rw [hw4, hw5, e4, e5]
               simp
             | false =>
              go_upto_region 8 with (fail)
              go_wp2_with (first
               | (go_at_call 90; refine (less_hp a p' b1 _ _ _ _ H hlp).mono ?_; clear H; rintro e w7 ⟨rfl, H⟩)
               | ((with_reducible refine isL ?_); first
                | (refine ld 4 1 2 Tryz.underlying50 H ?_)
                | (refine sA 4 1 H ?_; clear H; intro w24 H)))
              go_roundw
              case rel => exact ⟨_, _, _, _, _, _, _, _, _, _, _, _, _, _, _, _, _, _, _, _, _, _, _, _, _, _, _, _, _, _, _, _, _, _, _, _, _, _, _, _, _, ⟨k, p', q, by simp at hpq; omega, by simp at hpl ⊢; omega, hql, by rw [HR4.out]; simp, H⟩, rfl⟩
              case measure =>
               have e4 := wlen_is (H.cell (i := 1) (j := 1) rfl rfl)
               have e5 := wlen_is (H.cell (i := 0) (j := 1) rfl rfl)
               rw [hw4, hw5, e4, e5]
               simp
           · have hrf := HR3.out.trans (if_neg hc3)
             subst hrf
             have f1 : ((ly == 33) && (lx == 33)) = false := by
              rw [Bool.and_eq_false_iff]; by_cases h : ly = 33
              · exact .inr (by simp; exact fun e => hc1 ⟨h, e⟩)
              · exact .inl (by simp [h])
             have hx3 : lx ≠ 33 := fun e => by
              by_cases h : ly = 33
              · exact hc1 ⟨h, e⟩
              · exact hc3 ⟨h, e⟩
             have f2 : (lx == 33) = false := by simp [hx3]
             cases hly9 : (ly == 93) with
             | true =>
              have f3 : (lx == 93) = false := by
               have : ly = 93 := by simpa using hly9
               simp; exact fun e => hc2 ⟨this, e⟩
              cases hly3 : (ly == 33) with
              | true => exact absurd (show (33 : Int) = 93 by have h1 : ly = 93 := by simpa using hly9
                                                              have h2 : ly = 33 := by simpa using hly3
                                                              omega) (by omega)
              | false =>
               have f5 : (ly != 33) = !(ly == 33) := rfl
               rw [hly3] at f5
               clear hc1 hc2 hc3 f1 hx3 HR2 HR3
               go_wp2_with fail
               replace H := Hp.tail (Hp.tail H)
               go_ret
               exact ⟨K, rfl, Sat.refl K, H⟩
             | false =>
              cases hly3 : (ly == 33) with
              | true =>
               have f5 : (ly != 33) = !(ly == 33) := rfl
               rw [hly3] at f5
               clear hc1 hc2 hc3 f1 hx3 HR2 HR3
               go_wp2_with fail
               replace H := Hp.tail (Hp.tail H)
               go_ret
               exact ⟨K, rfl, Sat.refl K, H⟩
              | false =>
               have f5 : (ly != 33) = !(ly == 33) := rfl
               rw [hly3] at f5
               clear hc1 hc2 hc3 f1 hx3 HR2 HR3
               go_wp2_with fail
               replace H := Hp.tail (Hp.tail H)
               go_ret
               exact ⟨K, rfl, Sat.refl K, H⟩
     · skip
       go_upto_region 2 with (fail)
       refine held.begin_ (fun w' => w'.cell? ⟨g4, 0, none⟩ = some (.string (str a)) ∧ w'.cell? ⟨g4, 1, none⟩ = some (.string (str p)) ∧ w'.cell? ⟨g5, 0, none⟩ = some (.string (str b)) ∧ w'.cell? ⟨g5, 1, none⟩ = some (.string (str q))) [] (by kernel_rfl) ?_
       replace H := H.drew1
       obtain ⟨w25, hq26⟩ : ∃ x, (wr).drew = x := ⟨_, rfl⟩
       rw [hq26] at H ⊢
       clear hq26
       have hS27 : w25.cell? ⟨g4, 0, none⟩ = some (.string (str a)) ∧ w25.cell? ⟨g4, 1, none⟩ = some (.string (str p)) ∧ w25.cell? ⟨g5, 0, none⟩ = some (.string (str b)) ∧ w25.cell? ⟨g5, 1, none⟩ = some (.string (str q)) := ⟨H.cell (i := 1) rfl rfl, H.cell (i := 1) rfl rfl, H.cell (i := 0) rfl rfl, H.cell (i := 0) rfl rfl⟩
       refine held.take (i := 0) (v := ?_) rfl (by kernel_rfl) (by kernel_rfl) (by kernel_rfl) (by kernel_rfl) (by kernel_rfl) (fun _ _ _ h => h) (Or.inl ⟨by rfl, ?_⟩) hS27 ?_
       rotate_left
       · intro w hSw
         try dsimp only at hSw
         go_simp
         try with_reducible rfl
       try simp only [Act.put, List.getElem_toArray, List.getElem_cons_zero, List.getElem_cons_succ, List.setIfInBounds_toArray, List.set_cons_zero, List.set_cons_succ]
       refine held.take (i := 2) (v := ?_) rfl (by kernel_rfl) (by kernel_rfl) (by kernel_rfl) (by kernel_rfl) (by kernel_rfl) (fun _ _ _ h => h) (Or.inl ⟨by rfl, ?_⟩) hS27 ?_
       rotate_left
       · intro w hSw
         try dsimp only at hSw
         go_simp
         try with_reducible rfl
       try simp only [Act.put, List.getElem_toArray, List.getElem_cons_zero, List.getElem_cons_succ, List.setIfInBounds_toArray, List.set_cons_zero, List.set_cons_succ]
       refine held.step (i := 1) (by kernel_rfl) rfl (fun Kq hKq => ?_)
       go_simp
       refine (last_hp a p _ _ _ _ H hpm).mono ?_
       clear H
       rintro e w5 ⟨rfl, H⟩
       rw [hlx]
       replace H : Hp _ _ _ (_ :: _ :: M) := H
       try go_simp
       have hS28 : w5.cell? ⟨g4, 0, none⟩ = some (.string (str a)) ∧ w5.cell? ⟨g4, 1, none⟩ = some (.string (str p)) ∧ w5.cell? ⟨g5, 0, none⟩ = some (.string (str b)) ∧ w5.cell? ⟨g5, 1, none⟩ = some (.string (str q)) := ⟨H.cell (i := 1) rfl rfl, H.cell (i := 1) rfl rfl, H.cell (i := 0) rfl rfl, H.cell (i := 0) rfl rfl⟩
       refine hKq.out _ _ (fun _ => hS28) (fun _ => ?_)
       clear hKq Kq
       refine held.step (i := 3) (by kernel_rfl) rfl (fun Kq hKq => ?_)
       go_simp
       refine (last_hp b q _ _ _ _ H hqm).mono ?_
       clear H
       rintro e w6 ⟨rfl, H⟩
       rw [hly]
       replace H : Hp _ _ _ (_ :: _ :: M) := H
       try go_simp
       have hS29 : w6.cell? ⟨g4, 0, none⟩ = some (.string (str a)) ∧ w6.cell? ⟨g4, 1, none⟩ = some (.string (str p)) ∧ w6.cell? ⟨g5, 0, none⟩ = some (.string (str b)) ∧ w6.cell? ⟨g5, 1, none⟩ = some (.string (str q)) := ⟨H.cell (i := 1) rfl rfl, H.cell (i := 1) rfl rfl, H.cell (i := 0) rfl rfl, H.cell (i := 0) rfl rfl⟩
       refine hKq.out _ _ (fun _ => hS29) (fun _ => ?_)
       clear hKq Kq
       refine held.take (i := 4) (v := ?_) rfl (by kernel_rfl) (by kernel_rfl) (by kernel_rfl) (by kernel_rfl) (by kernel_rfl) (fun _ _ _ h => h) (Or.inl ⟨by rfl, ?_⟩) hS29 ?_
       rotate_left
       · intro w hSw
         try dsimp only at hSw
         go_simp
         try with_reducible rfl
       try simp only [Act.put, List.getElem_toArray, List.getElem_cons_zero, List.getElem_cons_succ, List.setIfInBounds_toArray, List.set_cons_zero, List.set_cons_succ]
       refine held.take (i := 5) (v := ?_) rfl (by kernel_rfl) (by kernel_rfl) (by kernel_rfl) (by kernel_rfl) (by kernel_rfl) (fun _ _ _ h => h) (Or.inl ⟨by rfl, ?_⟩) hS29 ?_
       rotate_left
       · intro w hSw
         try dsimp only at hSw
         go_simp
         try with_reducible rfl
       try simp only [Act.put, List.getElem_toArray, List.getElem_cons_zero, List.getElem_cons_succ, List.setIfInBounds_toArray, List.set_cons_zero, List.set_cons_succ]
       refine held.done (by kernel_rfl) ?_ _
       go_upto_region 4 with (fail)
       clear c1 c2
       by_cases hc1 : ly = 33 ∧ lx = 33
       · obtain ⟨rfl, rfl⟩ := hc1
         obtain ⟨p', b1, rfl, hb1⟩ := last_split (k := 33) hlx (by omega)
         obtain ⟨q', b2, rfl, hb2⟩ := last_split (k := 33) hly (by omega)
         have hlp : p'.length + 1 ≤ maxLen := by simpa using hpm
         have hlq : q'.length + 1 ≤ maxLen := by simpa using hqm
         go_upto_region 6 with (fail)
         refine held.begin_ (fun w' => w'.cell? ⟨g4, 0, none⟩ = some (.string (str a)) ∧ w'.cell? ⟨g4, 1, none⟩ = some (.string (str (p' ++ [b1]))) ∧ w'.cell? ⟨g5, 0, none⟩ = some (.string (str b)) ∧ w'.cell? ⟨g5, 1, none⟩ = some (.string (str (q' ++ [b2])))) [4,5] (by kernel_rfl) ?_
         replace H := H.drew1
         obtain ⟨w30, hq31⟩ : ∃ x, (w6).drew = x := ⟨_, rfl⟩
         rw [hq31] at H ⊢
         clear hq31
         have hS32 : w30.cell? ⟨g4, 0, none⟩ = some (.string (str a)) ∧ w30.cell? ⟨g4, 1, none⟩ = some (.string (str (p' ++ [b1]))) ∧ w30.cell? ⟨g5, 0, none⟩ = some (.string (str b)) ∧ w30.cell? ⟨g5, 1, none⟩ = some (.string (str (q' ++ [b2]))) := ⟨H.cell (i := 1) rfl rfl, H.cell (i := 1) rfl rfl, H.cell (i := 0) rfl rfl, H.cell (i := 0) rfl rfl⟩
         refine held.take (i := 0) (v := ?_) rfl (by kernel_rfl) (by kernel_rfl) (by kernel_rfl) (by kernel_rfl) (by kernel_rfl) (fun _ _ _ h => h) (Or.inl ⟨by rfl, ?_⟩) hS32 ?_
         rotate_left
         · intro w hSw
           try dsimp only at hSw
           go_simp
           try with_reducible rfl
         try simp only [Act.put, List.getElem_toArray, List.getElem_cons_zero, List.getElem_cons_succ, List.setIfInBounds_toArray, List.set_cons_zero, List.set_cons_succ]
         refine held.take (i := 2) (v := ?_) rfl (by kernel_rfl) (by kernel_rfl) (by kernel_rfl) (by kernel_rfl) (by kernel_rfl) (fun _ _ _ h => h) (Or.inl ⟨by rfl, ?_⟩) hS32 ?_
         rotate_left
         · intro w hSw
           try dsimp only at hSw
           go_simp
           try with_reducible rfl
         try simp only [Act.put, List.getElem_toArray, List.getElem_cons_zero, List.getElem_cons_succ, List.setIfInBounds_toArray, List.set_cons_zero, List.set_cons_succ]
         refine held.step (i := 1) (by kernel_rfl) rfl (fun Kq hKq => ?_)
         go_simp
         refine (less_hp a p' b1 _ _ _ _ H hlp).mono ?_
         clear H
         rintro e w7 ⟨rfl, H⟩
         replace H : Hp _ _ _ (_ :: _ :: M) := H
         try go_simp
         have hS33 : w7.cell? ⟨g4, 0, none⟩ = some (.string (str a)) ∧ w7.cell? ⟨g4, 1, none⟩ = some (.string (str (p' ++ [b1]))) ∧ w7.cell? ⟨g5, 0, none⟩ = some (.string (str b)) ∧ w7.cell? ⟨g5, 1, none⟩ = some (.string (str (q' ++ [b2]))) := ⟨H.cell (i := 1) rfl rfl, H.cell (i := 1) rfl rfl, H.cell (i := 0) rfl rfl, H.cell (i := 0) rfl rfl⟩
         refine hKq.out _ _ (fun _ => hS33) (fun _ => ?_)
         clear hKq Kq
         refine held.step (i := 3) (by kernel_rfl) rfl (fun Kq hKq => ?_)
         go_simp
         refine (less_hp b q' b2 _ _ _ _ H hlq).mono ?_
         clear H
         rintro e w8 ⟨rfl, H⟩
         replace H : Hp _ _ _ (_ :: _ :: M) := H
         try go_simp
         have hS34 : w8.cell? ⟨g4, 0, none⟩ = some (.string (str a)) ∧ w8.cell? ⟨g4, 1, none⟩ = some (.string (str (p' ++ [b1]))) ∧ w8.cell? ⟨g5, 0, none⟩ = some (.string (str b)) ∧ w8.cell? ⟨g5, 1, none⟩ = some (.string (str (q' ++ [b2]))) := ⟨H.cell (i := 1) rfl rfl, H.cell (i := 1) rfl rfl, H.cell (i := 0) rfl rfl, H.cell (i := 0) rfl rfl⟩
         refine hKq.out _ _ (fun _ => hS34) (fun _ => ?_)
         clear hKq Kq
         refine held.step (i := 4) (by kernel_rfl) rfl (fun Kq hKq => ?_)
         refine step_store_hp (by rfl) 50 (.tmp 4) (.tmp 35) (by rfl) g4 0 (by first | rfl | simp [Act.eval, Act.put]) (.agg #[.string (str a), .string (str p')]) (by first | rfl | simp [Act.eval, Act.put]) [.string (str a), .string (str p')] (by rfl) (by simp [Value.oneCell']) (by kernel_rfl) H 1 [.string (str a), .string (str (p' ++ [b1]))] [.string (str a), .string (str p')] 50 (by rfl) (Nat.le_of_ble_eq_true (by rfl)) (by rfl) ?_
         clear H
         intro w35 H
         replace H : Hp _ _ _ (_ :: _ :: M) := H
         refine hKq.out _ _ (fun h => absurd (by simp) h) (fun _ => ?_)
         clear hKq Kq
         try simp only [Act.put, List.getElem_toArray, List.getElem_cons_zero, List.getElem_cons_succ, List.setIfInBounds_toArray, List.set_cons_zero, List.set_cons_succ]
         refine held.step (i := 5) (by kernel_rfl) rfl (fun Kq hKq => ?_)
         refine step_store_hp (by rfl) 50 (.tmp 5) (.tmp 37) (by rfl) g5 0 (by first | rfl | simp [Act.eval, Act.put]) (.agg #[.string (str b), .string (str q')]) (by first | rfl | simp [Act.eval, Act.put]) [.string (str b), .string (str q')] (by rfl) (by simp [Value.oneCell']) (by kernel_rfl) H 0 [.string (str b), .string (str (q' ++ [b2]))] [.string (str b), .string (str q')] 50 (by rfl) (Nat.le_of_ble_eq_true (by rfl)) (by rfl) ?_
         clear H
         intro w36 H
         refine hKq.out _ _ (fun h => absurd (by simp) h) (fun _ => ?_)
         clear hKq Kq
         refine held.done (by kernel_rfl) ?_ _
         simp only [Act.put, List.getElem_toArray, List.getElem_cons_zero, List.getElem_cons_succ, List.setIfInBounds_toArray, List.set_cons_zero, List.set_cons_succ]
         replace H : Hp _ _ _ (_ :: _ :: M) := H
         go_wp2_with fail
         go_roundw
         case rel => exact ⟨k, p', q', by simp at hpq; omega, by simp at hpl ⊢; omega, by simp at hql ⊢; omega, by rw [HR2.out]; rw [if_pos (.inl ⟨rfl, rfl⟩)]; simp, H⟩
         case measure =>
          have e4 := wlen_is (H.cell (i := 1) (j := 1) rfl rfl)
          have e5 := wlen_is (H.cell (i := 0) (j := 1) rfl rfl)
          rw [hw4, hw5, e4, e5]
          simp
          try omega
       · by_cases hc2 : ly = 93 ∧ lx = 93
         · obtain ⟨rfl, rfl⟩ := hc2
           clear hc1
           obtain ⟨p', b1, rfl, hb1⟩ := last_split (k := 93) hlx (by omega)
           obtain ⟨q', b2, rfl, hb2⟩ := last_split (k := 93) hly (by omega)
           have hlp : p'.length + 1 ≤ maxLen := by simpa using hpm
           have hlq : q'.length + 1 ≤ maxLen := by simpa using hqm
           go_upto_region 6 with (fail)
           refine held.begin_ (fun w' => w'.cell? ⟨g4, 0, none⟩ = some (.string (str a)) ∧ w'.cell? ⟨g4, 1, none⟩ = some (.string (str (p' ++ [b1]))) ∧ w'.cell? ⟨g5, 0, none⟩ = some (.string (str b)) ∧ w'.cell? ⟨g5, 1, none⟩ = some (.string (str (q' ++ [b2])))) [4,5] (by kernel_rfl) ?_
           replace H := H.drew1
           obtain ⟨w37, hq38⟩ : ∃ x, (w6).drew = x := ⟨_, rfl⟩
           rw [hq38] at H ⊢
           clear hq38
           have hS39 : w37.cell? ⟨g4, 0, none⟩ = some (.string (str a)) ∧ w37.cell? ⟨g4, 1, none⟩ = some (.string (str (p' ++ [b1]))) ∧ w37.cell? ⟨g5, 0, none⟩ = some (.string (str b)) ∧ w37.cell? ⟨g5, 1, none⟩ = some (.string (str (q' ++ [b2]))) := ⟨H.cell (i := 1) rfl rfl, H.cell (i := 1) rfl rfl, H.cell (i := 0) rfl rfl, H.cell (i := 0) rfl rfl⟩
           refine held.take (i := 0) (v := ?_) rfl (by kernel_rfl) (by kernel_rfl) (by kernel_rfl) (by kernel_rfl) (by kernel_rfl) (fun _ _ _ h => h) (Or.inl ⟨by rfl, ?_⟩) hS39 ?_
           rotate_left
           · intro w hSw
             try dsimp only at hSw
             go_simp
             try with_reducible rfl
           try simp only [Act.put, List.getElem_toArray, List.getElem_cons_zero, List.getElem_cons_succ, List.setIfInBounds_toArray, List.set_cons_zero, List.set_cons_succ]
           refine held.take (i := 2) (v := ?_) rfl (by kernel_rfl) (by kernel_rfl) (by kernel_rfl) (by kernel_rfl) (by kernel_rfl) (fun _ _ _ h => h) (Or.inl ⟨by rfl, ?_⟩) hS39 ?_
           rotate_left
           · intro w hSw
             try dsimp only at hSw
             go_simp
             try with_reducible rfl
           try simp only [Act.put, List.getElem_toArray, List.getElem_cons_zero, List.getElem_cons_succ, List.setIfInBounds_toArray, List.set_cons_zero, List.set_cons_succ]
           refine held.step (i := 1) (by kernel_rfl) rfl (fun Kq hKq => ?_)
           go_simp
           refine (less_hp a p' b1 _ _ _ _ H hlp).mono ?_
           clear H
           rintro e w7 ⟨rfl, H⟩
           replace H : Hp _ _ _ (_ :: _ :: M) := H
           try go_simp
           have hS40 : w7.cell? ⟨g4, 0, none⟩ = some (.string (str a)) ∧ w7.cell? ⟨g4, 1, none⟩ = some (.string (str (p' ++ [b1]))) ∧ w7.cell? ⟨g5, 0, none⟩ = some (.string (str b)) ∧ w7.cell? ⟨g5, 1, none⟩ = some (.string (str (q' ++ [b2]))) := ⟨H.cell (i := 1) rfl rfl, H.cell (i := 1) rfl rfl, H.cell (i := 0) rfl rfl, H.cell (i := 0) rfl rfl⟩
           refine hKq.out _ _ (fun _ => hS40) (fun _ => ?_)
           clear hKq Kq
           refine held.step (i := 3) (by kernel_rfl) rfl (fun Kq hKq => ?_)
           go_simp
           refine (less_hp b q' b2 _ _ _ _ H hlq).mono ?_
           clear H
           rintro e w8 ⟨rfl, H⟩
           replace H : Hp _ _ _ (_ :: _ :: M) := H
           try go_simp
           have hS41 : w8.cell? ⟨g4, 0, none⟩ = some (.string (str a)) ∧ w8.cell? ⟨g4, 1, none⟩ = some (.string (str (p' ++ [b1]))) ∧ w8.cell? ⟨g5, 0, none⟩ = some (.string (str b)) ∧ w8.cell? ⟨g5, 1, none⟩ = some (.string (str (q' ++ [b2]))) := ⟨H.cell (i := 1) rfl rfl, H.cell (i := 1) rfl rfl, H.cell (i := 0) rfl rfl, H.cell (i := 0) rfl rfl⟩
           refine hKq.out _ _ (fun _ => hS41) (fun _ => ?_)
           clear hKq Kq
           refine held.step (i := 4) (by kernel_rfl) rfl (fun Kq hKq => ?_)
           refine step_store_hp (by rfl) 50 (.tmp 4) (.tmp 35) (by rfl) g4 0 (by first | rfl | simp [Act.eval, Act.put]) (.agg #[.string (str a), .string (str p')]) (by first | rfl | simp [Act.eval, Act.put]) [.string (str a), .string (str p')] (by rfl) (by simp [Value.oneCell']) (by kernel_rfl) H 1 [.string (str a), .string (str (p' ++ [b1]))] [.string (str a), .string (str p')] 50 (by rfl) (Nat.le_of_ble_eq_true (by rfl)) (by rfl) ?_
           clear H
           intro w42 H
           replace H : Hp _ _ _ (_ :: _ :: M) := H
           refine hKq.out _ _ (fun h => absurd (by simp) h) (fun _ => ?_)
           clear hKq Kq
           try simp only [Act.put, List.getElem_toArray, List.getElem_cons_zero, List.getElem_cons_succ, List.setIfInBounds_toArray, List.set_cons_zero, List.set_cons_succ]
           refine held.step (i := 5) (by kernel_rfl) rfl (fun Kq hKq => ?_)
           refine step_store_hp (by rfl) 50 (.tmp 5) (.tmp 37) (by rfl) g5 0 (by first | rfl | simp [Act.eval, Act.put]) (.agg #[.string (str b), .string (str q')]) (by first | rfl | simp [Act.eval, Act.put]) [.string (str b), .string (str q')] (by rfl) (by simp [Value.oneCell']) (by kernel_rfl) H 0 [.string (str b), .string (str (q' ++ [b2]))] [.string (str b), .string (str q')] 50 (by rfl) (Nat.le_of_ble_eq_true (by rfl)) (by rfl) ?_
           clear H
           intro w43 H
           refine hKq.out _ _ (fun h => absurd (by simp) h) (fun _ => ?_)
           clear hKq Kq
           refine held.done (by kernel_rfl) ?_ _
           simp only [Act.put, List.getElem_toArray, List.getElem_cons_zero, List.getElem_cons_succ, List.setIfInBounds_toArray, List.set_cons_zero, List.set_cons_succ]
           replace H : Hp _ _ _ (_ :: _ :: M) := H
           go_wp2_with fail
           go_roundw
           case rel => exact ⟨k, p', q', by simp at hpq; omega, by simp at hpl ⊢; omega, by simp at hql ⊢; omega, by rw [HR2.out]; rw [if_pos (.inr ⟨rfl, rfl⟩)]; simp, H⟩
           case measure =>
            have e4 := wlen_is (H.cell (i := 1) (j := 1) rfl rfl)
            have e5 := wlen_is (H.cell (i := 0) (j := 1) rfl rfl)
            rw [hw4, hw5, e4, e5]
            simp
            try omega
         · have HR3 := hide (HR2.out.trans (if_neg (by rintro (h | h); exact hc1 h; exact hc2 h)))
           by_cases hc3 : ly ≠ 33 ∧ lx = 33
           · obtain ⟨hy3, rfl⟩ := hc3
             have HR4 := hide (HR3.out.trans (if_pos ⟨hy3, rfl⟩))
             obtain ⟨p', b1, rfl, hb1⟩ := last_split (k := 33) hlx (by omega)
             have hlp : p'.length + 1 ≤ maxLen := by simpa using hpm
             have f1 : (ly == 33) = false := by simp [hy3]
             have f2 : (ly != 33) = true := by simp [hy3]
             clear hc1 hc2 hy3
             cases hly9 : (ly == 93) with
             | true =>
              go_upto_region 8 with (fail)
              go_wp2_with (first
               | (go_at_call 90; refine (less_hp a p' b1 _ _ _ _ H hlp).mono ?_; clear H; rintro e w7 ⟨rfl, H⟩)
               | ((with_reducible refine isL ?_); first
                | (refine ld 4 1 2 Tryz.underlying50 H ?_)
                | (refine sA 4 1 H ?_; clear H; intro w45 H)))
              go_roundw
              case rel => exact ⟨_, _, _, _, _, _, _, _, _, _, _, _, _, _, _, _, _, _, _, _, _, _, _, _, _, _, _, _, _, _, _, _, _, _, _, _, _, _, _, _, _, ⟨k, p', q, by simp at hpq; omega, by simp at hpl ⊢; omega, hql, by rw [HR4.out]; simp, H⟩, rfl⟩
              case measure =>
               have e4 := wlen_is (H.cell (i := 1) (j := 1) rfl rfl)
               have e5 := wlen_is (H.cell (i := 0) (j := 1) rfl rfl)
               rw [hw4, hw5, e4, e5]
               simp
             | false =>
              go_upto_region 8 with (fail)
              go_wp2_with (first
               | (go_at_call 90; refine (less_hp a p' b1 _ _ _ _ H hlp).mono ?_; clear H; rintro e w7 ⟨rfl, H⟩)
               | ((with_reducible refine isL ?_); first
                | (refine ld 4 1 2 Tryz.underlying50 H ?_)
                | (refine sA 4 1 H ?_; clear H; intro w47 H)))
              go_roundw
              case rel => exact ⟨_, _, _, _, _, _, _, _, _, _, _, _, _, _, _, _, _, _, _, _, _, _, _, _, _, _, _, _, _, _, _, _, _, _, _, _, _, _, _, _, _, ⟨k, p', q, by simp at hpq; omega, by simp at hpl ⊢; omega, hql, by rw [HR4.out]; simp, H⟩, rfl⟩
              case measure =>
               have e4 := wlen_is (H.cell (i := 1) (j := 1) rfl rfl)
               have e5 := wlen_is (H.cell (i := 0) (j := 1) rfl rfl)
               rw [hw4, hw5, e4, e5]
               simp
           · have hrf := HR3.out.trans (if_neg hc3)
             subst hrf
             have f1 : ((ly == 33) && (lx == 33)) = false := by
              rw [Bool.and_eq_false_iff]; by_cases h : ly = 33
              · exact .inr (by simp; exact fun e => hc1 ⟨h, e⟩)
              · exact .inl (by simp [h])
             have hx3 : lx ≠ 33 := fun e => by
              by_cases h : ly = 33
              · exact hc1 ⟨h, e⟩
              · exact hc3 ⟨h, e⟩
             have f2 : (lx == 33) = false := by simp [hx3]
             cases hly9 : (ly == 93) with
             | true =>
              have f3 : (lx == 93) = false := by
               have : ly = 93 := by simpa using hly9
               simp; exact fun e => hc2 ⟨this, e⟩
              cases hly3 : (ly == 33) with
              | true => exact absurd (show (33 : Int) = 93 by have h1 : ly = 93 := by simpa using hly9
                                                              have h2 : ly = 33 := by simpa using hly3
                                                              omega) (by omega)
              | false =>
               have f5 : (ly != 33) = !(ly == 33) := rfl
               rw [hly3] at f5
               clear hc1 hc2 hc3 f1 hx3 HR2 HR3
               go_wp2_with fail
               replace H := Hp.tail (Hp.tail H)
               go_ret
               exact ⟨K, rfl, Sat.refl K, H⟩
             | false =>
              cases hly3 : (ly == 33) with
              | true =>
               have f5 : (ly != 33) = !(ly == 33) := rfl
               rw [hly3] at f5
               clear hc1 hc2 hc3 f1 hx3 HR2 HR3
               go_wp2_with fail
               replace H := Hp.tail (Hp.tail H)
               go_ret
               exact ⟨K, rfl, Sat.refl K, H⟩
              | false =>
               have f5 : (ly != 33) = !(ly == 33) := rfl
               rw [hly3] at f5
               clear hc1 hc2 hc3 f1 hx3 HR2 HR3
               go_wp2_with fail
               replace H := Hp.tail (Hp.tail H)
               go_ret
               exact ⟨K, rfl, Sat.refl K, H⟩
theorem text_k {K : World} {l : List Txt} {n c k : Nat} {A : Option Addr} {x : Txt} (h : RD K (.list n (textsL l)) (.slice A n c)) (hx : l[k]? = some x) : ∃ B O, A = some ⟨B, O, none⟩ ∧ K.cell? ⟨B, O + k, none⟩ = some (.string (str x)) := by
 rw [textsL_flat] at h
 obtain ⟨ad, xs, had, hxd, -, hat⟩ := elem_k (m := 1) (f := fun x => [str' x]) (l := l) (fun _ => rfl) h hx (by omega)
 subst had
 obtain ⟨B, O, hbo⟩ := slice_plain (m := 1) (f := fun x => [str' x]) (l := l) (fun _ => rfl) h (by have := (List.getElem?_eq_some_iff.1 hx).1; omega) (by omega)
 subst hbo
 have x7 : xs = [.string (str x)] := by
  obtain ⟨r0, e0, h0⟩ := DatL.lit_inv hxd
  rw [e0, h0.nil_inv]
 subst x7
 rw [plain_add] at hat
 have f7 := (at_range hat) 0 _ rfl
 simp only [Nat.mul_one, Nat.add_zero] at f7
 exact ⟨B, O, rfl, f7⟩
set_option maxHeartbeats 32000000 in
theorem Ends_walk (defs : List DefD) (n c : Nat) (A : Option Addr) (name field an aw bn bw : Txt) (w : World) (hn : defs.length = n) (hd : RD w (.list n (defsL defs)) (.slice A n c)) (hN : defsN defs ≤ 1048576) (hw : ∀ d ∈ defs, WrapOk d)
  (ha : aw.length ≤ 1048576) (hb : bw.length ≤ 1048576) (hnm : name.length ≤ 1048576) :
  Calls Tryz.prog 12 #[.slice A n c, .string (str name), .string (str field), .agg #[.string (str an), .string (str aw)], .agg #[.string (str bn), .string (str bw)]] w fun e w' => e = .returned (.bool true) ∧ Below w.heap.size w w' := by
 have H := Hp.start w
 have hsa := str_size aw
 have hsb := str_size bw
 have hsn := str_size name
 have hK := Sat.refl w
 by_cases h5 : (4000 : Int) < ((str aw).size : Int)
 · skip
   go_enter Tryz.func12, Tryz.ntmps12
   go_wp2_with (first
    | (refine box_hp (by rfl) 50 (.tmp 3) (by rfl) [.string (str an), .string (str aw)] _ (by rfl) (by rfl) (some 8) (by rfl) H ?_; clear H; intro w1 g8 H hg2; clear hg2; have := H.c 0 1)
    | (refine box_hp (by rfl) 50 (.tmp 4) (by rfl) [.string (str bn), .string (str bw)] _ (by rfl) (by rfl) (some 9) (by rfl) H ?_; clear H; intro w3 g9 H hg4; clear hg4; have := H.c 1 1; have := H.c 0 1)
    | (go_at_call 24; refine (builds_hp _ _ _ _ H).mono ?_; clear H; rintro e w1 ⟨K1, rfl, hle1, H⟩; replace hd := hd.sat hle1; replace hK := hle1.trans hK; have := H.c 1 1; have := H.c 0 1)
    | (go_at_call 54; refine (SizeDefs_hp defs 4000 n c A _ _ _ _ (by omega) hw (by omega) (by omega) H hn hd).mono ?_; clear H; rintro e w2 ⟨n0, rfl, hn0, H⟩; have := H.c 1 1; have := H.c 0 1))
   all_goals
    go_ret
    exact ⟨rfl, H.bel⟩
 by_cases h6 : (4000 : Int) < ((str bw).size : Int)
 · skip
   go_enter Tryz.func12, Tryz.ntmps12
   go_wp2_with (first
    | (refine box_hp (by rfl) 50 (.tmp 3) (by rfl) [.string (str an), .string (str aw)] _ (by rfl) (by rfl) (some 8) (by rfl) H ?_; clear H; intro w7 g8 H hg8; clear hg8; have := H.c 0 1)
    | (refine box_hp (by rfl) 50 (.tmp 4) (by rfl) [.string (str bn), .string (str bw)] _ (by rfl) (by rfl) (some 9) (by rfl) H ?_; clear H; intro w9 g9 H hg10; clear hg10; have := H.c 1 1; have := H.c 0 1)
    | (go_at_call 24; refine (builds_hp _ _ _ _ H).mono ?_; clear H; rintro e w1 ⟨K1, rfl, hle1, H⟩; replace hd := hd.sat hle1; replace hK := hle1.trans hK; have := H.c 1 1; have := H.c 0 1)
    | (go_at_call 54; refine (SizeDefs_hp defs 4000 n c A _ _ _ _ (by omega) hw (by omega) (by omega) H hn hd).mono ?_; clear H; rintro e w2 ⟨n0, rfl, hn0, H⟩; have := H.c 1 1; have := H.c 0 1))
   all_goals
    go_ret
    exact ⟨rfl, H.bel⟩
 go_enter Tryz.func12, Tryz.ntmps12
 go_upto_region 5 with (first
  | (refine box_hp (by rfl) 50 (.tmp 3) (by rfl) [.string (str an), .string (str aw)] _ (by rfl) (by rfl) (some 8) (by rfl) H ?_; clear H; intro w13 g8 H hg14; clear hg14; have := H.c 0 1)
  | (refine box_hp (by rfl) 50 (.tmp 4) (by rfl) [.string (str bn), .string (str bw)] _ (by rfl) (by rfl) (some 9) (by rfl) H ?_; clear H; intro w15 g9 H hg16; clear hg16; have := H.c 1 1; have := H.c 0 1)
  | (go_at_call 24; refine (builds_hp _ _ _ _ H).mono ?_; clear H; rintro e w1 ⟨K1, rfl, hle1, H⟩; replace hd := hd.sat hle1; replace hK := hle1.trans hK; have := H.c 1 1; have := H.c 0 1)
  | (go_at_call 54; refine (SizeDefs_hp defs 4000 n c A _ _ _ _ (by omega) hw (by omega) (by omega) H hn hd).mono ?_; clear H; rintro e w2 ⟨n0, rfl, hn0, H⟩; have := H.c 1 1; have := H.c 0 1))
 rotate_left
 · go_ret
   exact ⟨rfl, H.bel⟩
 clear hn0
 go_upto_region 6 with (first
  | (go_at_call 14; refine (Build_hp defs n c A _ _ _ _ H hn hd (by omega)).mono ?_; clear H; rintro e w3 ⟨K3, g, rfl, hle3, H, hT⟩; replace hd := hd.sat hle3; replace hK := hle3.trans hK)
  | (refine buildSlice_hp (by rfl) 26 24 2 _ (by rfl) (some 36) (by rfl) Tryz.underlying26 [.pointer (some ⟨g, 0, none⟩), .pointer none] (by kernel_rfl) H ?_; clear H; intro w20 g36 H))
 have hW0 : TyW (buildD defs) := buildD_W defs (by omega)
 have hWn : TyW (buildD []) := buildD_W [] (by simp [defsN, sumN])
 generalize buildD defs = D at hT hW0
 clear hd
 go_wp2_with fail
 go_loopw [38] (fun i wr => ∃ (k : Nat) (K' : World), k ≤ 2 ∧ i = .int .i64 k ∧ TysK K' g D ∧ Hp w wr K' (.box g36 [.pointer (some ⟨g, 0, none⟩), .pointer none] 24 :: .box g9 [.string (str bn), .string (str bw)] 50 :: .box g8 [.string (str an), .string (str aw)] 50 :: [])) (fun i _ => 2 - (intOf i).toNat)
 case atStart => exact ⟨0, K3, by omega, rfl, hT, H⟩
 case round =>
  clear H hT hK hle1 hle3
  obtain ⟨k, K', hk, rfl, hT, H⟩ := hrel
  by_cases hlt : k < 2
  · have hkI : (k : Int) < (2 : Int) := by omega
    obtain ⟨v, D1, hcv, hv, hW⟩ : ∃ v D1, [Value.pointer (some ⟨g, 0, none⟩), .pointer none][k]? = some v ∧ Tp K' v D1 ∧ TyW D1 := by
     have hk2 : k = 0 ∨ k = 1 := by omega
     rcases hk2 with rfl | rfl
     · exact ⟨_, D, rfl, hT.tp, hW0⟩
     · exact ⟨_, buildD [], rfl, .inl ⟨rfl, rfl⟩, hWn⟩
    have hcell := H.cell (i := 0) rfl hcv
    obtain ⟨nT, hnT⟩ : ∃ z, D1.types.length = z := ⟨_, rfl⟩
    obtain ⟨nD, hnD⟩ : ∃ z, D1.dirs.length = z := ⟨_, rfl⟩
    have hnT2 : nT ≤ 4000000 := by have := hW.nT; have := p1_len D1.types; omega
    have hnD2 : nD ≤ 4000000 := by have := hW.nD; have := p1_len D1.dirs; omega
    obtain ⟨k0, hk0, k0z, k0s, k0b⟩ := info_parts string_info
    have hNr := fun w2 K M (H : Hp w w2 K M) hv => Names_r v D1 w w2 K M H hv hW
    have hDr := fun w2 K M (H : Hp w w2 K M) hv => Directives_r v D1 w w2 K M H hv hW
    rw [hnT] at hNr
    rw [hnD] at hDr
    have hlT : Hid ((namesD D1.types ++ [name]).length = nT + 1) := by show _ = _; simp [namesD, hnT]
    have hlD : Hid ((namesD D1.dirs ++ [name]).length = nD + 1) := by show _ = _; simp [namesD, hnD]
    clear hnT hnD
    have hK := Sat.refl K'
    go_upto_region 9 with (first
     | (go_at_call 15; refine (hNr _ _ _ H hv).mono ?_; clear H; rintro e w4 ⟨K4, A4, c4, rfl, hle4, H⟩; replace hT := hT.sat hle4; replace hv := hv.sat hle4; replace hK := hle4.trans hK; replace H : Hp _ _ _ (_ :: _ :: _ :: _ :: []) := H)
     | (refine buildSlice_hp (by rfl) 27 9 1 _ (by rfl) (some 45) (by rfl) Tryz.underlying27 [.string (str name)] (by kernel_rfl) H ?_; clear H; intro w22 g45 H)
     | (at_builtin; refine append_hp (by rfl) _ _ 27 (by rfl) 9 k0 _ 1 16 Tryz.underlying27 hk0 k0z k0s k0b (by rfl) (by decide) H 1 (.slice A4 nT c4) (nT) (((namesD D1.types).map sv)) (by rfl) (by first | rfl | simp [Act.eval, Act.put]) (some ⟨g45, 0, none⟩) 1 1 [.string (str name)] (by first | rfl | simp [Act.eval, Act.put]) (by rfl) (H.rd (i := 0) rfl) (by simp [Value.oneCell']) (by simp only [maxLen]; omega) (by omega) ?_; clear H; intro v5 w5 H; replace H : Hp w w5 K4 (.box g45 [.string (str name)] 9 :: .row 9 1 (v5) (nT + 1) (((namesD D1.types).map sv) ++ [.string (str name)]) :: .box g36 [.pointer (some ⟨g, 0, none⟩), .pointer none] 24 :: .box g9 [.string (str bn), .string (str bw)] 50 :: .box g8 [.string (str an), .string (str aw)] 50 :: []) := H; obtain ⟨v5A, v5c, rfl, v5l, v5m⟩ := H.slice (i := 1) rfl))
    replace H := H.tail
    have hls : RL K4 (textsL (namesD D1.types ++ [name])) ((namesD D1.types).map sv ++ [.string (str name)]) := by
     have := rl_texts (K := K4) (namesD D1.types ++ [name])
     simpa using this
    have H0 := H
    clear H
    obtain ⟨K5, s5, H, hnm5⟩ := Hp.freezeRow H0 hls
    clear H0
    replace hv := hv.sat s5
    replace hT := hT.sat s5
    obtain ⟨l5, hl5⟩ : ∃ x, namesD D1.types ++ [name] = x := ⟨_, rfl⟩
    rw [hl5] at hnm5 hlT
    clear hls hl5 hle4 hcell hcv
    go_wp2_with fail
    go_loopw [48] (fun i wr => ∃ (j : Nat) (K6 : World), j ≤ nT + 1 ∧ i = .int .i64 j ∧ Sat K6 K5 ∧ Hp w wr K6 (.box g36 [.pointer (some ⟨g, 0, none⟩), .pointer none] 24 :: .box g9 [.string (str bn), .string (str bw)] 50 :: .box g8 [.string (str an), .string (str aw)] 50 :: [])) (fun i _ => nT + 1 - (intOf i).toNat)
    case atStart => exact ⟨0, K5, by omega, rfl, Sat.refl _, H⟩
    case round =>
     clear H
     obtain ⟨j, K6, hj, rfl, s6, H⟩ := hrel
     by_cases hjl : j < nT + 1
     · have hjI : (j : Int) < ((nT + 1 : Nat) : Int) := by omega
       have hv := hv.sat s6
       have hK := Sat.refl K6
       obtain ⟨x, hx⟩ : ∃ x, l5[j]? = some x := ⟨_, List.getElem?_eq_getElem (by rw [hlT.out]; exact hjl)⟩
       obtain ⟨B5, O5, hA5, hc5⟩ := text_k hnm5 hx
       subst hA5
       have hcx := (H.sat.trans s6).cell hc5
       clear hx hc5
       go_upto_region 18 with (first
        | (go_at_call 19; refine (Type_t v x D1 _ _ _ _ H hv hW).mono ?_; clear H; rintro e wa ⟨Ka, va, rfl, hlea, H, -⟩; replace hv := hv.sat hlea; replace hK := hlea.trans hK)
        | (go_at_call 27; refine (Possible_t v x D1 _ _ _ _ H hv hW).mono ?_; clear H; rintro e wb ⟨Kb, lb, vb, rfl, hleb, H, -, -, -⟩; replace hv := hv.sat hleb; replace hK := hleb.trans hK)
        | (go_at_call 35; refine (Meet_t v x name D1 _ _ _ _ H hv hW).mono ?_; clear H; rintro e wc ⟨Kc, rfl, hlec, H⟩; replace hv := hv.sat hlec; replace hK := hlec.trans hK)
        | (go_at_call 37; refine (Within_t v name x D1 _ _ _ _ H hv hW).mono ?_; clear H; rintro e wd ⟨Kd, rfl, hled, H⟩; replace hv := hv.sat hled; replace hK := hled.trans hK)
        | (go_at_call 41; refine (Field_t v x field D1 _ _ _ _ H hv hW).mono ?_; clear H; rintro e we ⟨Ke, ve, rfl, hlee, H, -⟩; replace hv := hv.sat hlee; replace hK := hlee.trans hK)
        | (go_at_call 31; refine (Input_t v x D1 _ _ _ _ H hv).mono ?_; clear H; rintro e wf ⟨Kf, rfl, hlef, H⟩; replace hv := hv.sat hlef; replace hK := hlef.trans hK)
        | (go_at_call 33; refine (Output_t v x D1 _ _ _ _ H hv).mono ?_; clear H; rintro e wg ⟨Kg, rfl, hleg, H⟩; replace hv := hv.sat hleg; replace hK := hleg.trans hK))
       go_wp2_with fail
       go_roundw
       case rel => exact ⟨j + 1, Kg, by omega, by go_num, hK.trans s6, H⟩
       case measure => simp [intOf]; omega
     · have hjI : ¬ (j : Int) < ((nT + 1 : Nat) : Int) := by omega
       have hv := hv.sat s6
       have hT := hT.sat s6
       have hK := Sat.refl K6
       clear hnm5 s6 hlT hjl
       go_upto_region 20 with (first
        | (go_at_call 16; refine (hDr _ _ _ H hv).mono ?_; clear H; rintro e w7 ⟨K7, A7, c7, rfl, hle7, H⟩; replace hT := hT.sat hle7; replace hv := hv.sat hle7; replace hK := hle7.trans hK; replace H : Hp _ _ _ (_ :: _ :: _ :: _ :: []) := H)
        | (refine buildSlice_hp (by rfl) 27 9 1 _ (by rfl) (some 80) (by rfl) Tryz.underlying27 [.string (str name)] (by kernel_rfl) H ?_; clear H; intro w31 g80 H)
        | (at_builtin; refine append_hp (by rfl) _ _ 27 (by rfl) 9 k0 _ 1 16 Tryz.underlying27 hk0 k0z k0s k0b (by rfl) (by decide) H 1 (.slice A7 nD c7) (nD) (((namesD D1.dirs).map sv)) (by rfl) (by first | rfl | simp [Act.eval, Act.put]) (some ⟨g80, 0, none⟩) 1 1 [.string (str name)] (by first | rfl | simp [Act.eval, Act.put]) (by rfl) (H.rd (i := 0) rfl) (by simp [Value.oneCell']) (by simp only [maxLen]; omega) (by omega) ?_; clear H; intro v8 w8 H; replace H : Hp w w8 K7 (.box g80 [.string (str name)] 9 :: .row 9 1 (v8) (nD + 1) (((namesD D1.dirs).map sv) ++ [.string (str name)]) :: .box g36 [.pointer (some ⟨g, 0, none⟩), .pointer none] 24 :: .box g9 [.string (str bn), .string (str bw)] 50 :: .box g8 [.string (str an), .string (str aw)] 50 :: []) := H; obtain ⟨v8A, v8c, rfl, v8l, v8m⟩ := H.slice (i := 1) rfl))
       replace H := H.tail
       have hls : RL K7 (textsL (namesD D1.dirs ++ [name])) ((namesD D1.dirs).map sv ++ [.string (str name)]) := by
        have := rl_texts (K := K7) (namesD D1.dirs ++ [name])
        simpa using this
       have H0 := H
       clear H
       obtain ⟨K8, s8, H, hnm8⟩ := Hp.freezeRow H0 hls
       clear H0
       replace hv := hv.sat s8
       replace hT := hT.sat s8
       obtain ⟨l8, hl8⟩ : ∃ x, namesD D1.dirs ++ [name] = x := ⟨_, rfl⟩
       rw [hl8] at hnm8 hlD
       clear hls hl8 hle7 hK
       go_wp2_with fail
       go_loopw [83] (fun i wr => ∃ (j : Nat) (K9 : World), j ≤ nD + 1 ∧ i = .int .i64 j ∧ Sat K9 K8 ∧ Hp w wr K9 (.box g36 [.pointer (some ⟨g, 0, none⟩), .pointer none] 24 :: .box g9 [.string (str bn), .string (str bw)] 50 :: .box g8 [.string (str an), .string (str aw)] 50 :: [])) (fun i _ => nD + 1 - (intOf i).toNat)
       case atStart => exact ⟨0, K8, by omega, rfl, Sat.refl _, H⟩
       case round =>
        clear H
        obtain ⟨j, K9, hj, rfl, s9, H⟩ := hrel
        by_cases hjl : j < nD + 1
        · have hjI : (j : Int) < ((nD + 1 : Nat) : Int) := by omega
          have hv := hv.sat s9
          have hK := Sat.refl K9
          obtain ⟨x, hx⟩ : ∃ x, l8[j]? = some x := ⟨_, List.getElem?_eq_getElem (by rw [hlD.out]; exact hjl)⟩
          obtain ⟨B8, O8, hA8, hc8⟩ := text_k hnm8 hx
          subst hA8
          have hcx := (H.sat.trans s9).cell hc8
          clear hx hc8
          go_upto_region 23 with (first
           | (go_at_call 22; refine (Directive_t v x D1 _ _ _ _ H hv hW).mono ?_; clear H; rintro e wa ⟨Ka, va, rfl, hlea, H, -⟩; replace hv := hv.sat hlea; replace hK := hlea.trans hK))
          go_wp2_with fail
          go_roundw
          case rel => exact ⟨j + 1, Ka, by omega, by go_num, hK.trans s9, H⟩
          case measure => simp [intOf]; omega
        · have hjI : ¬ (j : Int) < ((nD + 1 : Nat) : Int) := by omega
          have hv := hv.sat s9
          have hT := hT.sat s9
          have hK := Sat.refl K9
          clear hnm8 s9 hlD hjl
          go_upto_region 27 with (first
           | (go_at_call 18; refine (Schema_t v D1 _ _ _ _ _ H hv hW rfl).mono ?_; clear H; rintro e wa ⟨Ka, va, rfl, hlea, H, -⟩; replace hT := hT.sat hlea; replace hv := hv.sat hlea; replace hK := hlea.trans hK)
           | (go_at_call 17; refine (Root_t v _ D1 _ _ _ _ H hv hW).mono ?_; clear H; rintro e wb ⟨Kb, rfl, hleb, H⟩; replace hT := hT.sat hleb; replace hv := hv.sat hleb; replace hK := hleb.trans hK)
           | (go_at_call 49; refine (Fits_t v an aw bn bw D1 _ _ _ _ H hv hW (by omega) (by omega)).mono ?_; clear H; rintro e wc ⟨Kc, rfl, hlec, H⟩; replace hT := hT.sat hlec; replace hv := hv.sat hlec; replace hK := hlec.trans hK)
           | ((with_reducible refine isL ?_); first
            | (refine ld 8 2 2 Tryz.underlying50 H ?_)
            | (refine ld 9 1 2 Tryz.underlying50 H ?_)))
          go_wp2_with fail
          go_roundw
          case rel => exact ⟨k + 1, Kc, by omega, by go_num, hT, H⟩
          case measure => simp [intOf]; omega
  · have hkI : ¬ (k : Int) < 2 := by omega
    have hK := Sat.refl K'
    go_wp2_with (first
     | (go_at_call 50; refine (Item_hp an aw _ _ _ _ H (by omega)).mono ?_; clear H; rintro e wa ⟨rfl, H⟩)
     | (go_at_call 51; refine (Bare_hp bn bw _ _ _ _ H (by omega)).mono ?_; clear H; rintro e wb ⟨rfl, H⟩)
     | ((with_reducible refine isL ?_); first
      | (refine ld 8 2 2 Tryz.underlying50 H ?_)
      | (refine ld 9 1 2 Tryz.underlying50 H ?_)))
    go_ret
    exact ⟨rfl, H.bel⟩
end Go.Proofs.YtbpgkkoeehopjaaGreat.hp
