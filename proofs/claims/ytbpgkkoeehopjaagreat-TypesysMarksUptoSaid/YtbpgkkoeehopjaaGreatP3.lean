/- Part 3 of 17 of a proof: see the last part. -/
import Derived.Test.YtbpgkkoeehopjaaGreatP2
import Derived.Deep.LoopGhost
import Derived.Deep.QuietTactic
import Derived.BigQuiet
import Derived.WalkSmall
set_option linter.unusedVariables false
set_option linter.unusedSimpArgs false
namespace Go.Proofs.YtbpgkkoeehopjaaGreat.lex
open Go.RowKit Go.Proofs.YtbpgkkoeehopjaaGreat.words Go.Proofs.YtbpgkkoeehopjaaGreat.enc Go.Proofs.YtbpgkkoeehopjaaGreat.tree Go.Proofs.YtbpgkkoeehopjaaGreat.gram
set_option maxRecDepth 100000
set_option maxHeartbeats 4000000 in
theorem block_any (A : Option Addr) (n c B : Nat) (s : List Int) (w : World) (hr : Rd w B A (s.map (Value.int .i32))) (hn : s.length = n) (h63 : n ≤ 1099511627776) (f i r : Nat) (hi : i ≤ n) (h : blkF s i f (i + 3) = some r) :
  Calls Tryz.prog 203 #[.slice A n c, .int .i64 i] w fun e w' => e = .returned (.int .i64 r) ∧ w' = w := by
 have HN := hide hn
 have HH := hide h
 have hth := fun w hr j hj => three_any A n c B s w hr hn h63 j hj 34
 clear hn h
 go_enter Tryz.func203, Tryz.ntmps203
 go_wp2_with fail
 go_loopg [5] f (fun fu iv wr => ∃ k : Nat, iv = .int .i64 k ∧ Hid (blkF s i fu k = some r) ∧ wr = w)
 case atStart => exact ⟨i + 3, by go_num, HH.out, rfl⟩
 case round =>
  obtain ⟨k, rfl, hk, rfl⟩ := hrel
  cases gk with
  | zero => have h0 := hk.out; rw [blkF] at h0; cases h0
  | succ fu =>
   have h0 := hk.out
   rw [blkF] at h0
   cases hz : s[k]? with
   | none => rw [hz] at h0; cases h0
   | some z =>
    rw [hz] at h0
    dsimp only at h0
    have hkn := lt_of hz HN.out
    have hkI : (k : Int) < (n : Int) := by omega
    obtain ⟨ad, rfl, hc⟩ := at_i32 hr hz
    have hth1 := fun w hr => hth w hr (k + 1) (by omega)
    have hth0 := fun w hr => hth w hr k (by omega)
    rw [show (((k + 1 : Nat) : Int)) = (k : Int) + 1 by omega] at hth1
    clear hth hz hk
    by_cases hneg : z < 0
    · rw [if_pos hneg] at h0
      injection h0 with h0
      subst h0
      have hz0 : ¬ (0 : Int) ≤ z := by omega
      go_wp2_with fail
      go_ret
      exact ⟨rfl, rfl⟩
    rw [if_neg hneg] at h0
    have hz0 : (0 : Int) ≤ z := by omega
    by_cases h92 : z = 92
    · subst h92
      cases h3 : threeF s (k + 1) 34 with
      | true =>
       rw [h3, if_pos ⟨rfl, rfl⟩] at h0
       rw [h3] at hth1
       have H1 := hide h0
       have hl := three_len h3
       have := HN.out
       clear h0 h3
       go_wp2_with (first | (go_at_call 202; refine (hth1 _ hr).mono ?_; rintro e w' ⟨rfl, rfl⟩))
       go_roundg fu
       case rel => exact ⟨k + 4, by go_num, H1.out, rfl⟩
       case measure => omega
      | false =>
       rw [if_neg (by rw [h3]; simp)] at h0
       rw [h3] at hth1
       cases h4 : threeF s k 34 with
       | true =>
        rw [h4, if_pos rfl] at h0
        rw [h4] at hth0
        injection h0 with h0
        subst h0
        clear h3 h4
        go_wp2_with (first | (go_at_call 202; refine (hth1 _ hr).mono ?_; clear hth1; rintro e w' ⟨rfl, rfl⟩) | (go_at_call 202; refine (hth0 _ hr).mono ?_; rintro e w' ⟨rfl, rfl⟩))
        go_ret
        exact ⟨by go_num, rfl⟩
       | false =>
        rw [h4, if_neg (by decide)] at h0
        rw [h4] at hth0
        have H1 := hide h0
        clear h0 h3 h4
        go_wp2_with (first | (go_at_call 202; refine (hth1 _ hr).mono ?_; clear hth1; rintro e w' ⟨rfl, rfl⟩) | (go_at_call 202; refine (hth0 _ hr).mono ?_; rintro e w' ⟨rfl, rfl⟩))
        go_roundg fu
        case rel => exact ⟨k + 1, by go_num, H1.out, rfl⟩
        case measure => omega
    · rw [if_neg (fun h => h92 h.1)] at h0
      have b92 : ((z : Int) == 92) = false := by rw [beq_eq_false_iff_ne]; exact h92
      cases h4 : threeF s k 34 with
      | true =>
       rw [h4, if_pos rfl] at h0
       rw [h4] at hth0
       injection h0 with h0
       subst h0
       clear h4 h92 hth1
       go_wp2_with (first | (go_at_call 202; refine (hth0 _ hr).mono ?_; rintro e w' ⟨rfl, rfl⟩))
       go_ret
       exact ⟨by go_num, rfl⟩
      | false =>
       rw [h4, if_neg (by decide)] at h0
       rw [h4] at hth0
       have H1 := hide h0
       clear h0 h4 h92 hth1
       go_wp2_with (first | (go_at_call 202; refine (hth0 _ hr).mono ?_; rintro e w' ⟨rfl, rfl⟩))
       go_roundg fu
       case rel => exact ⟨k + 1, by go_num, H1.out, rfl⟩
       case measure => omega
set_option maxHeartbeats 4000000 in
theorem escaped_any (A : Option Addr) (n c B : Nat) (s : List Int) (w : World) (hr : Rd w B A (s.map (Value.int .i32))) (hn : s.length = n) (h63 : n ≤ 1099511627776) (i : Nat) (hi : i ≤ n) :
  Calls Tryz.prog 214 #[.slice A n c, .int .i64 i] w fun e w' => e = .returned (.bool (escT s i)) ∧ w' = w := by
 by_cases hlt : i + 3 < n
 · have hltI : (i : Int) + 3 < (n : Int) := by omega
   have hi0 : (i : Int) < (n : Int) := by omega
   have hi1 : (i : Int) + 1 < (n : Int) := by omega
   have hi2 : (i : Int) + 2 < (n : Int) := by omega
   obtain ⟨x0, h0⟩ : ∃ x, s[i]? = some x := ⟨_, List.getElem?_eq_getElem (by omega)⟩
   obtain ⟨x1, h1⟩ : ∃ x, s[i + 1]? = some x := ⟨_, List.getElem?_eq_getElem (by omega)⟩
   obtain ⟨x2, h2⟩ : ∃ x, s[i + 2]? = some x := ⟨_, List.getElem?_eq_getElem (by omega)⟩
   obtain ⟨x3, h3⟩ : ∃ x, s[i + 3]? = some x := ⟨_, List.getElem?_eq_getElem (by omega)⟩
   obtain ⟨ad, rfl, c0⟩ := at_i32 hr h0
   obtain ⟨ad', e1, c1⟩ := at_i32 hr h1
   injection e1 with e1
   subst e1
   obtain ⟨ad', e1, c2⟩ := at_i32 hr h2
   injection e1 with e1
   subst e1
   obtain ⟨ad', e1, c3⟩ := at_i32 hr h3
   injection e1 with e1
   subst e1
   rw [add_succ] at c1 c2 c3
   have hd : escT s i = (decide (x0 = 92) && decide (x1 = 34) && decide (x2 = 34) && decide (x3 = 34)) := by
    unfold escT threeF
    rw [h0, h1, show i + 1 + 1 = i + 2 by omega, show i + 1 + 2 = i + 3 by omega, h2, h3]
    simp [Bool.and_assoc]
   rw [hd]
   clear hd h0 h1 h2 h3 hn hi
   by_cases e0 : x0 = 92
   · subst e0
     by_cases e1 : x1 = 34
     · subst e1
       by_cases e2 : x2 = 34
       · subst e2
         by_cases e3 : x3 = 34
         · subst e3
           go_enter Tryz.func214, Tryz.ntmps214
           go_wp2_with fail
           go_ret
           exact ⟨rfl, rfl⟩
         · have q3 : ((x3 : Int) == 34) = false := by rw [beq_eq_false_iff_ne]; exact e3
           rw [decide_eq_false e3]
           clear e3
           go_enter Tryz.func214, Tryz.ntmps214
           go_wp2_with fail
           go_ret
           exact ⟨rfl, rfl⟩
       · have q2 : ((x2 : Int) == 34) = false := by rw [beq_eq_false_iff_ne]; exact e2
         rw [decide_eq_false e2]
         clear e2
         go_enter Tryz.func214, Tryz.ntmps214
         go_wp2_with fail
         go_ret
         exact ⟨rfl, rfl⟩
     · have q1 : ((x1 : Int) == 34) = false := by rw [beq_eq_false_iff_ne]; exact e1
       rw [decide_eq_false e1]
       clear e1
       go_enter Tryz.func214, Tryz.ntmps214
       go_wp2_with fail
       go_ret
       exact ⟨rfl, rfl⟩
   · have q0 : ((x0 : Int) == 92) = false := by rw [beq_eq_false_iff_ne]; exact e0
     rw [decide_eq_false e0]
     clear e0
     go_enter Tryz.func214, Tryz.ntmps214
     go_wp2_with fail
     go_ret
     exact ⟨rfl, rfl⟩
 · have hltI : ¬ ((i : Int) + 3 < (n : Int)) := by omega
   have hd : escT s i = false := by
    cases h : escT s i with
    | false => rfl
    | true => have := escT_len h; omega
   rw [hd]
   clear hd hn
   go_enter Tryz.func214, Tryz.ntmps214
   go_wp2_with fail
   go_ret
   exact ⟨rfl, rfl⟩
set_option maxHeartbeats 8000000 in
theorem standing_any (A : Option Addr) (n c B : Nat) (s : List Int) (w : World) (hr : Rd w B A (s.map (Value.int .i32))) (hn : s.length = n) (h63 : n ≤ 1099511627770) :
  Calls Tryz.prog 209 #[.slice A n c] w fun e w' => e = .returned (.bool (standF s)) ∧ w' = w := by
 obtain ⟨r, hrr⟩ : ∃ r, standF s = r := ⟨_, rfl⟩
 rw [hrr]
 have HE : Hid (standGo s (n + 1) 0 0 0 = r) := by show _ = _; rw [← hrr]; unfold standF; rw [hn]
 have hes := fun w hr j hj => escaped_any A n c B s w hr hn (by omega) j hj
 have HN := hide hn
 clear hn hrr
 go_enter Tryz.func209, Tryz.ntmps209
 go_wp2_with fail
 go_loopw [3, 4, 5, 6, 7] (fun qv lv iv _ _ wr => ∃ (k g : Nat) (q l : Int), k ≤ n ∧ n < k + g ∧ 0 ≤ q ∧ q ≤ 2 ∧ qv = .int .i64 q ∧ lv = .int .i32 l ∧ iv = .int .i64 k ∧ Hid (standGo s g k q l = r) ∧ wr = w) (fun _ _ iv _ _ _ => n - (intOf iv).toNat)
 case atStart => exact ⟨0, n + 1, 0, 0, by omega, by omega, by omega, by omega, rfl, rfl, rfl, HE, rfl⟩
 case round =>
  clear HE
  obtain ⟨k, g, q, l, hk, hg, hq0, hq2, rfl, rfl, rfl, he, rfl⟩ := hrel
  obtain ⟨g, rfl⟩ : ∃ g', g = g' + 1 := ⟨g - 1, by omega⟩
  have h0 := he.out
  rw [standGo] at h0
  clear he
  by_cases hlt : k < n
  · have hkI : (k : Int) < (n : Int) := by omega
    obtain ⟨z, hz⟩ : ∃ z, s[k]? = some z := ⟨_, List.getElem?_eq_getElem (by rw [HN.out]; exact hlt)⟩
    rw [hz] at h0
    dsimp only at h0
    obtain ⟨ad, rfl, hc⟩ := at_i32 hr hz
    have hec := fun w hr => hes w hr k (by omega)
    have hso := fun w => Source_any z w
    clear hz hes
    cases hs : sourceF z with
    | false =>
     rw [hs, if_pos rfl] at h0
     rw [hs] at hso
     subst h0
     clear hs
     go_wp2_with (first | (go_at_call 167; refine (hso _).mono ?_; rintro e w' ⟨rfl, rfl⟩))
     go_ret
     exact ⟨rfl, rfl⟩
    | true =>
     rw [hs, if_neg (by decide)] at h0
     rw [hs] at hso
     clear hs
     cases h3 : escT s k with
     | true =>
      rw [h3, if_pos rfl] at h0
      rw [h3] at hec
      have hl := escT_len h3
      have := HN.out
      have H1 := hide h0
      clear h0 h3
      go_wp2_with (first | (go_at_call 167; refine (hso _).mono ?_; rintro e w' ⟨rfl, rfl⟩) | (go_at_call 214; refine (hec _ hr).mono ?_; rintro e w' ⟨rfl, rfl⟩))
      go_roundw
      case rel => exact ⟨k + 4, g, 0, 0, by omega, by omega, by omega, by omega, rfl, rfl, by go_num, H1, trivial⟩
      case measure => simp [intOf]; omega
     | false =>
      rw [h3, if_neg (by decide)] at h0
      rw [h3] at hec
      clear h3
      by_cases h34 : z = 34
      · subst h34
        rw [if_pos rfl] at h0
        by_cases hq3 : q + 1 = 3
        · rw [if_pos hq3] at h0
          obtain rfl : q = 2 := by omega
          subst h0
          go_wp2_with (first | (go_at_call 167; refine (hso _).mono ?_; rintro e w' ⟨rfl, rfl⟩) | (go_at_call 214; refine (hec _ hr).mono ?_; rintro e w' ⟨rfl, rfl⟩))
          go_ret
          exact ⟨rfl, rfl⟩
        · rw [if_neg hq3] at h0
          have H1 := hide h0
          have b3 : (q + 1 == 3) = false := by rw [beq_eq_false_iff_ne]; exact hq3
          have hq1 : q + 1 ≤ 2 := by omega
          clear h0 hq3
          go_wp2_with (first | (go_at_call 167; refine (hso _).mono ?_; rintro e w' ⟨rfl, rfl⟩) | (go_at_call 214; refine (hec _ hr).mono ?_; rintro e w' ⟨rfl, rfl⟩))
          go_roundw
          case rel => exact ⟨k + 1, g, q + 1, 34, by omega, by omega, by omega, by omega, rfl, rfl, by go_num, H1, trivial⟩
          case measure => simp [intOf]; omega
      · rw [if_neg h34] at h0
        have H1 := hide h0
        have b34 : ((z : Int) == 34) = false := by rw [beq_eq_false_iff_ne]; exact h34
        clear h0 h34
        go_wp2_with (first | (go_at_call 167; refine (hso _).mono ?_; rintro e w' ⟨rfl, rfl⟩) | (go_at_call 214; refine (hec _ hr).mono ?_; rintro e w' ⟨rfl, rfl⟩))
        go_roundw
        case rel => exact ⟨k + 1, g, 0, z, by omega, by omega, by omega, by omega, rfl, rfl, by go_num, H1, trivial⟩
        case measure => simp [intOf]; omega
  · have hkI : ¬ (k : Int) < (n : Int) := by omega
    rw [List.getElem?_eq_none (by rw [HN.out]; omega)] at h0
    dsimp only at h0
    clear hes
    by_cases h34 : l = 34
    · subst h34
      have : r = false := by rw [← h0]; rfl
      subst this
      clear h0
      go_wp2_with fail
      go_ret
      exact ⟨rfl, rfl⟩
    · have b1 : (l != 34) = true := by rw [bne_iff_ne]; exact h34
      rw [b1, Bool.true_and] at h0
      subst h0
      clear h34
      go_wp2_with fail
      go_ret
      exact ⟨rfl, rfl⟩
set_option maxHeartbeats 2000000 in
theorem white_any (z : Int) (w : World) : Calls Tryz.prog 223 #[.int .i32 z] w fun e w' => e = .returned (.bool (whiteF z)) ∧ w' = w := by
 unfold whiteF
 by_cases h9 : z = 9
 · subst h9
   go_enter Tryz.func223, Tryz.ntmps223
   go_wp2_with fail
   go_ret
   exact ⟨rfl, rfl⟩
 · have b9 : ((z : Int) == 9) = false := by rw [beq_eq_false_iff_ne]; exact h9
   rw [b9, Bool.false_or]
   clear h9
   go_enter Tryz.func223, Tryz.ntmps223
   go_wp2_with fail
   go_ret
   exact ⟨rfl, rfl⟩
theorem tw_step {α : Type} {p : α → Bool} : ∀ {l : List α} {k : Nat} {x : α}, k ≤ (l.takeWhile p).length → l[k]? = some x → (p x = true → k + 1 ≤ (l.takeWhile p).length) ∧ (p x = false → (l.takeWhile p).length = k)
 | [], k, x, _, h => by simp at h
 | a :: l, 0, x, _, h => by
  simp only [List.getElem?_cons_zero, Option.some.injEq] at h
  subst h
  refine ⟨fun h => by rw [List.takeWhile_cons, if_pos h]; simp, fun h => by rw [List.takeWhile_cons, if_neg (by rw [h]; decide)]; rfl⟩
 | a :: l, k + 1, x, hk, h => by
  cases ha : p a with
  | false => rw [List.takeWhile_cons, if_neg (by rw [ha]; decide)] at hk; simp at hk
  | true =>
   rw [List.takeWhile_cons, if_pos ha, List.length_cons] at hk ⊢
   have := tw_step (p := p) (l := l) (k := k) (x := x) (Nat.le_of_succ_le_succ hk) (by simpa using h)
   exact ⟨fun h => by have := this.1 h; omega, fun h => by have := this.2 h; omega⟩
set_option maxHeartbeats 4000000 in
theorem indent_any (A : Option Addr) (n c B : Nat) (s : List Int) (w : World) (hr : Rd w B A (s.map (Value.int .i32))) (hn : s.length = n) (h63 : n ≤ 1099511627776) :
  Calls Tryz.prog 221 #[.slice A n c] w fun e w' => e = .returned (.int .i64 (indF s)) ∧ w' = w := by
 obtain ⟨r, hrr⟩ : ∃ r, indF s = r := ⟨_, rfl⟩
 have hrn := indF_le s
 rw [hrr, hn] at hrn
 rw [hrr]
 have HR := hide hrr
 have HN := hide hn
 clear hn hrr
 go_enter Tryz.func221, Tryz.ntmps221
 go_wp2_with fail
 go_loopw [3] (fun iv wr => ∃ k : Nat, k ≤ r ∧ iv = .int .i64 k ∧ wr = w) (fun iv _ => n - (intOf iv).toNat)
 case atStart => exact ⟨0, by omega, rfl, rfl⟩
 case round =>
  obtain ⟨k, hk, rfl, rfl⟩ := hrel
  by_cases hlt : k < n
  · have hkI : (k : Int) < (n : Int) := by omega
    obtain ⟨z, hz⟩ : ∃ z, s[k]? = some z := ⟨_, List.getElem?_eq_getElem (by rw [HN.out]; exact hlt)⟩
    obtain ⟨ad, rfl, hc⟩ := at_i32 hr hz
    have hst := tw_step (p := whiteF) (by have := HR.out; unfold indF at this; omega) hz
    have hr2 := HR.out
    unfold indF at hr2
    rw [hr2] at hst
    have hw := fun w => white_any z w
    cases hwz : whiteF z with
    | true =>
     rw [hwz] at hst hw
     have h1 := hst.1 rfl
     clear hst hwz hr2 hz
     go_wp2_with (first | (go_at_call 223; refine (hw _).mono ?_; rintro e w' ⟨rfl, rfl⟩))
     go_roundw
     case rel => exact ⟨k + 1, by omega, by go_num, trivial⟩
     case measure => simp [intOf]; omega
    | false =>
     rw [hwz] at hst hw
     obtain rfl := hst.2 rfl
     clear hst hwz hr2 hz
     go_wp2_with (first | (go_at_call 223; refine (hw _).mono ?_; rintro e w' ⟨rfl, rfl⟩))
     go_ret
     exact ⟨rfl, rfl⟩
  · have hkI : ¬ (k : Int) < (n : Int) := by omega
    obtain rfl : k = r := by omega
    go_wp2_with fail
    go_ret
    exact ⟨rfl, rfl⟩
theorem blank_any (A : Option Addr) (n c B : Nat) (s : List Int) (w : World) (hr : Rd w B A (s.map (Value.int .i32))) (hn : s.length = n) (h63 : n ≤ 1099511627776) :
  Calls Tryz.prog 216 #[.slice A n c] w fun e w' => e = .returned (.bool (blankL s)) ∧ w' = w := by
 have hi := fun w hr => indent_any A n c B s w hr hn h63
 have hb : blankL s = (((indF s : Nat) : Int) == (n : Int)) := by
  unfold blankL
  rw [hn]
  by_cases h : indF s = n
  · rw [decide_eq_true h, h]; simp
  · rw [decide_eq_false h]; symm; rw [beq_eq_false_iff_ne]; omega
 rw [hb]
 generalize indF s = r at hi
 clear hb hn
 go_enter Tryz.func216, Tryz.ntmps216
 go_wp2_with (first | (go_at_call 221; refine (hi _ hr).mono ?_; rintro e w' ⟨rfl, rfl⟩))
 go_ret
 exact ⟨rfl, rfl⟩
def BlockOk : Prop := ∀ (A : Option Addr) (n c B : Nat) (s : List Int) (w : World), Rd w B A (s.map (Value.int .i32)) → B ≤ w.heap.size → s.length = n → n ≤ c → c ≤ maxLen → n ≤ 4000000 →
  Calls Tryz.prog 204 #[.slice A n c] w fun e w' => e = .returned (.tuple #[.string (str (blockV s).1), .int .i64 (blockV s).2]) ∧ Below w.heap.size w w'
def textF (s : List Int) (f i : Nat) : Option (Nat × Int × Txt) :=
 if threeF s i 34 = true then (match blkF s i f (i + 3) with
  | none => none
  | some j => if j = i then some (i, 1, [])
   else if i + 6 ≤ j ∧ j ≤ s.length then (if (blockV ((s.drop (i + 3)).take (j - 3 - (i + 3)))).2 = 0 then some (j, 7, (blockV ((s.drop (i + 3)).take (j - 3 - (i + 3)))).1) else some (i, 1, [])) else none)
 else match quoF s i f (i + 1) with
  | none => none
  | some j => if j = i then some (i, 1, [])
   else if i + 2 ≤ j ∧ j ≤ s.length then (if (quotedF ((s.drop (i + 1)).take (j - 1 - (i + 1)))).2 = 0 then some (j, 6, (quotedF ((s.drop (i + 1)).take (j - 1 - (i + 1)))).1) else some (i, 1, [])) else none
set_option maxHeartbeats 8000000 in
theorem text_any (HB : BlockOk) (A : Option Addr) (n c B : Nat) (s : List Int) (w : World) (hr : Rd w B A (s.map (Value.int .i32))) (hB : B ≤ w.heap.size) (hn : s.length = n) (hnc : n ≤ c) (hcm : c ≤ maxLen) (h63 : n ≤ 4000000) (f i : Nat) (hi : i < n) (r : Nat × Int × Txt) (h : textF s f i = some r) :
  Calls Tryz.prog 196 #[.slice A n c, .int .i64 i] w fun e w' => e = .returned (.tuple #[.int .i64 r.1, .int .i64 r.2.1, .string (str r.2.2)]) ∧ Below w.heap.size w w' := by
 have hc63 : c ≤ 9223372036854775807 := by simpa [maxLen] using hcm
 unfold textF at h
 have hth := three_any A n c B s w hr hn (by omega) i (by omega) 34
 cases h3 : threeF s i 34 with
 | true =>
  rw [h3, if_pos rfl] at h
  rw [h3] at hth
  cases hq : blkF s i f (i + 3) with
  | none => rw [hq] at h; cases h
  | some j =>
   rw [hq] at h
   dsimp only at h
   have hqu := block_any A n c B s w hr hn (by omega) f i j (by omega) hq
   by_cases hji : j = i
   · rw [if_pos hji] at h
     injection h with h
     subst h hji
     clear h3 hq
     go_enter Tryz.func196, Tryz.ntmps196
     go_wp2_with (first | (go_at_call 202; refine hth.mono ?_; rintro e w' ⟨rfl, rfl⟩) | (go_at_call 203; refine hqu.mono ?_; rintro e w' ⟨rfl, rfl⟩))
     exact bodyPost_ret (v := .tuple #[.int .i64 j, .int .i64 1, .string (str [])]) (by simp [results, Tryz.results196, go_sem]; rfl) rfl ⟨rfl, Below.refl _ _⟩
   · rw [if_neg hji] at h
     by_cases hin : i + 6 ≤ j ∧ j ≤ s.length
     · rw [if_pos hin] at h
       obtain ⟨g1, g2⟩ := hin
       obtain ⟨t, ht⟩ : ∃ t, (s.drop (i + 3)).take (j - 3 - (i + 3)) = t := ⟨_, rfl⟩
       have hrt := (hr.drop (i + 3)).take (j - 3 - (i + 3))
       rw [← List.map_drop, ← List.map_take, ht] at hrt
       rw [ht] at h
       have htl : t.length = j - 3 - (i + 3) := by rw [← ht, List.length_take, List.length_drop]; omega
       have hjI : ((j : Int) == (i : Int)) = false := by rw [beq_eq_false_iff_ne]; omega
       obtain ⟨jj, hjj⟩ : ∃ jj, j = jj + 3 := ⟨j - 3, by omega⟩
       subst hjj
       rw [show jj + 3 - 3 - (i + 3) = jj - (i + 3) by omega] at htl
       have hj1 : (i : Int) + 3 ≤ (jj : Int) := by omega
       have hj2 : (jj : Int) ≤ (c : Int) := by omega
       have hbc := fun w hr hB => HB (A.map (·.add (i + 3))) (jj - (i + 3)) (c - (i + 3)) B t w hr hB htl (by omega) (by omega) (by omega)
       have hne : ¬ c = i + 3 := by omega
       have hmc : (i : Int) + 3 ≤ (c : Int) := by omega
       obtain ⟨v1, v2, hv⟩ : ∃ v1 v2, blockV t = (v1, v2) := ⟨_, _, rfl⟩
       rw [hv] at h hbc
       dsimp only at h hbc
       rw [show (fun x : Addr => x.add (i + 3)) = fun x => ⟨x.block, x.off + (i + 3), none⟩ from funext fun x => add_succ x (i + 2)] at hrt hbc
       clear h3 hq ht htl hji hv
       by_cases hv0 : v2 = 0
       · rw [if_pos hv0] at h
         injection h with h
         subst h hv0
         go_enter Tryz.func196, Tryz.ntmps196
         go_wp2_with (first | (go_at_call 202; refine hth.mono ?_; rintro e w' ⟨rfl, rfl⟩) | (go_at_call 203; refine hqu.mono ?_; rintro e w' ⟨rfl, rfl⟩) | (go_at_call 204; refine (hbc _ hrt hB).mono ?_; rintro e w2 ⟨rfl, hb2⟩))
         exact bodyPost_ret (v := .tuple #[.int .i64 ((jj : Int) + 3), .int .i64 7, .string (str v1)]) (by simp [results, Tryz.results196, go_sem]) rfl ⟨rfl, hb2⟩
       · rw [if_neg hv0] at h
         injection h with h
         subst h
         have b0 : ((v2 : Int) == 0) = false := by rw [beq_eq_false_iff_ne]; exact hv0
         clear hv0
         go_enter Tryz.func196, Tryz.ntmps196
         go_wp2_with (first | (go_at_call 202; refine hth.mono ?_; rintro e w' ⟨rfl, rfl⟩) | (go_at_call 203; refine hqu.mono ?_; rintro e w' ⟨rfl, rfl⟩) | (go_at_call 204; refine (hbc _ hrt hB).mono ?_; rintro e w2 ⟨rfl, hb2⟩))
         exact bodyPost_ret (v := .tuple #[.int .i64 i, .int .i64 1, .string (str [])]) (by simp [results, Tryz.results196, go_sem]; rfl) rfl ⟨rfl, hb2⟩
     · rw [if_neg hin] at h; cases h
 | false =>
  rw [h3, if_neg (by decide)] at h
  rw [h3] at hth
  cases hq : quoF s i f (i + 1) with
  | none => rw [hq] at h; cases h
  | some j =>
   rw [hq] at h
   dsimp only at h
   have hqu := quoted_any A n c B s w hr hn (by omega) f i j hi hq
   by_cases hji : j = i
   · rw [if_pos hji] at h
     injection h with h
     subst h hji
     clear h3 hq
     go_enter Tryz.func196, Tryz.ntmps196
     go_wp2_with (first | (go_at_call 202; refine hth.mono ?_; rintro e w' ⟨rfl, rfl⟩) | (go_at_call 205; refine hqu.mono ?_; rintro e w' ⟨rfl, rfl⟩))
     exact bodyPost_ret (v := .tuple #[.int .i64 j, .int .i64 1, .string (str [])]) (by simp [results, Tryz.results196, go_sem]; rfl) rfl ⟨rfl, Below.refl _ _⟩
   · rw [if_neg hji] at h
     by_cases hin : i + 2 ≤ j ∧ j ≤ s.length
     · rw [if_pos hin] at h
       obtain ⟨g1, g2⟩ := hin
       obtain ⟨t, ht⟩ : ∃ t, (s.drop (i + 1)).take (j - 1 - (i + 1)) = t := ⟨_, rfl⟩
       have hrt := (hr.drop (i + 1)).take (j - 1 - (i + 1))
       rw [← List.map_drop, ← List.map_take, ht] at hrt
       rw [ht] at h
       have htl : t.length = j - 1 - (i + 1) := by rw [← ht, List.length_take, List.length_drop]; omega
       have hjI : ((j : Int) == (i : Int)) = false := by rw [beq_eq_false_iff_ne]; omega
       obtain ⟨jj, hjj⟩ : ∃ jj, j = jj + 1 := ⟨j - 1, by omega⟩
       subst hjj
       rw [show jj + 1 - 1 - (i + 1) = jj - (i + 1) by omega] at htl
       have hj1 : (i : Int) + 1 ≤ (jj : Int) := by omega
       have hj2 : (jj : Int) ≤ (c : Int) := by omega
       have hbc := fun w hr hB => Quoted_any (A.map (·.add (i + 1))) (jj - (i + 1)) (c - (i + 1)) B t w hr hB htl (by omega)
       obtain ⟨v1, v2, hv⟩ : ∃ v1 v2, quotedF t = (v1, v2) := ⟨_, _, rfl⟩
       rw [hv] at h hbc
       dsimp only at h hbc
       rw [show (fun x : Addr => x.add (i + 1)) = fun x => ⟨x.block, x.off + (i + 1), none⟩ from funext fun x => add_succ x i] at hrt hbc
       clear h3 hq ht htl hji hv
       by_cases hv0 : v2 = 0
       · rw [if_pos hv0] at h
         injection h with h
         subst h hv0
         go_enter Tryz.func196, Tryz.ntmps196
         go_wp2_with (first | (go_at_call 202; refine hth.mono ?_; rintro e w' ⟨rfl, rfl⟩) | (go_at_call 205; refine hqu.mono ?_; rintro e w' ⟨rfl, rfl⟩) | (go_at_call 206; refine (hbc _ hrt hB).mono ?_; rintro e w2 ⟨rfl, hb2⟩))
         exact bodyPost_ret (v := .tuple #[.int .i64 ((jj : Int) + 1), .int .i64 6, .string (str v1)]) (by simp [results, Tryz.results196, go_sem]) rfl ⟨rfl, hb2⟩
       · rw [if_neg hv0] at h
         injection h with h
         subst h
         have b0 : ((v2 : Int) == 0) = false := by rw [beq_eq_false_iff_ne]; exact hv0
         clear hv0
         go_enter Tryz.func196, Tryz.ntmps196
         go_wp2_with (first | (go_at_call 202; refine hth.mono ?_; rintro e w' ⟨rfl, rfl⟩) | (go_at_call 205; refine hqu.mono ?_; rintro e w' ⟨rfl, rfl⟩) | (go_at_call 206; refine (hbc _ hrt hB).mono ?_; rintro e w2 ⟨rfl, hb2⟩))
         exact bodyPost_ret (v := .tuple #[.int .i64 i, .int .i64 1, .string (str [])]) (by simp [results, Tryz.results196, go_sem]; rfl) rfl ⟨rfl, hb2⟩
     · rw [if_neg hin] at h; cases h
def oneF (s : List Int) (f i : Nat) : Option (Nat × Int × Txt) :=
 match s[i]? with
 | none => none
 | some c =>
  if c = -2 then some (i, 0, [])
  else if startF c = true then (match nameF s f i with
   | none => none
   | some j => some (j, 3, []))
  else if digitF c = true ∨ c = 45 then some ((numF s i).1, (numF s i).2, [])
  else if c = 34 then textF s f i
  else match punctF s i with
   | none => none
   | some j => if i < j then some (j, 2, []) else some (i, 1, [])
set_option maxHeartbeats 4000000 in
theorem One_any (HB : BlockOk) (A : Option Addr) (n c B : Nat) (s : List Int) (w : World) (hr : Rd w B A (s.map (Value.int .i32))) (hB : B ≤ w.heap.size) (hn : s.length = n) (hnc : n ≤ c) (hcm : c ≤ maxLen) (h63 : n ≤ 4000000) (hlast : s.getLast? = some (-2)) (f i : Nat) (r : Nat × Int × Txt) (h : oneF s f i = some r) :
  Calls Tryz.prog 170 #[.slice A n c, .int .i64 i] w fun e w' => e = .returned (.tuple #[.int .i64 r.1, .int .i64 r.2.1, .string (str r.2.2)]) ∧ Below w.heap.size w w' := by
 unfold oneF at h
 cases hz : s[i]? with
 | none => rw [hz] at h; cases h
 | some z =>
  rw [hz] at h
  dsimp only at h
  have hin := lt_of hz hn
  have hinI : (i : Int) < (n : Int) := by omega
  obtain ⟨ad, rfl, hc⟩ := at_i32 hr hz
  by_cases h2 : z = -2
  · rw [if_pos h2] at h
    injection h with h
    subst h h2
    clear hz hn
    go_enter Tryz.func170, Tryz.ntmps170
    go_wp2_with fail
    exact bodyPost_ret (v := .tuple #[.int .i64 i, .int .i64 0, .string (str [])]) (by simp [results, Tryz.results170, go_sem]; rfl) rfl ⟨rfl, Below.refl _ _⟩
  rw [if_neg h2] at h
  have b2 : ((z : Int) == -2) = false := by rw [beq_eq_false_iff_ne]; exact h2
  cases hs : startF z with
  | true =>
   rw [hs, if_pos rfl] at h
   cases hnm : nameF s f i with
   | none => rw [hnm] at h; cases h
   | some j =>
    rw [hnm] at h
    injection h with h
    subst h
    have hcall := name_any (some ad) n c B s w hr hn (by omega) f i j hnm
    have HS := hide hs
    clear hz hn hs hnm h2
    go_enter Tryz.func170, Tryz.ntmps170
    go_wp2_with fail
    refine (NameStart_any z _).mono ?_
    rintro e w' ⟨rfl, rfl⟩
    rw [HS.out]
    go_wp2_with fail
    refine hcall.mono ?_
    rintro e w' ⟨rfl, rfl⟩
    go_wp2_with fail
    exact bodyPost_ret (v := .tuple #[.int .i64 j, .int .i64 3, .string (str [])]) (by simp [results, Tryz.results170, go_sem]; rfl) rfl ⟨rfl, Below.refl _ _⟩
  | false =>
   rw [hs, if_neg (by decide)] at h
   by_cases hd : digitF z = true ∨ z = 45
   · rw [if_pos hd] at h
     injection h with h
     subst h
     have hcall := numeral_any (some ad) n c B s w hr hn (by omega) i hin (-2) hlast (by decide)
     obtain ⟨p, q, hpq⟩ : ∃ p q, numF s i = (p, q) := ⟨_, _, rfl⟩
     rw [hpq] at hcall ⊢
     dsimp only at hcall ⊢
     have HS := hide hs
     by_cases hd1 : digitF z = true
     · have HD := hide hd1
       clear hz hn hs hd hd1 h2 hpq hlast
       go_enter Tryz.func170, Tryz.ntmps170
       go_wp2_with fail
       refine (NameStart_any z _).mono ?_
       rintro e w' ⟨rfl, rfl⟩
       rw [HS.out]
       go_wp2_with fail
       refine (Digit_any z _).mono ?_
       rintro e w' ⟨rfl, rfl⟩
       rw [HD.out]
       go_wp2_with fail
       refine hcall.mono ?_
       rintro e w2 ⟨rfl, rfl⟩
       go_wp2_with fail
       exact bodyPost_ret (v := .tuple #[.int .i64 p, .int .i64 q, .string (str [])]) (by simp [results, Tryz.results170, go_sem]; rfl) rfl ⟨rfl, Below.refl _ _⟩
     · have HD : Hid (digitF z = false) := by show _ = _; cases hh : digitF z with | true => exact absurd hh hd1 | false => rfl
       have e45 : z = 45 := by rcases hd with h | h; exact absurd h hd1; exact h
       subst e45
       clear hz hn hs hd hd1 h2 hpq hlast
       go_enter Tryz.func170, Tryz.ntmps170
       go_wp2_with fail
       refine (NameStart_any 45 _).mono ?_
       rintro e w' ⟨rfl, rfl⟩
       rw [HS.out]
       go_wp2_with fail
       refine (Digit_any 45 _).mono ?_
       rintro e w' ⟨rfl, rfl⟩
       rw [HD.out]
       go_wp2_with fail
       refine hcall.mono ?_
       rintro e w2 ⟨rfl, rfl⟩
       go_wp2_with fail
       exact bodyPost_ret (v := .tuple #[.int .i64 p, .int .i64 q, .string (str [])]) (by simp [results, Tryz.results170, go_sem]; rfl) rfl ⟨rfl, Below.refl _ _⟩
   rw [if_neg hd] at h
   have hd1 : digitF z = false := by cases hh : digitF z with | true => exact absurd (.inl hh) hd | false => rfl
   have b45 : ((z : Int) == 45) = false := by rw [beq_eq_false_iff_ne]; exact fun e => hd (.inr e)
   have HS := hide hs
   have HD := hide hd1
   by_cases h34 : z = 34
   · rw [if_pos h34] at h
     have hcall := text_any HB (some ad) n c B s w hr hB hn hnc hcm h63 f i hin r h
     subst h34
     clear hz hn hs hd hd1 h2 h
     go_enter Tryz.func170, Tryz.ntmps170
     go_wp2_with fail
     refine (NameStart_any 34 _).mono ?_
     rintro e w' ⟨rfl, rfl⟩
     rw [HS.out]
     go_wp2_with fail
     refine (Digit_any 34 _).mono ?_
     rintro e w' ⟨rfl, rfl⟩
     rw [HD.out]
     go_wp2_with fail
     refine hcall.mono ?_
     rintro e w2 ⟨rfl, hb2⟩
     go_wp2_with fail
     exact bodyPost_ret (v := .tuple #[.int .i64 r.1, .int .i64 r.2.1, .string (str r.2.2)]) (by simp [results, Tryz.results170, go_sem]) rfl ⟨rfl, hb2⟩
   · rw [if_neg h34] at h
     have b34 : ((z : Int) == 34) = false := by rw [beq_eq_false_iff_ne]; exact h34
     cases hp : punctF s i with
     | none => rw [hp] at h; cases h
     | some j =>
      rw [hp] at h
      dsimp only at h
      have hcall := punct_any (some ad) n c B s w hr hn (by omega) i j hp
      clear hz hn hs hd hd1 h2 h34 hp
      by_cases hij : i < j
      · rw [if_pos hij] at h
        injection h with h
        subst h
        have hijI : (i : Int) < (j : Int) := by omega
        go_enter Tryz.func170, Tryz.ntmps170
        go_wp2_with fail
        refine (NameStart_any z _).mono ?_
        rintro e w' ⟨rfl, rfl⟩
        rw [HS.out]
        go_wp2_with fail
        refine (Digit_any z _).mono ?_
        rintro e w' ⟨rfl, rfl⟩
        rw [HD.out]
        go_wp2_with fail
        refine hcall.mono ?_
        rintro e w2 ⟨rfl, q, rfl⟩
        go_wp2_with fail
        exact bodyPost_ret (v := .tuple #[.int .i64 j, .int .i64 2, .string (str [])]) (by simp [results, Tryz.results170, go_sem]; rfl) rfl ⟨rfl, below_drewN (Below.refl _ _) q⟩
      · rw [if_neg hij] at h
        injection h with h
        subst h
        have hijI : ¬ ((i : Int) < (j : Int)) := by omega
        go_enter Tryz.func170, Tryz.ntmps170
        go_wp2_with fail
        refine (NameStart_any z _).mono ?_
        rintro e w' ⟨rfl, rfl⟩
        rw [HS.out]
        go_wp2_with fail
        refine (Digit_any z _).mono ?_
        rintro e w' ⟨rfl, rfl⟩
        rw [HD.out]
        go_wp2_with fail
        refine hcall.mono ?_
        rintro e w2 ⟨rfl, q, rfl⟩
        go_wp2_with fail
        exact bodyPost_ret (v := .tuple #[.int .i64 i, .int .i64 1, .string (str [])]) (by simp [results, Tryz.results170, go_sem]; rfl) rfl ⟨rfl, below_drewN (Below.refl _ _) q⟩
end Go.Proofs.YtbpgkkoeehopjaaGreat.lex
namespace Go.Proofs.YtbpgkkoeehopjaaGreat.lines
open Go.RowKit Go.Proofs.YtbpgkkoeehopjaaGreat.words Go.Proofs.YtbpgkkoeehopjaaGreat.enc Go.Proofs.YtbpgkkoeehopjaaGreat.dec Go.Proofs.YtbpgkkoeehopjaaGreat.ref Go.Proofs.YtbpgkkoeehopjaaGreat.ln
set_option maxRecDepth 100000
theorem int_info : (Tryz.prog.info? 3).map (fun i => (i.zero, i.size, i.bytes)) = some (some (.int .i64 0), 1, 8) := by kernel_rfl
theorem own_new {B : Nat} (w : World) (cs : List Value) (t : TypeId) (hB : B ≤ w.heap.size) (hm : cs.length ≤ maxLen) :
  (w.alloc (.cells cs.toArray t)).ownsRow B t 1 (.slice (some ⟨w.heap.size, 0, none⟩) cs.length cs.length) cs.length cs :=
 ⟨by simp, .inr ⟨w.heap.size, cs.length, cs.toArray, rfl, hB, heap_alloc_new w _, Nat.le_refl _, hm, by simp, by simp⟩⟩
def icells (l : List Nat) : List Value := l.map fun x : Nat => Value.int .i64 (x : Int)
theorem icells_len (l : List Nat) : (icells l).length = l.length := by simp [icells]
theorem rd_nat {w : World} {B : Nat} {A : Option Addr} {l : List Nat} {k x : Nat} (h : Rd w B A (icells l)) (hx : l[k]? = some x) :
  ∃ ad, A = some ad ∧ ad.block < B ∧ w.cell? (ad.add k) = some (.int .i64 (x : Int)) := by
 obtain ⟨hk, rfl⟩ := List.getElem?_eq_some_iff.1 hx
 obtain ⟨ad, e, hb, hc⟩ := h.at (k := k) (by rw [icells_len]; exact hk)
 exact ⟨ad, e, hb, by rw [hc]; simp [icells]⟩
theorem one_i64 (x : Int) : ∀ u ∈ [Value.int .i64 x], u.oneCell' = true := by intro u hu; simp at hu; subst hu; rfl
theorem rd_int (w : World) (B : Nat) (x : Int) (hB : w.heap.size < B) : Rd (w.alloc (.cells #[.int .i64 x] 3)) B (some ⟨w.heap.size, 0, none⟩) [.int .i64 x] :=
 rd_new w [.int .i64 x] 3 hB
theorem Starts_any (A : Option Addr) (n c B : Nat) (zs : List Int) (w : World) (hr : Rd w B A (zs.map (Value.int .i32))) (hB : B ≤ w.heap.size) (hl : zs.length = n) (hn : n ≤ 4194304) :
  Calls Tryz.prog 168 #[.slice A n c] w fun e w' => ∃ v, e = .returned v ∧ w'.ownsRow w.heap.size 3 1 v (starts zs n).length (icells (starts zs n)) ∧ Below w.heap.size w w' := by
 obtain ⟨i0, hi0, hz0, hz1, hz2⟩ := info_parts int_info
 have HL := hide hl
 clear hl
 have hnew := own_new w [.int .i64 0] 3 (Nat.le_refl _) (by simp [maxLen])
 go_enter Tryz.func168, Tryz.ntmps168
 go_wp2
 go_loopw [3, 4] (fun v i wr => ∃ k : Nat, k ≤ n ∧ i = .int .i64 k ∧ wr.ownsRow w.heap.size 3 1 v (starts zs k).length (icells (starts zs k)) ∧ Below w.heap.size w wr) (fun _ i _ => n - (intOf i).toNat)
 case atStart => exact ⟨0, Nat.zero_le _, rfl, hnew, (Below.refl _ _).alloc (Nat.le_refl _) _⟩
 case round =>
  obtain ⟨k, hk, rfl, hown, hb⟩ := hrel
  obtain ⟨Av, cv, rfl, _, _⟩ := own_slice hown
  clear hnew
  by_cases hlt : k < n
  · have hrr := hr.below' hb hB
    obtain ⟨ad, z, rfl, hz, had, hc⟩ := hrr.i32 (k := k) (by rw [HL.out]; exact hlt)
    have hsl := starts_len zs k
    have HC := hide (ch_of hz)
    clear hz
    by_cases h10 : z = 10
    · subst h10
      have HS := hide (starts_end (zs := zs) (k := k) (endAt_lf HC.out))
      go_wp2_with (at_builtin; refine wpList_append_rd _ rfl _ _ 223 rfl w.heap.size 3 i0 (.int .i64 0) 1 8 Tryz.underlying223 hi0 hz0 hz1 hz2 rfl (by decide) _ _ _ rfl (hown.alloc _) _ _ 1 1 _ rfl (by rfl) (rd_int _ _ _ (Nat.lt_succ_self _)) (one_i64 _) ?c3 ?c4 ?c5 ?_)
      case c3 => simp only [maxLen]; omega
      case c4 => omega
      case c5 => exact Nat.le_trans hb.size (by simp)
      intro v2 w2 hown2 hg2 hat2
      have hb2 := below_append (hb.alloc hb.size _) (hown.alloc _) (Nat.le_refl _) hg2 (Nat.le_trans hb.size (by simp))
      go_wp2_with fail
      go_roundw
      case rel =>
       refine ⟨k + 1, by omega, by go_num, ?_, hb2⟩
       rw [HS.out, List.length_append]
       have e : icells (starts zs k ++ [k + 1]) = icells (starts zs k) ++ [.int .i64 ((k : Int) + 1)] := by simp [icells]
       rw [e]
       exact hown2
      case measure => simp [intOf]; omega
    have b10 : ((z : Int) == 10) = false := by rw [beq_eq_false_iff_ne]; exact h10
    have n10 : ((z : Int) != 10) = true := by rw [bne, b10]; rfl
    by_cases h13 : z = 13
    · subst h13
      by_cases h3 : k + 1 < n
      · obtain ⟨ad', y, ea, hy, had', hc'⟩ := hrr.i32 (k := k + 1) (by rw [HL.out]; omega)
        injection ea with ea
        subst ea
        rw [add_succ] at hc'
        have HC' := hide (ch_of hy)
        clear hy
        by_cases h4 : y = 10
        · subst h4
          have HS := hide (starts_same (zs := zs) (k := k) (endAt_crlf HC.out (by rw [HL.out]; exact h3) HC'.out))
          go_wp2_with fail
          go_roundw
          case rel => exact ⟨k + 1, by omega, by go_num, by rw [HS.out]; exact hown, hb⟩
          case measure => simp [intOf]; omega
        · have y10 : ((y : Int) == 10) = false := by rw [beq_eq_false_iff_ne]; exact h4
          have HS := hide (starts_end (zs := zs) (k := k) (endAt_cr HC.out (by rw [HC'.out]; intro hh; exact h4 hh.2)))
          go_wp2_with (at_builtin; refine wpList_append_rd _ rfl _ _ 223 rfl w.heap.size 3 i0 (.int .i64 0) 1 8 Tryz.underlying223 hi0 hz0 hz1 hz2 rfl (by decide) _ _ _ rfl (hown.alloc _) _ _ 1 1 _ rfl (by rfl) (rd_int _ _ _ (Nat.lt_succ_self _)) (one_i64 _) ?c3 ?c4 ?c5 ?_)
          case c3 => simp only [maxLen]; omega
          case c4 => omega
          case c5 => exact Nat.le_trans hb.size (by simp)
          intro v2 w2 hown2 hg2 hat2
          have hb2 := below_append (hb.alloc hb.size _) (hown.alloc _) (Nat.le_refl _) hg2 (Nat.le_trans hb.size (by simp))
          go_wp2_with fail
          go_roundw
          case rel =>
           refine ⟨k + 1, by omega, by go_num, ?_, hb2⟩
           rw [HS.out, List.length_append]
           have e : icells (starts zs k ++ [k + 1]) = icells (starts zs k) ++ [.int .i64 ((k : Int) + 1)] := by simp [icells]
           rw [e]
           exact hown2
          case measure => simp [intOf]; omega
      · have hk3 : ¬ ((k : Int) + 1 < (n : Int)) := by omega
        have HS := hide (starts_end (zs := zs) (k := k) (endAt_cr HC.out (by rw [HL.out]; omega)))
        go_wp2_with (at_builtin; refine wpList_append_rd _ rfl _ _ 223 rfl w.heap.size 3 i0 (.int .i64 0) 1 8 Tryz.underlying223 hi0 hz0 hz1 hz2 rfl (by decide) _ _ _ rfl (hown.alloc _) _ _ 1 1 _ rfl (by rfl) (rd_int _ _ _ (Nat.lt_succ_self _)) (one_i64 _) ?c3 ?c4 ?c5 ?_)
        case c3 => simp only [maxLen]; omega
        case c4 => omega
        case c5 => exact Nat.le_trans hb.size (by simp)
        intro v2 w2 hown2 hg2 hat2
        have hb2 := below_append (hb.alloc hb.size _) (hown.alloc _) (Nat.le_refl _) hg2 (Nat.le_trans hb.size (by simp))
        go_wp2_with fail
        go_roundw
        case rel =>
         refine ⟨k + 1, by omega, by go_num, ?_, hb2⟩
         rw [HS.out, List.length_append]
         have e : icells (starts zs k ++ [k + 1]) = icells (starts zs k) ++ [.int .i64 ((k : Int) + 1)] := by simp [icells]
         rw [e]
         exact hown2
        case measure => simp [intOf]; omega
    · have b13 : ((z : Int) == 13) = false := by rw [beq_eq_false_iff_ne]; exact h13
      have n13 : ((z : Int) != 13) = true := by rw [bne, b13]; rfl
      have HS := hide (starts_same (zs := zs) (k := k) (endAt_other (by rw [HC.out]; exact h10) (by rw [HC.out]; exact h13)))
      go_wp2_with fail
      go_roundw
      case rel => exact ⟨k + 1, by omega, by go_num, by rw [HS.out]; exact hown, hb⟩
      case measure => simp [intOf]; omega
  · have hkn : k = n := by omega
    subst hkn
    go_wp2_with fail
    go_ret
    exact ⟨_, rfl, hown, hb⟩
theorem bytes_4 {i : TypeInfo} {n : Nat} (h : i.bytes = 4) (hn : n ≤ 4194304) : i.bytes * n ≤ 281474976710656 := by rw [h]; omega
theorem one_slice (A : Option Addr) (n c : Nat) : ∀ u ∈ [Value.slice A n c], u.oneCell' = true := by intro u hu; simp at hu; subst hu; rfl
theorem rows_fresh {w : World} {B : Nat} {cs : List Value} {L : List (List Int)} {v : Value} (h : RowsOwn w B cs L) (hv : ∀ g, v.ownBlock = some g → w.heap.size ≤ g) : ∀ u ∈ cs, u.ownBlock = none ∨ u.ownBlock ≠ v.ownBlock := by
 intro u hu
 obtain ⟨l, hl⟩ := rows_of_mem h hu
 by_cases h0 : u.ownBlock = none
 · exact .inl h0
 · refine .inr fun e => ?_
   obtain ⟨g, hg⟩ := Option.ne_none_iff_exists'.1 h0
   have h1 := (hl.lt g hg).2
   have h2 := hv g (by rw [← e]; exact hg)
   omega
theorem rows_more {w : World} {B B' : Nat} {cs : List Value} {L : List (List Int)} (h : RowsOwn w B cs L) (hB : B' ≤ B) : RowsOwn w B' cs L :=
 ⟨h.len, fun j l hl => let ⟨v, hv, ho⟩ := h.rows j l hl; ⟨v, hv, own_more ho hB⟩, h.apart⟩
theorem cut_cells (zs : List Int) (a b : Nat) : (cut zs a b).map (Value.int .i32) = ((zs.map (Value.int .i32)).take b).drop a := by simp [cut, List.map_drop, List.map_take]
theorem segEnd_cr {zs : List Int} {a e : Nat} (h1 : ch zs (e + 1) = 10) (h2 : a < e + 1) (h3 : ch zs e = 13) : segEnd zs a (e + 2) = e := by
 unfold segEnd; rw [if_pos ⟨h1, h2, h3⟩]; omega
theorem segEnd_a {zs : List Int} {a e : Nat} (h : ¬ (ch zs e = 10 ∧ a < e ∧ ch zs (e - 1) = 13)) : segEnd zs a (e + 1) = e := by
 unfold segEnd; rw [if_neg]; · omega
 · rintro ⟨h1, h2, h3⟩; exact h ⟨by simpa using h1, by omega, by rw [show e - 1 = e + 1 - 2 by omega]; exact h3⟩
set_option maxHeartbeats 2000000 in
theorem RefLines_any (A : Option Addr) (n c B : Nat) (zs : List Int) (w : World) (hr : Rd w B A (zs.map (Value.int .i32))) (hB : B ≤ w.heap.size) (hl : zs.length = n) (hnc : n ≤ c) (hcm : c ≤ maxLen) (hn : n ≤ 4194304) :
  Calls Tryz.prog 210 #[.slice A n c] w (LinesPost zs w) := by
 obtain ⟨i0, hi0, hz0, hz1, hz2⟩ := info_parts rune_info
 obtain ⟨i1, hi1, hz3, hz4, hz5⟩ := info_parts slice_info
 unfold maxLen at hcm
 have HL := hide hl
 clear hl
 have hm1 := starts_pos zs n
 have hm2 := starts_len zs n
 go_enter Tryz.func210, Tryz.ntmps210
 go_wp2_with fail
 refine (Starts_any A n c B zs _ hr hB HL.out hn).mono ?_
 rintro e w1 ⟨vs, rfl, howns, hb1⟩
 obtain ⟨As, cS, rfl, _, _⟩ := own_slice howns
 obtain ⟨m, hm⟩ : ∃ m, (starts zs n).length = m := ⟨_, rfl⟩
 have hs := Rd.of_own howns
 rw [hm] at hm1 hm2 ⊢
 have HM := hide hm
 clear hm howns
 have hr1 := hr.below' hb1 hB
 have hB1 : B ≤ w1.heap.size := Nat.le_trans hB hb1.size
 clear hr
 go_wp2_with fail
 go_loopw [3, 5] (fun vo i wr => ∃ (j : Nat) (cs : List Value), j ≤ m ∧ i = .int .i64 j ∧ cs.length = j ∧ wr.ownsRow w1.heap.size 187 1 vo cs.length cs ∧ RowsOwn wr w1.heap.size cs ((linesOf zs).take j) ∧ Below w1.heap.size w1 wr) (fun _ i _ => m - (intOf i).toNat)
 case atStart => exact ⟨0, [], Nat.zero_le _, rfl, rfl, World.ownsRow_nil _ _ _ _, rows_nil _ _, Below.refl _ _⟩
 case round =>
  obtain ⟨j, cs, hj, rfl, hcsl, howno, hrows, hb⟩ := hrel
  obtain ⟨Ao, co, rfl, _, _⟩ := own_slice howno
  have HCL := hide hcsl
  rw [hcsl] at howno ⊢
  clear hcsl
  by_cases hlt : j < m
  · obtain ⟨a, ha⟩ : ∃ a, (starts zs n)[j]? = some a := ⟨(starts zs n)[j]'(by rw [HM.out]; exact hlt), List.getElem?_eq_getElem _⟩
    have han := starts_at_le zs n j a ha
    obtain ⟨ads, rfl, _, hca⟩ := rd_nat (hs.below' hb (Nat.le_refl _)) ha
    by_cases hlast : j + 1 < m
    · obtain ⟨b, hb0⟩ : ∃ b, (starts zs n)[j + 1]? = some b := ⟨(starts zs n)[j + 1]'(by rw [HM.out]; exact hlast), List.getElem?_eq_getElem _⟩
      have hab := starts_rise zs n j a b ha hb0
      have hbn := starts_at_le zs n (j + 1) b hb0
      obtain ⟨e, rfl⟩ : ∃ e, b = e + 1 := ⟨b - 1, by omega⟩
      have hfact := line_mid (zs := zs) (j := j) (a := a) (b := e + 1) (by rw [HL.out]; exact ha) (by rw [HL.out]; exact hb0)
      obtain ⟨ads', eas, _, hcb⟩ := rd_nat (hs.below' hb (Nat.le_refl _)) hb0
      injection eas with eas
      subst eas
      rw [add_succ] at hcb
      have hcb' : wr.cell? ⟨ads.block, ads.off + (j + 1), none⟩ = some (.int .i64 ((e : Int) + 1)) := hcb
      clear hcb hb0
      have hrw := hr1.below' hb hB1
      obtain ⟨ad, y, rfl, hy, had, hce⟩ := hrw.i32 (k := e) (by rw [HL.out]; omega)
      have hchy := ch_of hy
      have HY := hide hchy
      have HF := hide hfact
      clear hy hchy hfact
      by_cases h10 : y = 10
      · subst h10
        by_cases hae : a < e
        · obtain ⟨f, rfl⟩ : ∃ f, e = f + 1 := ⟨e - 1, by omega⟩
          have hcb2 : wr.cell? ⟨ads.block, ads.off + (j + 1), none⟩ = some (.int .i64 ((f : Int) + 1 + 1)) := hcb'
          rw [add_succ] at hce
          clear hcb'
          obtain ⟨ad', x, ea, hx, had', hcx⟩ := hrw.i32 (k := f) (by rw [HL.out]; omega)
          injection ea with ea
          subst ea
          have HX := hide (ch_of hx)
          clear hx
          by_cases h13 : x = 13
          · subst h13
            have hfact : (linesOf zs)[j]? = some (cut zs a f) := by rw [HF.out, segEnd_cr HY.out (by omega) HX.out]
            have hrr : Rd w1 B (some (ad.add a)) ((cut zs a f).map (Value.int .i32)) := by rw [cut_cells]; exact (hr1.take f).drop a
            clear HF
            have HLINE := hide hfact
            have hml : (cut zs a f).length = f - a := (cut_len (by rw [HL.out]; omega)).trans (by omega)
            have HML := hide hml
            clear hml
            go_wp2_with (at_make; refine wpList_make_own _ rfl _ _ 187 rfl w1.heap.size 21 i0 (.int .i32 0) 1 Tryz.underlying187 hi0 hz0 hz1 _ _ _ (f - a) rfl rfl (by omega) (bytes_4 hz2 (by omega)) (by simp only [maxLen]; omega) hb.size ?_)
            intro w2 hown2 hg2
            have hb2 : Below wr.heap.size wr w2 := (Below.refl _ _).grown hg2 (Nat.le_refl _) (fun k hk => by cases hk)
            have hbb2 := hb.trans (hb2.mono hb.size)
            have hcs2 := (hs.below' hbb2 (Nat.le_refl _))
            obtain ⟨ads2, eas2, _, hca2⟩ := rd_nat hcs2 ha
            injection eas2 with eas2
            subst eas2
            have hr2 := hrr.below' hbb2 hB1
            go_wp2_with (at_builtin; refine wpList_append_rd _ rfl _ _ 187 rfl w1.heap.size 21 i0 (.int .i32 0) 1 4 Tryz.underlying187 hi0 hz0 hz1 hz2 rfl (by decide) _ 0 [] rfl hown2 B _ _ _ _ rfl ?c1 hr2 (one_i32 _) ?c3 ?c4 hbb2.size ?_)
            case c1 => rw [List.length_map, HML.out, Nat.mul_one]
            case c3 => simp only [maxLen]; omega
            case c4 => omega
            intro v3 w3 hown3 hg3 hat3
            have hb3 : Below wr.heap.size wr w3 := hb2.grown hg3 hb2.size (fun k hk => by simp [Value.ownBlock] at hk; omega)
            have hfr : ∀ u ∈ cs, u.ownBlock = none ∨ u.ownBlock ≠ v3.ownBlock := rows_fresh hrows (fun g hg => by
             rcases hat3 with h | h
             · rw [h] at hg; simp [Value.ownBlock] at hg; omega
             · rw [h] at hg; injection hg with hg; have := hb2.size; omega)
            obtain ⟨A3, c3, rfl, _, _⟩ := own_slice hown3
            have hown3' : w3.ownsRow w1.heap.size 21 1 (.slice A3 (f - a) c3) (cut zs a f).length ((cut zs a f).map (Value.int .i32)) := by rw [HML.out]; exact hown3
            have hrows3 := rows_push (rows_below hrows hb3) hown3' hfr
            have howno3 := own_below howno hb3
            have hbb3 := hb.trans (hb3.mono hb.size)
            have hrows4 := rows_kept hrows3 (World.grownBy_alloc _ (.cells #[.slice A3 (f - a) c3] 187) none) (fun v _ => by cases v.ownBlock <;> simp)
            have HFR := hide hfr
            clear hfr hown3 hown3' hat3 hown2 hr2 hca2
            go_wp2_with (at_builtin; refine wpList_append_rd _ rfl _ _ 260 rfl w1.heap.size 187 i1 (.slice none 0 0) 1 24 Tryz.underlying260 hi1 hz3 hz4 hz5 rfl (by decide) _ _ _ rfl (howno3.alloc _) _ _ 1 1 _ rfl (by rfl) (rd_slice _ _ _ (Nat.lt_succ_self _)) (one_slice _ _ _) ?c5 ?c6 ?c7 ?_)
            case c5 => simp only [maxLen]; omega
            case c6 => omega
            case c7 => exact Nat.le_trans hbb3.size (by simp)
            intro v5 w5 hown5 hg5 hat5
            have hrows5 := rows_kept hrows4 hg5 (fun v hv => by
             obtain ⟨l, hl⟩ := rows_of_mem hrows4 hv
             exact own_types hl (howno3.alloc _) (by decide))
            have hb5 := below_append (hbb3.alloc hbb3.size _) (howno3.alloc _) (Nat.le_refl _) hg5 (Nat.le_trans hbb3.size (by simp))
            go_wp2_with fail
            go_roundw
            case rel =>
             refine ⟨j + 1, cs ++ [.slice A3 (f - a) c3], by omega, by go_num, by rw [List.length_append, HCL.out]; rfl, ?_, ?_, hb5⟩
             · rw [List.length_append, HCL.out]; exact hown5
             · rw [take_snoc HLINE.out]; exact hrows5
            case measure => simp [intOf]; omega
          · have x13 : ((x : Int) == 13) = false := by rw [beq_eq_false_iff_ne]; exact h13
            have hfact : (linesOf zs)[j]? = some (cut zs a (f + 1)) := by rw [HF.out, segEnd_a (by rw [Nat.add_sub_cancel, HX.out]; intro hh; exact h13 hh.2.2)]
            have hrr : Rd w1 B (some (ad.add a)) ((cut zs a (f + 1)).map (Value.int .i32)) := by rw [cut_cells]; exact (hr1.take (f + 1)).drop a
            clear HF h13
            have HLINE := hide hfact
            have hml : (cut zs a (f + 1)).length = (f + 1) - a := (cut_len (by rw [HL.out]; omega)).trans (by omega)
            have HML := hide hml
            clear hml
            go_wp2_with (at_make; refine wpList_make_own _ rfl _ _ 187 rfl w1.heap.size 21 i0 (.int .i32 0) 1 Tryz.underlying187 hi0 hz0 hz1 _ _ _ ((f + 1) - a) rfl rfl (by omega) (bytes_4 hz2 (by omega)) (by simp only [maxLen]; omega) hb.size ?_)
            intro w2 hown2 hg2
            have hb2 : Below wr.heap.size wr w2 := (Below.refl _ _).grown hg2 (Nat.le_refl _) (fun k hk => by cases hk)
            have hbb2 := hb.trans (hb2.mono hb.size)
            have hcs2 := (hs.below' hbb2 (Nat.le_refl _))
            obtain ⟨ads2, eas2, _, hca2⟩ := rd_nat hcs2 ha
            injection eas2 with eas2
            subst eas2
            have hr2 := hrr.below' hbb2 hB1
            go_wp2_with (at_builtin; refine wpList_append_rd _ rfl _ _ 187 rfl w1.heap.size 21 i0 (.int .i32 0) 1 4 Tryz.underlying187 hi0 hz0 hz1 hz2 rfl (by decide) _ 0 [] rfl hown2 B _ _ _ _ rfl ?c1 hr2 (one_i32 _) ?c3 ?c4 hbb2.size ?_)
            case c1 => rw [List.length_map, HML.out, Nat.mul_one]
            case c3 => simp only [maxLen]; omega
            case c4 => omega
            intro v3 w3 hown3 hg3 hat3
            have hb3 : Below wr.heap.size wr w3 := hb2.grown hg3 hb2.size (fun k hk => by simp [Value.ownBlock] at hk; omega)
            have hfr : ∀ u ∈ cs, u.ownBlock = none ∨ u.ownBlock ≠ v3.ownBlock := rows_fresh hrows (fun g hg => by
             rcases hat3 with h | h
             · rw [h] at hg; simp [Value.ownBlock] at hg; omega
             · rw [h] at hg; injection hg with hg; have := hb2.size; omega)
            obtain ⟨A3, c3, rfl, _, _⟩ := own_slice hown3
            have hown3' : w3.ownsRow w1.heap.size 21 1 (.slice A3 ((f + 1) - a) c3) (cut zs a (f + 1)).length ((cut zs a (f + 1)).map (Value.int .i32)) := by rw [HML.out]; exact hown3
            have hrows3 := rows_push (rows_below hrows hb3) hown3' hfr
            have howno3 := own_below howno hb3
            have hbb3 := hb.trans (hb3.mono hb.size)
            have hrows4 := rows_kept hrows3 (World.grownBy_alloc _ (.cells #[.slice A3 ((f + 1) - a) c3] 187) none) (fun v _ => by cases v.ownBlock <;> simp)
            have HFR := hide hfr
            clear hfr hown3 hown3' hat3 hown2 hr2 hca2
            go_wp2_with (at_builtin; refine wpList_append_rd _ rfl _ _ 260 rfl w1.heap.size 187 i1 (.slice none 0 0) 1 24 Tryz.underlying260 hi1 hz3 hz4 hz5 rfl (by decide) _ _ _ rfl (howno3.alloc _) _ _ 1 1 _ rfl (by rfl) (rd_slice _ _ _ (Nat.lt_succ_self _)) (one_slice _ _ _) ?c5 ?c6 ?c7 ?_)
            case c5 => simp only [maxLen]; omega
            case c6 => omega
            case c7 => exact Nat.le_trans hbb3.size (by simp)
            intro v5 w5 hown5 hg5 hat5
            have hrows5 := rows_kept hrows4 hg5 (fun v hv => by
             obtain ⟨l, hl⟩ := rows_of_mem hrows4 hv
             exact own_types hl (howno3.alloc _) (by decide))
            have hb5 := below_append (hbb3.alloc hbb3.size _) (howno3.alloc _) (Nat.le_refl _) hg5 (Nat.le_trans hbb3.size (by simp))
            go_wp2_with fail
            go_roundw
            case rel =>
             refine ⟨j + 1, cs ++ [.slice A3 ((f + 1) - a) c3], by omega, by go_num, by rw [List.length_append, HCL.out]; rfl, ?_, ?_, hb5⟩
             · rw [List.length_append, HCL.out]; exact hown5
             · rw [take_snoc HLINE.out]; exact hrows5
            case measure => simp [intOf]; omega
        · have hfact : (linesOf zs)[j]? = some (cut zs a e) := by rw [HF.out, segEnd_a (by intro hh; exact hae hh.2.1)]
          have hrr : Rd w1 B (some (ad.add a)) ((cut zs a e).map (Value.int .i32)) := by rw [cut_cells]; exact (hr1.take e).drop a
          have hae' : ¬ ((a : Int) < (e : Int)) := by omega
          clear HF
          have HLINE := hide hfact
          have hml : (cut zs a e).length = e - a := (cut_len (by rw [HL.out]; omega)).trans (by omega)
          have HML := hide hml
          clear hml
          go_wp2_with (at_make; refine wpList_make_own _ rfl _ _ 187 rfl w1.heap.size 21 i0 (.int .i32 0) 1 Tryz.underlying187 hi0 hz0 hz1 _ _ _ (e - a) rfl rfl (by omega) (bytes_4 hz2 (by omega)) (by simp only [maxLen]; omega) hb.size ?_)
          intro w2 hown2 hg2
          have hb2 : Below wr.heap.size wr w2 := (Below.refl _ _).grown hg2 (Nat.le_refl _) (fun k hk => by cases hk)
          have hbb2 := hb.trans (hb2.mono hb.size)
          have hcs2 := (hs.below' hbb2 (Nat.le_refl _))
          obtain ⟨ads2, eas2, _, hca2⟩ := rd_nat hcs2 ha
          injection eas2 with eas2
          subst eas2
          have hr2 := hrr.below' hbb2 hB1
          go_wp2_with (at_builtin; refine wpList_append_rd _ rfl _ _ 187 rfl w1.heap.size 21 i0 (.int .i32 0) 1 4 Tryz.underlying187 hi0 hz0 hz1 hz2 rfl (by decide) _ 0 [] rfl hown2 B _ _ _ _ rfl ?c1 hr2 (one_i32 _) ?c3 ?c4 hbb2.size ?_)
          case c1 => rw [List.length_map, HML.out, Nat.mul_one]
          case c3 => simp only [maxLen]; omega
          case c4 => omega
          intro v3 w3 hown3 hg3 hat3
          have hb3 : Below wr.heap.size wr w3 := hb2.grown hg3 hb2.size (fun k hk => by simp [Value.ownBlock] at hk; omega)
          have hfr : ∀ u ∈ cs, u.ownBlock = none ∨ u.ownBlock ≠ v3.ownBlock := rows_fresh hrows (fun g hg => by
           rcases hat3 with h | h
           · rw [h] at hg; simp [Value.ownBlock] at hg; omega
           · rw [h] at hg; injection hg with hg; have := hb2.size; omega)
          obtain ⟨A3, c3, rfl, _, _⟩ := own_slice hown3
          have hown3' : w3.ownsRow w1.heap.size 21 1 (.slice A3 (e - a) c3) (cut zs a e).length ((cut zs a e).map (Value.int .i32)) := by rw [HML.out]; exact hown3
          have hrows3 := rows_push (rows_below hrows hb3) hown3' hfr
          have howno3 := own_below howno hb3
          have hbb3 := hb.trans (hb3.mono hb.size)
          have hrows4 := rows_kept hrows3 (World.grownBy_alloc _ (.cells #[.slice A3 (e - a) c3] 187) none) (fun v _ => by cases v.ownBlock <;> simp)
          have HFR := hide hfr
          clear hfr hown3 hown3' hat3 hown2 hr2 hca2
          go_wp2_with (at_builtin; refine wpList_append_rd _ rfl _ _ 260 rfl w1.heap.size 187 i1 (.slice none 0 0) 1 24 Tryz.underlying260 hi1 hz3 hz4 hz5 rfl (by decide) _ _ _ rfl (howno3.alloc _) _ _ 1 1 _ rfl (by rfl) (rd_slice _ _ _ (Nat.lt_succ_self _)) (one_slice _ _ _) ?c5 ?c6 ?c7 ?_)
          case c5 => simp only [maxLen]; omega
          case c6 => omega
          case c7 => exact Nat.le_trans hbb3.size (by simp)
          intro v5 w5 hown5 hg5 hat5
          have hrows5 := rows_kept hrows4 hg5 (fun v hv => by
           obtain ⟨l, hl⟩ := rows_of_mem hrows4 hv
           exact own_types hl (howno3.alloc _) (by decide))
          have hb5 := below_append (hbb3.alloc hbb3.size _) (howno3.alloc _) (Nat.le_refl _) hg5 (Nat.le_trans hbb3.size (by simp))
          go_wp2_with fail
          go_roundw
          case rel =>
           refine ⟨j + 1, cs ++ [.slice A3 (e - a) c3], by omega, by go_num, by rw [List.length_append, HCL.out]; rfl, ?_, ?_, hb5⟩
           · rw [List.length_append, HCL.out]; exact hown5
           · rw [take_snoc HLINE.out]; exact hrows5
          case measure => simp [intOf]; omega
      · have y10 : ((y : Int) == 10) = false := by rw [beq_eq_false_iff_ne]; exact h10
        have hfact : (linesOf zs)[j]? = some (cut zs a e) := by rw [HF.out, segEnd_a (by rw [HY.out]; intro hh; exact h10 hh.1)]
        have hrr : Rd w1 B (some (ad.add a)) ((cut zs a e).map (Value.int .i32)) := by rw [cut_cells]; exact (hr1.take e).drop a
        clear HF h10
        have HLINE := hide hfact
        have hml : (cut zs a e).length = e - a := (cut_len (by rw [HL.out]; omega)).trans (by omega)
        have HML := hide hml
        clear hml
        go_wp2_with (at_make; refine wpList_make_own _ rfl _ _ 187 rfl w1.heap.size 21 i0 (.int .i32 0) 1 Tryz.underlying187 hi0 hz0 hz1 _ _ _ (e - a) rfl rfl (by omega) (bytes_4 hz2 (by omega)) (by simp only [maxLen]; omega) hb.size ?_)
        intro w2 hown2 hg2
        have hb2 : Below wr.heap.size wr w2 := (Below.refl _ _).grown hg2 (Nat.le_refl _) (fun k hk => by cases hk)
        have hbb2 := hb.trans (hb2.mono hb.size)
        have hcs2 := (hs.below' hbb2 (Nat.le_refl _))
        obtain ⟨ads2, eas2, _, hca2⟩ := rd_nat hcs2 ha
        injection eas2 with eas2
        subst eas2
        have hr2 := hrr.below' hbb2 hB1
        go_wp2_with (at_builtin; refine wpList_append_rd _ rfl _ _ 187 rfl w1.heap.size 21 i0 (.int .i32 0) 1 4 Tryz.underlying187 hi0 hz0 hz1 hz2 rfl (by decide) _ 0 [] rfl hown2 B _ _ _ _ rfl ?c1 hr2 (one_i32 _) ?c3 ?c4 hbb2.size ?_)
        case c1 => rw [List.length_map, HML.out, Nat.mul_one]
        case c3 => simp only [maxLen]; omega
        case c4 => omega
        intro v3 w3 hown3 hg3 hat3
        have hb3 : Below wr.heap.size wr w3 := hb2.grown hg3 hb2.size (fun k hk => by simp [Value.ownBlock] at hk; omega)
        have hfr : ∀ u ∈ cs, u.ownBlock = none ∨ u.ownBlock ≠ v3.ownBlock := rows_fresh hrows (fun g hg => by
         rcases hat3 with h | h
         · rw [h] at hg; simp [Value.ownBlock] at hg; omega
         · rw [h] at hg; injection hg with hg; have := hb2.size; omega)
        obtain ⟨A3, c3, rfl, _, _⟩ := own_slice hown3
        have hown3' : w3.ownsRow w1.heap.size 21 1 (.slice A3 (e - a) c3) (cut zs a e).length ((cut zs a e).map (Value.int .i32)) := by rw [HML.out]; exact hown3
        have hrows3 := rows_push (rows_below hrows hb3) hown3' hfr
        have howno3 := own_below howno hb3
        have hbb3 := hb.trans (hb3.mono hb.size)
        have hrows4 := rows_kept hrows3 (World.grownBy_alloc _ (.cells #[.slice A3 (e - a) c3] 187) none) (fun v _ => by cases v.ownBlock <;> simp)
        have HFR := hide hfr
        clear hfr hown3 hown3' hat3 hown2 hr2 hca2
        go_wp2_with (at_builtin; refine wpList_append_rd _ rfl _ _ 260 rfl w1.heap.size 187 i1 (.slice none 0 0) 1 24 Tryz.underlying260 hi1 hz3 hz4 hz5 rfl (by decide) _ _ _ rfl (howno3.alloc _) _ _ 1 1 _ rfl (by rfl) (rd_slice _ _ _ (Nat.lt_succ_self _)) (one_slice _ _ _) ?c5 ?c6 ?c7 ?_)
        case c5 => simp only [maxLen]; omega
        case c6 => omega
        case c7 => exact Nat.le_trans hbb3.size (by simp)
        intro v5 w5 hown5 hg5 hat5
        have hrows5 := rows_kept hrows4 hg5 (fun v hv => by
         obtain ⟨l, hl⟩ := rows_of_mem hrows4 hv
         exact own_types hl (howno3.alloc _) (by decide))
        have hb5 := below_append (hbb3.alloc hbb3.size _) (howno3.alloc _) (Nat.le_refl _) hg5 (Nat.le_trans hbb3.size (by simp))
        go_wp2_with fail
        go_roundw
        case rel =>
         refine ⟨j + 1, cs ++ [.slice A3 (e - a) c3], by omega, by go_num, by rw [List.length_append, HCL.out]; rfl, ?_, ?_, hb5⟩
         · rw [List.length_append, HCL.out]; exact hown5
         · rw [take_snoc HLINE.out]; exact hrows5
        case measure => simp [intOf]; omega
    · have hfact := line_end (zs := zs) (j := j) (a := a) (by rw [HL.out]; exact ha) (by rw [HL.out, HM.out]; exact hlast)
      rw [HL.out] at hfact
      have hjl : ¬ ((j : Int) + 1 < (m : Int)) := by omega
      by_cases hca0 : c = a
      · obtain rfl : n = c := by omega
        obtain rfl : a = n := by omega
        have hrr : Rd w1 B A ((cut zs a a).map (Value.int .i32)) := by rw [cut_nil]; exact Rd.nil
        clear hca0 hnc han
        have HLINE := hide hfact
        have hml : (cut zs a a).length = 0 := (cut_len (by rw [HL.out]; omega)).trans (by omega)
        have HML := hide hml
        clear hml
        go_wp2_with (at_make; refine wpList_make_own _ rfl _ _ 187 rfl w1.heap.size 21 i0 (.int .i32 0) 1 Tryz.underlying187 hi0 hz0 hz1 _ _ _ (0) rfl rfl (by omega) (bytes_4 hz2 (by omega)) (by simp only [maxLen]; omega) hb.size ?_)
        intro w2 hown2 hg2
        have hb2 : Below wr.heap.size wr w2 := (Below.refl _ _).grown hg2 (Nat.le_refl _) (fun k hk => by cases hk)
        have hbb2 := hb.trans (hb2.mono hb.size)
        have hcs2 := (hs.below' hbb2 (Nat.le_refl _))
        obtain ⟨ads2, eas2, _, hca2⟩ := rd_nat hcs2 ha
        injection eas2 with eas2
        subst eas2
        have hr2 := hrr.below' hbb2 hB1
        go_wp2_with (at_builtin; refine wpList_append_rd _ rfl _ _ 187 rfl w1.heap.size 21 i0 (.int .i32 0) 1 4 Tryz.underlying187 hi0 hz0 hz1 hz2 rfl (by decide) _ 0 [] rfl hown2 B _ _ _ _ rfl ?c1 hr2 (one_i32 _) ?c3 ?c4 hbb2.size ?_)
        case c1 => rw [List.length_map, HML.out, Nat.mul_one]
        case c3 => simp only [maxLen]; omega
        case c4 => omega
        intro v3 w3 hown3 hg3 hat3
        have hb3 : Below wr.heap.size wr w3 := hb2.grown hg3 hb2.size (fun k hk => by simp [Value.ownBlock] at hk; omega)
        have hfr : ∀ u ∈ cs, u.ownBlock = none ∨ u.ownBlock ≠ v3.ownBlock := rows_fresh hrows (fun g hg => by
         rcases hat3 with h | h
         · rw [h] at hg; simp [Value.ownBlock] at hg; omega
         · rw [h] at hg; injection hg with hg; have := hb2.size; omega)
        obtain ⟨A3, c3, rfl, _, _⟩ := own_slice hown3
        have hown3' : w3.ownsRow w1.heap.size 21 1 (.slice A3 (0) c3) (cut zs a a).length ((cut zs a a).map (Value.int .i32)) := by rw [HML.out]; exact hown3
        have hrows3 := rows_push (rows_below hrows hb3) hown3' hfr
        have howno3 := own_below howno hb3
        have hbb3 := hb.trans (hb3.mono hb.size)
        have hrows4 := rows_kept hrows3 (World.grownBy_alloc _ (.cells #[.slice A3 (0) c3] 187) none) (fun v _ => by cases v.ownBlock <;> simp)
        have HFR := hide hfr
        clear hfr hown3 hown3' hat3 hown2 hr2 hca2
        go_wp2_with (at_builtin; refine wpList_append_rd _ rfl _ _ 260 rfl w1.heap.size 187 i1 (.slice none 0 0) 1 24 Tryz.underlying260 hi1 hz3 hz4 hz5 rfl (by decide) _ _ _ rfl (howno3.alloc _) _ _ 1 1 _ rfl (by rfl) (rd_slice _ _ _ (Nat.lt_succ_self _)) (one_slice _ _ _) ?c5 ?c6 ?c7 ?_)
        case c5 => simp only [maxLen]; omega
        case c6 => omega
        case c7 => exact Nat.le_trans hbb3.size (by simp)
        intro v5 w5 hown5 hg5 hat5
        have hrows5 := rows_kept hrows4 hg5 (fun v hv => by
         obtain ⟨l, hl⟩ := rows_of_mem hrows4 hv
         exact own_types hl (howno3.alloc _) (by decide))
        have hb5 := below_append (hbb3.alloc hbb3.size _) (howno3.alloc _) (Nat.le_refl _) hg5 (Nat.le_trans hbb3.size (by simp))
        go_wp2_with fail
        go_roundw
        case rel =>
         refine ⟨j + 1, cs ++ [.slice A3 (0) c3], by omega, by go_num, by rw [List.length_append, HCL.out]; rfl, ?_, ?_, hb5⟩
         · rw [List.length_append, HCL.out]; exact hown5
         · rw [take_snoc HLINE.out]; exact hrows5
        case measure => simp [intOf]; omega
      · have hrr : Rd w1 B (A.map (·.add a)) ((cut zs a n).map (Value.int .i32)) := by rw [cut_cells]; exact (hr1.take n).drop a
        have HLINE := hide hfact
        have hml : (cut zs a n).length = n - a := (cut_len (by rw [HL.out]; omega)).trans (by omega)
        have HML := hide hml
        clear hml
        go_wp2_with (at_make; refine wpList_make_own _ rfl _ _ 187 rfl w1.heap.size 21 i0 (.int .i32 0) 1 Tryz.underlying187 hi0 hz0 hz1 _ _ _ (n - a) rfl rfl (by omega) (bytes_4 hz2 (by omega)) (by simp only [maxLen]; omega) hb.size ?_)
        intro w2 hown2 hg2
        have hb2 : Below wr.heap.size wr w2 := (Below.refl _ _).grown hg2 (Nat.le_refl _) (fun k hk => by cases hk)
        have hbb2 := hb.trans (hb2.mono hb.size)
        have hcs2 := (hs.below' hbb2 (Nat.le_refl _))
        obtain ⟨ads2, eas2, _, hca2⟩ := rd_nat hcs2 ha
        injection eas2 with eas2
        subst eas2
        have hr2 := hrr.below' hbb2 hB1
        go_wp2_with (at_builtin; refine wpList_append_rd _ rfl _ _ 187 rfl w1.heap.size 21 i0 (.int .i32 0) 1 4 Tryz.underlying187 hi0 hz0 hz1 hz2 rfl (by decide) _ 0 [] rfl hown2 B _ _ _ _ rfl ?c1 hr2 (one_i32 _) ?c3 ?c4 hbb2.size ?_)
        case c1 => rw [List.length_map, HML.out, Nat.mul_one]
        case c3 => simp only [maxLen]; omega
        case c4 => omega
        intro v3 w3 hown3 hg3 hat3
        have hb3 : Below wr.heap.size wr w3 := hb2.grown hg3 hb2.size (fun k hk => by simp [Value.ownBlock] at hk; omega)
        have hfr : ∀ u ∈ cs, u.ownBlock = none ∨ u.ownBlock ≠ v3.ownBlock := rows_fresh hrows (fun g hg => by
         rcases hat3 with h | h
         · rw [h] at hg; simp [Value.ownBlock] at hg; omega
         · rw [h] at hg; injection hg with hg; have := hb2.size; omega)
        obtain ⟨A3, c3, rfl, _, _⟩ := own_slice hown3
        have hown3' : w3.ownsRow w1.heap.size 21 1 (.slice A3 (n - a) c3) (cut zs a n).length ((cut zs a n).map (Value.int .i32)) := by rw [HML.out]; exact hown3
        have hrows3 := rows_push (rows_below hrows hb3) hown3' hfr
        have howno3 := own_below howno hb3
        have hbb3 := hb.trans (hb3.mono hb.size)
        have hrows4 := rows_kept hrows3 (World.grownBy_alloc _ (.cells #[.slice A3 (n - a) c3] 187) none) (fun v _ => by cases v.ownBlock <;> simp)
        have HFR := hide hfr
        clear hfr hown3 hown3' hat3 hown2 hr2 hca2
        go_wp2_with (at_builtin; refine wpList_append_rd _ rfl _ _ 260 rfl w1.heap.size 187 i1 (.slice none 0 0) 1 24 Tryz.underlying260 hi1 hz3 hz4 hz5 rfl (by decide) _ _ _ rfl (howno3.alloc _) _ _ 1 1 _ rfl (by rfl) (rd_slice _ _ _ (Nat.lt_succ_self _)) (one_slice _ _ _) ?c5 ?c6 ?c7 ?_)
        case c5 => simp only [maxLen]; omega
        case c6 => omega
        case c7 => exact Nat.le_trans hbb3.size (by simp)
        intro v5 w5 hown5 hg5 hat5
        have hrows5 := rows_kept hrows4 hg5 (fun v hv => by
         obtain ⟨l, hl⟩ := rows_of_mem hrows4 hv
         exact own_types hl (howno3.alloc _) (by decide))
        have hb5 := below_append (hbb3.alloc hbb3.size _) (howno3.alloc _) (Nat.le_refl _) hg5 (Nat.le_trans hbb3.size (by simp))
        go_wp2_with fail
        go_roundw
        case rel =>
         refine ⟨j + 1, cs ++ [.slice A3 (n - a) c3], by omega, by go_num, by rw [List.length_append, HCL.out]; rfl, ?_, ?_, hb5⟩
         · rw [List.length_append, HCL.out]; exact hown5
         · rw [take_snoc HLINE.out]; exact hrows5
        case measure => simp [intOf]; omega
  · have hjm : j = m := by omega
    subst hjm
    have hfin : (linesOf zs).take j = linesOf zs := List.take_of_length_le (by rw [lines_len, HL.out, HM.out]; exact Nat.le_refl _)
    rw [hfin] at hrows
    go_wp2_with fail
    go_ret
    exact ⟨_, cs, rfl, by rw [HCL.out]; exact own_more howno hb1.size, rows_more hrows hb1.size, hb1.trans (hb.mono hb1.size)⟩
end Go.Proofs.YtbpgkkoeehopjaaGreat.lines
namespace Go.Proofs.YtbpgkkoeehopjaaGreat.ln
def pl (zs : List Int) : Nat → Nat × Nat
 | 0 => (1, 1)
 | k + 1 => if endAt zs k = true then ((pl zs k).1 + 1, 1) else ((pl zs k).1, (pl zs k).2 + 1)
theorem pl_end {zs : List Int} {k : Nat} (h : endAt zs k = true) : pl zs (k + 1) = ((pl zs k).1 + 1, 1) := by simp [pl, h]
theorem pl_same {zs : List Int} {k : Nat} (h : endAt zs k = false) : pl zs (k + 1) = ((pl zs k).1, (pl zs k).2 + 1) := by simp [pl, h]
theorem pl_starts (zs : List Int) : ∀ k, pl zs k = ((starts zs k).length, k - st zs k + 1)
 | 0 => by simp [pl, starts, st]
 | k + 1 => by
  have ih := pl_starts zs k
  have hs := st_le zs k
  cases h : endAt zs k with
  | true => rw [pl_end h, ih, starts_end h, st_end h]; simp
  | false =>
   rw [pl_same h, ih, starts_same h, st_same h]
   dsimp only
   rw [show k + 1 - st zs k = k - st zs k + 1 by omega]
theorem starts_take (zs : List Int) (i : Nat) : ∀ k, i ≤ k → (starts zs k).take (starts zs i).length = starts zs i
 | 0, h => by
  obtain rfl : i = 0 := by omega
  exact List.take_length
 | k + 1, h => by
  by_cases hik : i = k + 1
  · subst hik; exact List.take_length
  · have ih := starts_take zs i k (by omega)
    have hl : (starts zs i).length ≤ (starts zs k).length := by
     have := congrArg List.length ih
     rw [List.length_take] at this
     omega
    cases he : endAt zs k with
    | true => rw [starts_end he, List.take_append_of_le_length hl]; exact ih
    | false => rw [starts_same he]; exact ih
theorem pl_in {zs : List Int} {n j a i : Nat} (hj : (starts zs n)[j]? = some a) (ha : a ≤ i) (hin : i ≤ n) (hb : ∀ b, (starts zs n)[j + 1]? = some b → i < b) : pl zs i = (j + 1, i - a + 1) := by
 have ht := starts_take zs i n hin
 have hpos := starts_pos zs i
 have hlen : (starts zs i).length ≤ (starts zs n).length := by
  have := congrArg List.length ht
  rw [List.length_take] at this
  omega
 have hat : ∀ q, q < (starts zs i).length → (starts zs n)[q]? = (starts zs i)[q]? := fun q hq => by
  rw [← ht, List.getElem?_take, if_pos hq]
 have h1 : j < (starts zs i).length := by
  rcases Nat.lt_or_ge j (starts zs i).length with h | h
  · exact h
  · exfalso
    have key : ∀ k, i ≤ k → ∀ q s, (starts zs i).length ≤ q → (starts zs k)[q]? = some s → i < s := by
     intro k
     induction k with
     | zero =>
      intro hk q s hq hs
      obtain rfl : i = 0 := by omega
      have := (List.getElem?_eq_some_iff.1 hs).1
      omega
     | succ k ih =>
      intro hk q s hq hs
      by_cases hik : i = k + 1
      · subst hik
        have := (List.getElem?_eq_some_iff.1 hs).1
        omega
      · cases he : endAt zs k with
        | true =>
         rw [starts_end he, List.getElem?_append] at hs
         split at hs
         · exact ih (by omega) q s hq hs
         · have : s ∈ [k + 1] := List.mem_of_getElem? hs
           simp at this
           omega
        | false =>
         rw [starts_same he] at hs
         exact ih (by omega) q s hq hs
    have := key n hin j a h hj
    omega
 have h2 : (starts zs i).length = j + 1 := by
  rcases Nat.lt_or_ge (j + 1) (starts zs i).length with h | h
  · exfalso
    have hs := hat (j + 1) h
    rw [List.getElem?_eq_getElem h] at hs
    have h3 := hb _ hs
    have h4 := starts_at_le zs i (j + 1) _ (List.getElem?_eq_getElem h)
    omega
  · omega
 have hlast := starts_last zs i
 rw [h2, Nat.add_sub_cancel, ← hat j (by omega), hj] at hlast
 injection hlast with hlast
 rw [pl_starts, h2, ← hlast]
def places (zs : List Int) (m : Nat) : List (Nat × Nat) := (List.range m).map (pl zs)
theorem places_snoc (zs : List Int) (m : Nat) : places zs (m + 1) = places zs m ++ [pl zs m] := by simp [places, List.range_succ]
theorem places_len (zs : List Int) (m : Nat) : (places zs m).length = m := by simp [places]
theorem places_at (zs : List Int) (m i : Nat) (h : i < m) : (places zs m)[i]? = some (pl zs i) := by simp [places, h]
end Go.Proofs.YtbpgkkoeehopjaaGreat.ln
namespace Go.Proofs.YtbpgkkoeehopjaaGreat.lines
open Go.RowKit Go.Proofs.YtbpgkkoeehopjaaGreat.words Go.Proofs.YtbpgkkoeehopjaaGreat.enc Go.Proofs.YtbpgkkoeehopjaaGreat.dec Go.Proofs.YtbpgkkoeehopjaaGreat.ref Go.Proofs.YtbpgkkoeehopjaaGreat.ln
theorem pos_info : (Tryz.prog.info? 41).map (fun i => (i.zero, i.size, i.bytes)) = some (some (.agg #[.int .i64 0, .int .i64 0]), 2, 16) := by kernel_rfl
def pcells (l : List (Nat × Nat)) : List Value := l.flatMap fun p => [Value.int .i64 (p.1 : Int), Value.int .i64 (p.2 : Int)]
theorem pcells_len (l : List (Nat × Nat)) : (pcells l).length = l.length * 2 := by
 induction l with
 | nil => rfl
 | cons p l ih =>
  have : pcells (p :: l) = [Value.int .i64 (p.1 : Int), Value.int .i64 (p.2 : Int)] ++ pcells l := rfl
  rw [this, List.length_append, ih]
  simp
  omega
theorem pcells_snoc (l : List (Nat × Nat)) (p : Nat × Nat) : pcells (l ++ [p]) = pcells l ++ [Value.int .i64 (p.1 : Int), Value.int .i64 (p.2 : Int)] := by simp [pcells]
theorem one_pos (x y : Int) : ∀ u ∈ [Value.int .i64 x, Value.int .i64 y], u.oneCell' = true := by
 intro u hu
 simp at hu
 rcases hu with rfl | rfl <;> rfl
theorem rd_pos (w : World) (B : Nat) (x y : Int) (hB : w.heap.size < B) : Rd (w.alloc (.cells #[.int .i64 x, .int .i64 y] 41)) B (some ⟨w.heap.size, 0, none⟩) [.int .i64 x, .int .i64 y] :=
 rd_new w [.int .i64 x, .int .i64 y] 41 hB
set_option maxRecDepth 100000
def sj (zs : List Int) (n j : Nat) : Nat := (starts zs n).getD j (n + 1)
theorem sj_at {zs : List Int} {n j a : Nat} (h : (starts zs n)[j]? = some a) : sj zs n j = a := by unfold sj; rw [List.getD_eq_getElem?_getD, h]; rfl
theorem sj_end {zs : List Int} {n j : Nat} (h : (starts zs n).length ≤ j) : sj zs n j = n + 1 := by unfold sj; rw [List.getD_eq_getElem?_getD, List.getElem?_eq_none h]; rfl
theorem starts_first (zs : List Int) (n : Nat) : (starts zs n)[0]? = some 0 := by
 have h := starts_take zs 0 n (Nat.zero_le _)
 have e : (starts zs 0) = [0] := rfl
 rw [e] at h
 have := congrArg (·[0]?) h
 simpa [List.getElem?_take] using this
theorem sj_zero (zs : List Int) (n : Nat) : sj zs n 0 = 0 := sj_at (starts_first zs n)
theorem pl_of {zs : List Int} {n j a b i : Nat} (hj : (starts zs n)[j]? = some a) (ha : a ≤ i) (hb : sj zs n (j + 1) = b) (hi : i < b) (hin : i ≤ n) : pl zs i = (j + 1, i - a + 1) :=
 pl_in hj ha hin fun b' h => by rw [sj_at h] at hb; omega
set_option maxHeartbeats 2000000 in
theorem RefPlaces_any (A : Option Addr) (n c B : Nat) (zs : List Int) (w : World) (hr : Rd w B A (zs.map (Value.int .i32))) (hB : B ≤ w.heap.size) (hl : zs.length = n) (hn : n ≤ 4194304) :
  Calls Tryz.prog 137 #[.slice A n c] w fun e w' => ∃ v, e = .returned v ∧ w'.ownsRow w.heap.size 41 2 v (n + 1) (pcells (places zs (n + 1))) ∧ Below w.heap.size w w' := by
 obtain ⟨i0, hi0, hz0, hz1, hz2⟩ := info_parts pos_info
 have HL := hide hl
 clear hl
 have hm1 := starts_pos zs n
 have hm2 := starts_len zs n
 go_enter Tryz.func137, Tryz.ntmps137
 go_wp2_with fail
 refine (Starts_any A n c B zs _ hr hB HL.out hn).mono ?_
 rintro e w1 ⟨vs, rfl, howns, hb1⟩
 obtain ⟨As, cS, rfl, _, _⟩ := own_slice howns
 obtain ⟨m, hm⟩ : ∃ m, (starts zs n).length = m := ⟨_, rfl⟩
 have hs := Rd.of_own howns
 rw [hm] at hm1 hm2 ⊢
 have HM := hide hm
 clear hm howns hr
 go_wp2_with fail
 go_loopw [3, 5] (fun vo i wr => ∃ j : Nat, j ≤ m ∧ i = .int .i64 j ∧ wr.ownsRow w1.heap.size 41 2 vo (sj zs n j) (pcells (places zs (sj zs n j))) ∧ Below w1.heap.size w1 wr) (fun _ i _ => m - (intOf i).toNat)
 case atStart => exact ⟨0, Nat.zero_le _, rfl, by rw [sj_zero]; exact World.ownsRow_nil _ _ _ _, Below.refl _ _⟩
 case round =>
  obtain ⟨j, hj, rfl, howno, hb⟩ := hrel
  obtain ⟨Ao, co, rfl, _, _⟩ := own_slice howno
  by_cases hlt : j < m
  · obtain ⟨a, ha⟩ : ∃ a, (starts zs n)[j]? = some a := ⟨(starts zs n)[j]'(by rw [HM.out]; exact hlt), List.getElem?_eq_getElem _⟩
    have han := starts_at_le zs n j a ha
    obtain ⟨ads, rfl, _, hca⟩ := rd_nat (hs.below' hb (Nat.le_refl _)) ha
    rw [sj_at ha] at howno ⊢
    obtain ⟨b, hbe⟩ : ∃ b, sj zs n (j + 1) = b := ⟨_, rfl⟩
    have HB := hide hbe
    have HA := hide ha
    by_cases hlast : j + 1 < m
    · obtain ⟨b', hb0⟩ : ∃ b, (starts zs n)[j + 1]? = some b := ⟨(starts zs n)[j + 1]'(by rw [HM.out]; exact hlast), List.getElem?_eq_getElem _⟩
      obtain rfl : b' = b := (sj_at hb0).symm.trans hbe
      have hab := starts_rise zs n j a b' ha hb0
      have hbn := starts_at_le zs n (j + 1) b' hb0
      obtain ⟨ads', eas, _, hcb⟩ := rd_nat (hs.below' hb (Nat.le_refl _)) hb0
      injection eas with eas
      subst eas
      rw [add_succ] at hcb
      clear ha hb0 hbe
      have hI : (j : Int) + 1 < (m : Int) := by omega
      go_wp2_with fail
      go_loopw [3, 7] (fun vi i wq => ∃ q : Nat, a ≤ q ∧ q ≤ b' ∧ i = .int .i64 q ∧ wq.ownsRow w1.heap.size 41 2 vi q (pcells (places zs q)) ∧ Below w1.heap.size w1 wq) (fun _ i _ => b' - (intOf i).toNat)
      case atStart => exact ⟨a, Nat.le_refl _, by omega, rfl, howno, hb⟩
      case round =>
       obtain ⟨q, haq, hqb, rfl, hownq, hbq⟩ := hrel
       obtain ⟨Aq, cq, rfl, _, _⟩ := own_slice hownq
       by_cases hq : q < b'
       · have HP := hide (pl_of HA.out haq HB.out hq (by omega))
         obtain ⟨ads2, eas2, _, hca2⟩ := rd_nat (hs.below' hbq (Nat.le_refl _)) HA.out
         injection eas2 with eas2
         subst eas2
         go_wp2_with (at_builtin; refine wpList_append_rd _ rfl _ _ 80 rfl w1.heap.size 41 i0 (.agg #[.int .i64 0, .int .i64 0]) 2 16 Tryz.underlying80 hi0 hz0 hz1 hz2 rfl (by decide) _ _ _ rfl (hownq.alloc _) _ _ 1 1 _ rfl (by rfl) (rd_pos _ _ _ _ (Nat.lt_succ_self _)) (one_pos _ _) ?c3 ?c4 ?c5 ?_)
         case c3 => simp only [maxLen]; omega
         case c4 => omega
         case c5 => exact Nat.le_trans hbq.size (by simp)
         intro v2 w2 hown2 hg2 hat2
         have hb2 := below_append (hbq.alloc hbq.size _) (hownq.alloc _) (Nat.le_refl _) hg2 (Nat.le_trans hbq.size (by simp))
         go_wp2_with fail
         go_roundw
         case rel =>
          refine ⟨q + 1, by omega, by omega, by go_num, ?_, hb2⟩
          rw [places_snoc, pcells_snoc, HP.out]
          have e1 : (((j + 1 : Nat) : Nat) : Int) = (j : Int) + 1 := by omega
          have e2 : (((q - a + 1 : Nat) : Nat) : Int) = (q : Int) - (a : Int) + 1 := by omega
          dsimp only
          rw [e1, e2]
          exact hown2
         case measure => simp [intOf]; omega
       · have hqe : q = b' := by omega
         subst hqe
         go_wp2_with fail
         go_roundw
         case rel => exact ⟨j + 1, by omega, by go_num, by rw [HB.out]; exact hownq, hbq⟩
         case measure => simp [intOf]; omega
    · obtain rfl : b = n + 1 := hbe.symm.trans (sj_end (by rw [HM.out]; omega))
      clear ha hbe
      have hI : ¬ ((j : Int) + 1 < (m : Int)) := by omega
      go_wp2_with fail
      go_loopw [3, 7] (fun vi i wq => ∃ q : Nat, a ≤ q ∧ q ≤ (n + 1) ∧ i = .int .i64 q ∧ wq.ownsRow w1.heap.size 41 2 vi q (pcells (places zs q)) ∧ Below w1.heap.size w1 wq) (fun _ i _ => (n + 1) - (intOf i).toNat)
      case atStart => exact ⟨a, Nat.le_refl _, by omega, rfl, howno, hb⟩
      case round =>
       obtain ⟨q, haq, hqb, rfl, hownq, hbq⟩ := hrel
       obtain ⟨Aq, cq, rfl, _, _⟩ := own_slice hownq
       by_cases hq : q < (n + 1)
       · have HP := hide (pl_of HA.out haq HB.out hq (by omega))
         obtain ⟨ads2, eas2, _, hca2⟩ := rd_nat (hs.below' hbq (Nat.le_refl _)) HA.out
         injection eas2 with eas2
         subst eas2
         go_wp2_with (at_builtin; refine wpList_append_rd _ rfl _ _ 80 rfl w1.heap.size 41 i0 (.agg #[.int .i64 0, .int .i64 0]) 2 16 Tryz.underlying80 hi0 hz0 hz1 hz2 rfl (by decide) _ _ _ rfl (hownq.alloc _) _ _ 1 1 _ rfl (by rfl) (rd_pos _ _ _ _ (Nat.lt_succ_self _)) (one_pos _ _) ?c3 ?c4 ?c5 ?_)
         case c3 => simp only [maxLen]; omega
         case c4 => omega
         case c5 => exact Nat.le_trans hbq.size (by simp)
         intro v2 w2 hown2 hg2 hat2
         have hb2 := below_append (hbq.alloc hbq.size _) (hownq.alloc _) (Nat.le_refl _) hg2 (Nat.le_trans hbq.size (by simp))
         go_wp2_with fail
         go_roundw
         case rel =>
          refine ⟨q + 1, by omega, by omega, by go_num, ?_, hb2⟩
          rw [places_snoc, pcells_snoc, HP.out]
          have e1 : (((j + 1 : Nat) : Nat) : Int) = (j : Int) + 1 := by omega
          have e2 : (((q - a + 1 : Nat) : Nat) : Int) = (q : Int) - (a : Int) + 1 := by omega
          dsimp only
          rw [e1, e2]
          exact hown2
         case measure => simp [intOf]; omega
       · have hqe : q = (n + 1) := by omega
         subst hqe
         go_wp2_with fail
         go_roundw
         case rel => exact ⟨j + 1, by omega, by go_num, by rw [HB.out]; exact hownq, hbq⟩
         case measure => simp [intOf]; omega
  · have hjm : j = m := by omega
    subst hjm
    rw [sj_end (by rw [HM.out]; exact Nat.le_refl _)] at howno ⊢
    go_wp2_with fail
    go_ret
    exact ⟨_, rfl, own_more howno hb1.size, hb1.trans (hb.mono hb1.size)⟩
theorem pcells_cons (p : Nat × Nat) (l : List (Nat × Nat)) : pcells (p :: l) = Value.int .i64 (p.1 : Int) :: Value.int .i64 (p.2 : Int) :: pcells l := rfl
theorem pcells_at : ∀ (l : List (Nat × Nat)) (k : Nat) (p : Nat × Nat), l[k]? = some p → (pcells l)[k * 2]? = some (Value.int .i64 (p.1 : Int)) ∧ (pcells l)[k * 2 + 1]? = some (Value.int .i64 (p.2 : Int))
 | [], k, p, h => by simp at h
 | q :: l, 0, p, h => by
  simp at h; subst h
  rw [pcells_cons]; exact ⟨rfl, rfl⟩
 | q :: l, k + 1, p, h => by
  have := pcells_at l k p (by simpa using h)
  rw [pcells_cons, show (k + 1) * 2 = k * 2 + 1 + 1 by omega]
  simpa using this
theorem add_two (a : Addr) (i : Nat) : a.add (i + 1) = ⟨(a.add i).block, (a.add i).off + 1, none⟩ := by
 unfold Addr.add
 by_cases h : i = 0
 · subst h; simp
 · simp [h, Nat.add_assoc]
theorem add_zero (a : Addr) : a.add (0 * 2) = a := by simp [Addr.add]
theorem rd_place {w : World} {B n k : Nat} {A : Option Addr} {zs : List Int} (h : Rd w B A (pcells (places zs n))) (hk : k < n) :
  ∃ ad, A = some ad ∧ ad.block < B ∧ w.cell? (ad.add (k * 2)) = some (.int .i64 ((pl zs k).1 : Int)) ∧ w.cell? ⟨(ad.add (k * 2)).block, (ad.add (k * 2)).off + 1, none⟩ = some (.int .i64 ((pl zs k).2 : Int)) := by
 have hne : pcells (places zs n) ≠ [] := by
  intro e
  have := congrArg List.length e
  rw [pcells_len, places_len] at this
  simp at this
  omega
 obtain ⟨ad, e, hb, hc⟩ := h hne
 have hp := pcells_at _ _ _ (places_at zs n k hk)
 exact ⟨ad, e, hb, hc _ _ hp.1, by rw [← add_two]; exact hc _ _ hp.2⟩
end Go.Proofs.YtbpgkkoeehopjaaGreat.lines
namespace Go.Proofs.YtbpgkkoeehopjaaGreat.one
open Go.RowKit Go.Proofs.YtbpgkkoeehopjaaGreat.words Go.Proofs.YtbpgkkoeehopjaaGreat.enc Go.Proofs.YtbpgkkoeehopjaaGreat.utf Go.Proofs.YtbpgkkoeehopjaaGreat.dec Go.Proofs.YtbpgkkoeehopjaaGreat.ref
theorem putL_eq (c : Int) : enc.putL c = utf.putL c := rfl
theorem One_any (A : Option Addr) (n c B : Nat) (l : List UInt8) (w : World) (hr : Rd w B A (Lib.byteCells l)) (hB : B ≤ w.heap.size) (hl : l.length = n) (hc : n ≤ c) (hn : c ≤ maxLen) :
  Calls Tryz.prog 166 #[.slice A n c] w fun e w' => e = .returned (.tuple #[.int .i32 (oneL l).1, .int .i64 (oneL l).2]) ∧ Below w.heap.size w w' := by
 unfold maxLen at hn
 have HL := hide hl
 clear hl
 go_enter Tryz.func166, Tryz.ntmps166
 go_wp2
 go_loopw [4] (fun i wr => ∃ k : Nat, 1 ≤ k ∧ k ≤ 5 ∧ i = .int .i64 k ∧ Below w.heap.size w wr ∧ Hid (∀ j, 1 ≤ j → j < k → j ≤ l.length → ¬ Hit l j)) (fun i _ => 5 - (intOf i).toNat)
 case atStart => exact ⟨1, by omega, by omega, rfl, Below.refl _ _, fun j h1 h2 => by omega⟩
 case round =>
  obtain ⟨k, hk1, hk5, rfl, hb, hmiss⟩ := hrel
  by_cases h4 : k ≤ 4
  · by_cases hkn : k ≤ n
    · have hkc : k ≤ c := by omega
      have hlen : (l.take k).length = k := by rw [List.length_take, HL.out]; omega
      have hrk : Rd wr B A (Lib.byteCells (l.take k)) := by
       have := (hr.below' hb hB).take k
       rw [show Lib.byteCells (l.take k) = (Lib.byteCells l).take k by simp [Lib.byteCells, List.map_take]]
       exact this
      have HK := hide hlen
      clear hlen
      go_wp2_with fail
      refine (number_any A k c B (l.take k) _ hrk HK.out hk1 h4).mono ?_
      rintro e w1 ⟨rfl, hb1⟩
      have hb01 := hb.trans (hb1.mono hb.size)
      obtain ⟨q, hq⟩ : ∃ q, numL (ints (l.take k)) = q := ⟨_, rfl⟩
      have HQ := hide hq
      rw [hq]
      clear hq
      go_wp2_with fail
      refine (Put_any q _).mono ?_
      rintro e w2 ⟨A2, k2, rfl, hr2, hb2⟩
      have hb02 := hb01.trans (hb2.mono hb01.size)
      have hrk2 := hrk.keep (w' := w2) (fun p hp => (hb2.cell (by have := hb01.size; omega)).trans (hb1.cell (by have := hb.size; omega)))
      by_cases hpl : (enc.putL q).length = k
      · have hpe : (((enc.putL q).length : Int) == (k : Int)) = true := by rw [beq_iff_eq]; omega
        obtain ⟨pb, hpb⟩ : ∃ pb : List UInt8, ints pb = enc.putL q := by
         by_cases hv : Lib.validRune q = true
         · exact ⟨Lib.encodeRune q, by rw [ints_encode]; exact (if_pos hv).symm⟩
         · exact ⟨[], by unfold enc.putL; rw [if_neg hv]; rfl⟩
        have hcells : (enc.putL q).map (Value.int .u8) = Lib.byteCells pb := by rw [← hpb]; simp [ints, Lib.byteCells]
        rw [hcells] at hr2
        have hpn : pb.length = k := by rw [← hpl, ← hpb, ints_len]
        have HP := hide hpn
        have HPB := hide hpb
        have HPL := hide hpl
        clear hcells hpl hpb hpn
        go_wp2_with fail
        rw [HPL.out]
        refine (same_any A2 A k k2 c _ B pb (l.take k) _ hr2 hrk2 HP.out HK.out (by simp only [maxLen]; omega)).mono ?_
        rintro e w3 ⟨rfl, m, rfl⟩
        have hb03 := below_drewN hb02 m
        by_cases hs : sameB pb (l.take k) = true
        · have hh : Hit l k := by
           have e1 := of_decide_eq_true hs
           show utf.putL (numL (ints (l.take k))) = ints (l.take k)
           rw [HQ.out, ← putL_eq, ← HPB.out, e1]
          have hone := oneL_hit hk1 (by rw [HL.out]; exact hkn) hh
          rw [HQ.out] at hone
          have HO := hide hone
          clear hone hh
          go_wp2_with fail
          go_ret2
          exact ⟨by rw [HO.out]; rfl, hb03⟩
        · have hs' : sameB pb (l.take k) = false := by simpa using hs
          have hnh : ¬ Hit l k := by
           intro hh
           apply hs
           apply decide_eq_true
           apply ints_inj
           rw [HPB.out, putL_eq, ← HQ.out]
           exact hh
          have HN := hide hnh
          clear hs hnh
          go_wp2_with fail
          go_roundw
          case rel => exact ⟨k + 1, by omega, by omega, by go_num, hb03, fun j j1 j2 j3 => if e : j = k then by rw [e]; exact HN.out else hmiss.out j j1 (by omega) j3⟩
          case measure => simp [intOf]; omega
      · have hpe : (((enc.putL q).length : Int) == (k : Int)) = false := by rw [beq_eq_false_iff_ne]; omega
        have hnh : ¬ Hit l k := by
         intro hh
         apply hpl
         have e1 : utf.putL (numL (ints (l.take k))) = ints (l.take k) := hh
         rw [HQ.out] at e1
         rw [putL_eq, e1, ints_len, HK.out]
        have HN := hide hnh
        clear hpl hnh
        go_wp2_with fail
        go_roundw
        case rel => exact ⟨k + 1, by omega, by omega, by go_num, hb02, fun j j1 j2 j3 => if e : j = k then by rw [e]; exact HN.out else hmiss.out j j1 (by omega) j3⟩
        case measure => simp [intOf]; omega
    · have hone := oneL_miss (l := l) (fun j j1 j2 j3 => hmiss.out j j1 (by have := HL.out; omega) j3)
      have HO := hide hone
      clear hone
      go_wp2_with fail
      go_ret2
      exact ⟨by rw [HO.out]; rfl, hb⟩
  · have hone := oneL_miss (l := l) (fun j j1 j2 j3 => hmiss.out j j1 (by omega) j3)
    have HO := hide hone
    clear hone
    go_wp2_with fail
    go_ret2
    exact ⟨by rw [HO.out]; rfl, hb⟩
theorem RefDecode_any (A : Option Addr) (n c B : Nat) (l : List UInt8) (w : World) (hr : Rd w B A (Lib.byteCells l)) (hB : B ≤ w.heap.size) (hl : l.length = n) (hc : n ≤ c) (hn : c ≤ maxLen) (hs : n ≤ 35184372088832) :
  Calls Tryz.prog 135 #[.slice A n c] w (DecPost l w) := by
 obtain ⟨i0, hi0, hz0, hz1, hz2⟩ := info_parts rune_info
 unfold maxLen at hn
 have HL := hide hl
 clear hl
 go_enter Tryz.func135, Tryz.ntmps135
 go_wp2
 go_loopw [4, 5] (fun v i wr => ∃ (pos : Nat) (acc : List Int), i = .int .i64 pos ∧ pos ≤ n ∧ wr.ownsRow w.heap.size 21 1 v acc.length (acc.map (Value.int .i32)) ∧ Below w.heap.size w wr ∧ Hid (At l pos acc)) (fun _ i _ => n - (intOf i).toNat)
 case atStart => exact ⟨0, [], rfl, by omega, World.ownsRow_nil _ _ _ _, Below.refl _ _, at_start _⟩
 case round =>
  obtain ⟨pos, acc, rfl, hpos, hown, hb, hat⟩ := hrel
  obtain ⟨Av, cv, rfl, _, _⟩ := own_slice hown
  by_cases hlt : pos < n
  · have hla := hat.out.2.2
    have hrd : Rd wr B (A.map (·.add pos)) (Lib.byteCells (l.drop pos)) := by
     rw [show Lib.byteCells (l.drop pos) = (Lib.byteCells l).drop pos by simp [Lib.byteCells, List.map_drop]]
     exact (hr.below' hb hB).drop pos
    have hne : l.drop pos ≠ [] := by intro e; have := congrArg List.length e; rw [List.length_drop, List.length_nil, HL.out] at this; omega
    have hdl : (l.drop pos).length = n - pos := by rw [List.length_drop, HL.out]
    have HN := hide hne
    have HD := hide hdl
    clear hne hdl
    go_wp2_with fail
    refine (One_any _ (n - pos) (c - pos) B (l.drop pos) _ hrd (Nat.le_trans hB hb.size) HD.out (by omega) (by simp only [maxLen]; omega)).mono ?_
    rintro e w1 ⟨rfl, hb1⟩
    have hb01 := hb.trans (hb1.mono hb.size)
    have hown1 := own_below hown hb1
    by_cases hbad : Bad (l.drop pos)
    · have hone : oneL (l.drop pos) = (0, 0) := if_pos (.inr hbad)
      have hfin := at_bad hat.out hbad
      have HF := hide hfin
      rw [hone]
      clear hone hbad hfin
      dsimp only
      go_wp2_with fail
      go_ret2
      exact ⟨.slice Av acc.length cv, by rw [HF.out]; rfl, by rw [HF.out]; exact hown1, hb01⟩
    · have hone : oneL (l.drop pos) = (((Lib.decodeL (l.drop pos)).1 : Int), (Lib.decodeL (l.drop pos)).2) := if_neg (by rintro (h | h); exact HN.out h; exact hbad h)
      have hgood := at_good hat.out (by rw [HL.out]; exact hlt) hbad
      have hw1 := Lib.decodeL_width (l.drop pos)
      have hle := Lib.decodeL_le (l.drop pos) HN.out
      rw [HD.out] at hle
      have hru := Lib.decodeL_rune (l.drop pos)
      rw [hone]
      generalize (Lib.decodeL (l.drop pos)).1 = r at *
      generalize (Lib.decodeL (l.drop pos)).2 = k at *
      have HG := hide hgood
      clear hone hbad hgood
      dsimp only
      have hk0 : ((k : Int) == 0) = false := by rw [beq_eq_false_iff_ne]; omega
      have hown2 := hown1.alloc (.cells #[.int .i32 r] 21)
      go_wp2_with (at_builtin; refine wpList_append_rd _ rfl _ _ 187 rfl w.heap.size 21 i0 (.int .i32 0) 1 4 Tryz.underlying187 hi0 hz0 hz1 hz2 rfl (by decide) _ _ _ rfl hown2 _ _ 1 1 _ rfl ?c1 (rd_one _ _ _ (Nat.lt_succ_self _)) (one_i32 _) ?c2 ?c3 ?c4 ?_)
      case c1 => rfl
      case c2 => simp only [maxLen]; omega
      case c3 => omega
      case c4 => exact Nat.le_trans hb01.size (by simp)
      intro v3 w3 hown3 hg3 _
      have hb3 := below_append (hb01.alloc hb01.size _) hown2 (Nat.le_refl _) hg3 (Nat.le_trans hb01.size (by simp))
      go_wp2_with fail
      go_roundw
      case rel =>
       refine ⟨pos + k, acc ++ [(r : Int)], by go_num, by omega, ?_, hb3, HG.out⟩
       rw [List.length_append, List.map_append]
       exact hown3
      case measure => simp [intOf]; omega
  · have hend := at_end hat.out (by rw [HL.out]; exact hlt)
    rw [HL.out] at hend
    have hpn : pos = n := by omega
    have HF := hide hend
    subst hpn
    clear hend
    go_wp2_with fail
    go_ret2
    exact ⟨.slice Av acc.length cv, by rw [HF.out]; rfl, by rw [HF.out]; exact hown, hb⟩
end Go.Proofs.YtbpgkkoeehopjaaGreat.one
