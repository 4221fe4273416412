/-
  UTF-8 as plain lists: what is decoded of bytes, what writes characters, and how the two go together. No program is in sight.
-/
import Derived.Lib.MapLaws
import Derived.Lib.ValidU
import Derived.Lib.QuoteLoop
import Derived.Lib.Small
import Derived.Lib.FieldsU
namespace Go.Proofs.YtomkkagopjpfkaaDoor.utf
open Go.Lib

/-- the rune at the head of l is one of no bytes -/
def Bad (l : List UInt8) : Prop := (decodeL l).1 = 65533 ∧ (decodeL l).2 = 1
instance (l : List UInt8) : Decidable (Bad l) := inferInstanceAs (Decidable (_ ∧ _))

def dec : Nat → List UInt8 → List Int × Nat
  | 0, _ => ([], 0)
  | f + 1, l => if l = [] ∨ Bad l then ([], 0) else (((decodeL l).1 : Int) :: (dec f (l.drop (decodeL l).2)).1, (decodeL l).2 + (dec f (l.drop (decodeL l).2)).2)
/-- the characters of the good beginning, and its length -/
def decF (l : List UInt8) : List Int × Nat := dec l.length l

theorem drop_lt (l : List UInt8) (h : l ≠ []) : (l.drop (decodeL l).2).length < l.length := by
  have h1 := decodeL_width l
  have h2 : 0 < l.length := List.length_pos_iff.2 h
  rw [List.length_drop]
  omega
theorem dec_fuel : ∀ (f : Nat) (l : List UInt8), l.length ≤ f → dec f l = decF l
  | 0, l, h => by
    have : l = [] := List.eq_nil_of_length_eq_zero (by omega)
    subst this; rfl
  | f + 1, l, h => by
    by_cases hl : l = []
    · subst hl; rfl
    · have hlt := drop_lt l hl
      obtain ⟨m, hm⟩ : ∃ m, l.length = m + 1 := ⟨l.length - 1, by have := List.length_pos_iff.2 hl; omega⟩
      unfold decF
      rw [hm]
      unfold dec
      by_cases hb : l = [] ∨ Bad l
      · rw [if_pos hb, if_pos hb]
      · rw [if_neg hb, if_neg hb, dec_fuel f _ (by omega), dec_fuel m _ (by omega)]
theorem decF_nil : decF [] = ([], 0) := rfl
theorem decF_bad {l : List UInt8} (h : Bad l) : decF l = ([], 0) := by
  cases l with
  | nil => rfl
  | cons b l => unfold decF; simp only [List.length_cons, dec]; rw [if_pos (.inr h)]
theorem decF_good {l : List UInt8} (hl : l ≠ []) (h : ¬ Bad l) : decF l = (((decodeL l).1 : Int) :: (decF (l.drop (decodeL l).2)).1, (decodeL l).2 + (decF (l.drop (decodeL l).2)).2) := by
  obtain ⟨m, hm⟩ : ∃ m, l.length = m + 1 := ⟨l.length - 1, by have := List.length_pos_iff.2 hl; omega⟩
  have hlt := drop_lt l hl
  have e : decF l = dec (m + 1) l := by unfold decF; rw [hm]
  rw [e]
  simp only [dec]
  rw [if_neg (by rintro (h1 | h1); exact hl h1; exact h h1), dec_fuel m _ (by omega)]

theorem decodeL_le' (l : List UInt8) (hl : l ≠ []) : (decodeL l).2 ≤ l.length := decodeL_le l hl

/-- induction along the good beginning -/
theorem decF_ind {P : List UInt8 → Prop} (hn : P []) (hb : ∀ l, l ≠ [] → Bad l → P l) (hg : ∀ l, l ≠ [] → ¬ Bad l → P (l.drop (decodeL l).2) → P l) : ∀ l, P l := by
  have key : ∀ n l, List.length l = n → P l := by
    intro n
    induction n using Nat.strongRecOn with
    | _ n ih =>
      intro l h
      by_cases hl : l = []
      · subst hl; exact hn
      by_cases h1 : Bad l
      · exact hb l hl h1
      · exact hg l hl h1 (ih _ (by have := drop_lt l hl; omega) _ rfl)
  exact fun l => key _ l rfl

theorem decF_le : ∀ l, (decF l).2 ≤ l.length := by
  refine decF_ind (by simp [decF_nil]) (fun l _ h => by rw [decF_bad h]; simp) (fun l hl h ih => ?_)
  rw [decF_good hl h]
  have := decodeL_le l hl
  rw [List.length_drop] at ih
  dsimp only
  omega
theorem decF_len : ∀ l, (decF l).1.length ≤ (decF l).2 := by
  refine decF_ind (by simp [decF_nil]) (fun l _ h => by rw [decF_bad h]; simp) (fun l hl h ih => ?_)
  rw [decF_good hl h]
  have := decodeL_width l
  simp only [List.length_cons]
  omega
theorem decodeL_valid (l : List UInt8) : validRune ((decodeL l).1 : Int) = true := by
  have h := decodeN_valid l.length (l.getD 0 0).toNat (l.getD 1 0).toNat (l.getD 2 0).toNat (l.getD 3 0).toNat (l.getD 0 0).toNat_lt
  rw [← decodeL_N] at h
  unfold validRune
  rw [decide_eq_true_eq]
  omega
theorem decF_valid : ∀ l, ∀ c ∈ (decF l).1, validRune c = true := by
  refine decF_ind (by simp [decF_nil]) (fun l _ h => by rw [decF_bad h]; simp) (fun l hl h ih => ?_)
  rw [decF_good hl h]
  intro c hc
  rcases List.mem_cons.1 hc with rfl | hc
  · exact decodeL_valid l
  · exact ih c hc

/-- the bytes of characters -/
def encB (zs : List Int) : List UInt8 := zs.flatMap encodeRune
theorem encB_nil : encB [] = [] := rfl
theorem encB_cons (z : Int) (zs : List Int) : encB (z :: zs) = encodeRune z ++ encB zs := rfl
theorem encB_append (a b : List Int) : encB (a ++ b) = encB a ++ encB b := by simp [encB]

/-- what is read is written as those very bytes -/
theorem encB_decF : ∀ l, encB (decF l).1 = l.take (decF l).2 := by
  refine decF_ind (by simp [decF_nil, encB]) (fun l _ h => by rw [decF_bad h]; simp [encB]) (fun l hl h ih => ?_)
  rw [decF_good hl h]
  dsimp only
  rw [encB_cons, ih, encode_decode l hl h, List.take_add]

/-! ### written, and read again -/
theorem runeZ (r : Int) (h : validRune r = true) : (0 ≤ r ∧ r < 55296) ∨ (57343 < r ∧ r ≤ 1114111) := of_decide_eq_true h
theorem byte_of (x : Int) (h0 : 0 ≤ x) (h1 : x < 256) : (x.toNat.toUInt8.toNat : Int) = x := by
  obtain ⟨n, rfl⟩ := Int.eq_ofNat_of_zero_le h0
  simp
  omega
theorem nat_of (x : Int) (h0 : 0 ≤ x) (h1 : x < 256) : x.toNat.toUInt8.toNat = x.toNat := by have := byte_of x h0 h1; omega

theorem encRune_len (r : Int) : 1 ≤ (encodeRune r).length ∧ (encodeRune r).length ≤ 4 := by
  have := encodeRuneZ_length r
  simpa [encodeRune] using this

theorem decodeL_encode (r : Int) (h : validRune r = true) (t : List UInt8) : decodeL (encodeRune r ++ t) = (r.toNat, (encodeRune r).length) := by
  have hr := runeZ r h
  obtain ⟨n, rfl⟩ := Int.eq_ofNat_of_zero_le (a := r) (by omega)
  rw [decodeL_N]
  unfold encodeRune
  by_cases h1 : (n : Int) ≤ 127
  · rw [encodeRuneZ_one (by omega) h1]
    have e0 := nat_of (n : Int) (by omega) (by omega)
    simp only [List.map_cons, List.map_nil, List.cons_append, List.nil_append, List.getD_cons_zero, e0, decodeN]
    rw [if_pos (by omega)]
    rfl
  by_cases h2 : (n : Int) ≤ 2047
  · rw [encodeRuneZ_two (by omega) h2]
    have e0 := nat_of (192 + (n : Int) / 64) (by omega) (by omega)
    have e1 := nat_of (128 + (n : Int) % 64) (by omega) (by omega)
    simp only [List.map_cons, List.map_nil, List.cons_append, List.nil_append, List.getD_cons_zero, List.getD_cons_succ, e0, e1, List.length_cons, decodeN]
    rw [if_neg (by omega), if_pos ⟨by omega, by omega, by omega⟩, if_pos (by omega)]
    refine Prod.ext ?_ rfl
    dsimp only
    omega
  by_cases h3 : (n : Int) ≤ 65535
  · rw [encodeRuneZ_three (by omega)]
    have e0 := nat_of (224 + (n : Int) / 4096) (by omega) (by omega)
    have e1 := nat_of (128 + (n : Int) / 64 % 64) (by omega) (by omega)
    have e2 := nat_of (128 + (n : Int) % 64) (by omega) (by omega)
    simp only [List.map_cons, List.map_nil, List.cons_append, List.nil_append, List.getD_cons_zero, List.getD_cons_succ, e0, e1, e2, List.length_cons, decodeN]
    rw [if_neg (by omega), if_neg (by omega), if_pos ⟨by omega, ⟨by omega, by omega⟩, by omega, by omega⟩, if_pos ⟨by omega, by omega⟩]
    refine Prod.ext ?_ rfl
    dsimp only
    omega
  · rw [encodeRuneZ_four (by omega) (by omega)]
    have e0 := nat_of (240 + (n : Int) / 262144) (by omega) (by omega)
    have e1 := nat_of (128 + (n : Int) / 4096 % 64) (by omega) (by omega)
    have e2 := nat_of (128 + (n : Int) / 64 % 64) (by omega) (by omega)
    have e3 := nat_of (128 + (n : Int) % 64) (by omega) (by omega)
    simp only [List.map_cons, List.map_nil, List.cons_append, List.nil_append, List.getD_cons_zero, List.getD_cons_succ, e0, e1, e2, e3, List.length_cons, decodeN]
    rw [if_neg (by omega), if_neg (by omega), if_neg (by omega), if_pos ⟨by omega, ⟨by omega, by omega⟩, ⟨by omega, by omega⟩, by omega, by omega⟩, if_pos ⟨by omega, by omega⟩]
    refine Prod.ext ?_ rfl
    dsimp only
    omega

theorem not_bad_encode (r : Int) (h : validRune r = true) (t : List UInt8) : ¬ Bad (encodeRune r ++ t) := by
  unfold Bad
  rw [decodeL_encode r h t]
  rintro ⟨h1, h2⟩
  dsimp only at h1 h2
  have hr := runeZ r h
  obtain rfl : r = 65533 := by omega
  revert h2
  decide

/-- behind written characters bytes are read as by themselves -/
theorem decF_encB (zs : List Int) (h : ∀ z ∈ zs, validRune z = true) (t : List UInt8) : decF (encB zs ++ t) = (zs ++ (decF t).1, (encB zs).length + (decF t).2) := by
  induction zs with
  | nil => simp [encB]
  | cons z zs ih =>
    have hz := h z (by simp)
    have hlen := encRune_len z
    rw [encB_cons, List.append_assoc]
    have hne : encodeRune z ++ (encB zs ++ t) ≠ [] := by
      intro e
      have := congrArg List.length e
      rw [List.length_append, List.length_nil] at this
      omega
    rw [decF_good hne (not_bad_encode z hz _), decodeL_encode z hz]
    dsimp only
    rw [List.drop_left, ih (fun y hy => h y (by simp [hy]))]
    have e : ((z.toNat : Nat) : Int) = z := by have := runeZ z hz; omega
    simp only [e, List.cons_append, List.length_append, Nat.add_assoc]

/-- well formed: the good beginning is all -/
theorem validGo_iff : ∀ (f : Nat) (l : List UInt8), l.length ≤ f → validGoD f l = decide ((decF l).2 = l.length)
  | 0, l, h => by
    have : l = [] := List.eq_nil_of_length_eq_zero (by omega)
    subst this; rfl
  | f + 1, l, h => by
    unfold validGoD
    by_cases hl : l = []
    · subst hl; rfl
    have hpos := List.length_pos_iff.2 hl
    rw [if_neg hl]
    by_cases hb : Bad l
    · rw [if_pos (show (decodeL l).1 = 65533 ∧ (decodeL l).2 = 1 from hb), decF_bad hb]
      exact (decide_eq_false (by dsimp only; omega)).symm
    · rw [if_neg (show ¬ ((decodeL l).1 = 65533 ∧ (decodeL l).2 = 1) from hb), validGo_iff f _ (by have := drop_lt l hl; omega), decF_good hl hb]
      have := decodeL_le l hl
      dsimp only
      rw [List.length_drop]
      exact decide_eq_decide.2 ⟨fun e => by omega, fun e => by omega⟩
theorem validD_iff (l : List UInt8) : validD l = decide ((decF l).2 = l.length) := validGo_iff l.length l (Nat.le_refl _)

/-- the good beginning is the longest well-formed one -/
theorem decF_longest (l : List UInt8) (k : Nat) (hk : k ≤ l.length) (h : (decF (l.take k)).2 = (l.take k).length) : k ≤ (decF l).2 := by
  have e := encB_decF (l.take k)
  rw [h, List.take_length] at e
  have hd := decF_encB (decF (l.take k)).1 (decF_valid _) (l.drop k)
  rw [e, List.take_append_drop] at hd
  rw [hd]
  dsimp only
  rw [List.length_take]
  omega

/-! ### the reference's One -/
/-- the bytes that write a character; none, if it is no scalar value -/
def putL (c : Int) : List Int := if validRune c = true then encodeRuneZ c else []
def firstD (n : Nat) : Int := [0, 128, 32, 16, 8].getD n 0
def ints (l : List UInt8) : List Int := l.map fun b => (b.toNat : Int)
def numL (g : List Int) : Int := (g.drop 1).foldl (fun n b => n * 64 + b % 64) (g.headD 0 % firstD g.length)
/-- the first k bytes are those that write the number that they name -/
def Hit (l : List UInt8) (k : Nat) : Prop := putL (numL (ints (l.take k))) = ints (l.take k)

theorem ints_encode (r : Int) : ints (encodeRune r) = encodeRuneZ r := by
  unfold ints encodeRune
  rw [List.map_map]
  have h : ∀ x ∈ encodeRuneZ r, ((fun b : UInt8 => (b.toNat : Int)) ∘ fun x : Int => x.toNat.toUInt8) x = id x := fun x hx => by
    have := encodeRuneZ_byte r x hx
    exact byte_of x this.1 this.2
  rw [List.map_congr_left h, List.map_id]
theorem ints_inj {a b : List UInt8} (h : ints a = ints b) : a = b := by
  unfold ints at h
  exact (List.map_inj_right (f := fun b : UInt8 => (b.toNat : Int)) (fun x y e => UInt8.toNat_inj.1 (by have e' : (x.toNat : Int) = (y.toNat : Int) := e; omega))).1 h

theorem numL_encode (r : Int) (h : validRune r = true) : numL (encodeRuneZ r) = r := by
  have hr := runeZ r h
  by_cases h1 : r ≤ 127
  · rw [encodeRuneZ_one (by omega) h1]
    simp [numL, firstD]
    omega
  by_cases h2 : r ≤ 2047
  · rw [encodeRuneZ_two (by omega) h2]
    simp [numL, firstD]
    omega
  by_cases h3 : r ≤ 65535
  · rw [encodeRuneZ_three (by omega)]
    simp [numL, firstD]
    omega
  · rw [encodeRuneZ_four (by omega) (by omega)]
    simp [numL, firstD]
    omega

theorem hit_good {l : List UInt8} {k : Nat} (hk : 1 ≤ k) (hl : k ≤ l.length) (h : Hit l k) : l ≠ [] ∧ ¬ Bad l ∧ decodeL l = ((numL (ints (l.take k))).toNat, k) ∧ validRune (numL (ints (l.take k))) = true := by
  unfold Hit at h
  generalize hr : numL (ints (l.take k)) = r at h ⊢
  have hlen : (l.take k).length = k := by rw [List.length_take]; omega
  have hv : validRune r = true := by
    cases hv : validRune r with
    | true => rfl
    | false =>
      unfold putL at h
      rw [hv] at h
      have := congrArg List.length h
      simp [ints] at this
      omega
  have e : encodeRune r = l.take k := ints_inj (by rw [ints_encode, ← h]; unfold putL; rw [if_pos hv])
  have el : l = encodeRune r ++ l.drop k := by rw [e, List.take_append_drop]
  refine ⟨by rintro rfl; simp at hl; omega, ?_, ?_, hv⟩
  · rw [el]; exact not_bad_encode r hv _
  · rw [el, decodeL_encode r hv, e, hlen]
theorem good_hit {l : List UInt8} (hl : l ≠ []) (h : ¬ Bad l) : Hit l (decodeL l).2 ∧ (decodeL l).2 ≤ 4 ∧ (decodeL l).2 ≤ l.length := by
  have e := encode_decode l hl h
  have hv := decodeL_valid l
  refine ⟨?_, ?_, decodeL_le l hl⟩
  · unfold Hit
    rw [← e, ints_encode, numL_encode _ hv]
    unfold putL
    rw [if_pos hv]
  · have := (encRune_len ((decodeL l).1 : Int)).2
    rw [e, List.length_take] at this
    have := decodeL_le l hl
    omega
/-- what One answers -/
def oneL (l : List UInt8) : Int × Nat := if l = [] ∨ Bad l then (0, 0) else (((decodeL l).1 : Int), (decodeL l).2)
theorem oneL_hit {l : List UInt8} {k : Nat} (hk : 1 ≤ k) (hl : k ≤ l.length) (h : Hit l k) : oneL l = (numL (ints (l.take k)), k) := by
  obtain ⟨h1, h2, h3, h4⟩ := hit_good hk hl h
  unfold oneL
  rw [if_neg (by rintro (x | x); exact h1 x; exact h2 x), h3]
  have := runeZ _ h4
  refine Prod.ext ?_ rfl
  dsimp only
  omega
theorem oneL_miss {l : List UInt8} (h : ∀ k, 1 ≤ k → k ≤ 4 → k ≤ l.length → ¬ Hit l k) : oneL l = (0, 0) := by
  unfold oneL
  by_cases hl : l = []
  · rw [if_pos (.inl hl)]
  by_cases hb : Bad l
  · rw [if_pos (.inr hb)]
  · obtain ⟨h1, h2, h3⟩ := good_hit hl hb
    exact absurd h1 (h _ (decodeL_width l) h2 h3)
end Go.Proofs.YtomkkagopjpfkaaDoor.utf
