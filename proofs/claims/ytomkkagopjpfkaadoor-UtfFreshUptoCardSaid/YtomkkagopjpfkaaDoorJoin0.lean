/-
  What is written, as bytes: the link between the program's Encode and the plain facts of reading and writing.
-/
import Derived.Test.YtomkkagopjpfkaaDoorFrame
import Derived.Test.YtomkkagopjpfkaaDoorRef
namespace Go.Proofs.YtomkkagopjpfkaaDoor.back
open Go.ChangeShapes Go.WideShapes Go.ChangeAt Go.RowKit
open Go.Proofs.YtomkkagopjpfkaaDoor.frame
open Go.Proofs.YtomkkagopjpfkaaDoor.words Go.Proofs.YtomkkagopjpfkaaDoor.enc Go.Proofs.YtomkkagopjpfkaaDoor.utf Go.Proofs.YtomkkagopjpfkaaDoor.dec Go.Proofs.YtomkkagopjpfkaaDoor.ref
set_option linter.unusedVariables false

theorem okL_all {zs : List Int} (h : okL zs = true) : ∀ z ∈ zs, Lib.validRune z = true := by
  unfold okL at h; exact List.all_eq_true.1 h
theorem encS_data {zs : List Int} (h : okL zs = true) : (encS zs).data.toList = encB zs := by
  rw [encS_ok h]
  unfold strOfNums encL encB Lib.encodeRune
  rw [List.map_flatMap]
theorem size_data (s : ByteArray) : s.data.toList.length = s.size := by simp
theorem encB_len (zs : List Int) : (encB zs).length ≤ 4 * zs.length := by
  induction zs with
  | nil => simp [encB]
  | cons z zs ih => rw [encB_cons, List.length_append, List.length_cons]; have := (encRune_len z).2; omega
theorem encS_size (zs : List Int) : (encS zs).size ≤ 4 * zs.length := by
  cases h : okL zs with
  | false => rw [encS_bad h]; exact Nat.zero_le _
  | true => rw [← size_data, encS_data h]; exact encB_len zs
/-- what is written is read again -/
theorem dec_encS {zs : List Int} (h : okL zs = true) : decF (encS zs).data.toList = (zs, (encS zs).size) := by
  have := decF_encB zs (okL_all h) []
  rw [List.append_nil, ← encS_data h, decF_nil, List.append_nil] at this
  rw [this, size_data]
  rfl
theorem valid_encS {zs : List Int} (h : okL zs = true) : Lib.validD (encS zs).data.toList = true := by
  rw [validD_iff, dec_encS h, size_data]; simp
theorem okL_decF (l : List UInt8) : okL (decF l).1 = true := List.all_eq_true.2 (decF_valid l)
/-- what is read is written as those very bytes -/
theorem encS_decF (l : List UInt8) : encS (decF l).1 = ⟨(l.take (decF l).2).toArray⟩ := by
  have h := encS_data (okL_decF l)
  rw [encB_decF] at h
  rcases e : encS (decF l).1 with ⟨d⟩
  rw [e] at h
  rw [← h]
theorem fits_ok {zs : List Int} (h : okL zs = true) : Fits zs := fun z hz => by
  have := runeZ z (okL_all h z hz)
  omega

theorem Decode_string' (s : ByteArray) (zs : List Int) (m : Nat) (w : World) (hd : decF s.data.toList = (zs, m)) (hs : s.size ≤ 35184372088832) (hT : Lib.Utf8Tabs 0 1 w) :
    Calls Tryd.prog 22 #[.string s] w fun e w' => ∃ v, e = .returned (.tuple #[v, .int .i64 m]) ∧ w'.ownsRow w.heap.size 21 1 v zs.length (zs.map (Value.int .i32)) ∧ Below w.heap.size w w' :=
  (Decode_string s w hs hT).mono fun e w' h => by unfold DecPost at h; rw [hd] at h; exact h
theorem Decode_bytes' (A : Option Addr) (n c B : Nat) (s : ByteArray) (zs : List Int) (m : Nat) (w : World) (hrd : Rd w B A (Lib.byteCells s.data.toList)) (hsn : s.size = n) (hd : decF s.data.toList = (zs, m)) (hs : s.size ≤ 35184372088832) (hT : Lib.Utf8Tabs 0 1 w) :
    Calls Tryd.prog 24 #[.slice A n c] w fun e w' => ∃ v, e = .returned (.tuple #[v, .int .i64 m]) ∧ w'.ownsRow w.heap.size 21 1 v zs.length (zs.map (Value.int .i32)) ∧ Below w.heap.size w w' :=
  (Decode_bytes A n c B s w hrd hsn hs hT).mono fun e w' h => by unfold DecPost at h; rw [hd] at h; exact h
end Go.Proofs.YtomkkagopjpfkaaDoor.back
