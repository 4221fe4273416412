/-
  The two tables of unicode/utf8 out of a row's list; a world that holds them, for the witness.
-/
import Derived.Test.YtomkkagopjpfkaaDoorCards
import Derived.Test.YtomkkagopjpfkaaDoorTie
import Derived.Test.YtomkkagopjpfkaaDoorShelf
import Derived.Test.YtomkkagopjpfkaaDoorFrame
import Derived.PinnedBridge
import Derived.Lib.LaidU8
import Derived.Deep.DeepHandedRow
namespace Go.Proofs.YtomkkagopjpfkaaDoor.tabs
open Go.ChangeShapes Go.WideShapes Go.ChangeAt Go.RowKit Go.Lib Go.Shelf
set_option maxRecDepth 100000

theorem own : ownKnob Tryd.prog.godebug = none := by kernel_rfl
theorem laidOut : laidOutB Tryd.prog = true := by kernel_rfl

theorem extra : U8Extra Tryd.prog Tryd.lays260_ren := ⟨by kernel_rfl, by kernel_rfl, by kernel_rfl, by kernel_rfl, by kernel_rfl, by kernel_rfl, by kernel_rfl⟩

abbrev laid2 : List (String × DataW Unit) := [("unicode/utf8.acceptRanges", Rows.laid_unicode_utf8_acceptRanges), ("unicode/utf8.first", Rows.laid_unicode_utf8_first)]

theorem accept_eq : Rows.laid_unicode_utf8_acceptRanges = acceptData := by kernel_rfl

theorem tabs_of {W : World} (h : laidMet Tryd.prog laid2 W) : Lib.Utf8Tabs 0 1 W := by
  have h4 : VarReads Tryd.prog W "unicode/utf8.acceptRanges" acceptData := by rw [← accept_eq]; exact Go.Lib.laidMet.reads h (by simp)
  have h3 : VarReads Tryd.prog W "unicode/utf8.first" firstData := by rw [← Pinned.utf8First_eq]; exact Go.Lib.laidMet.reads h (by simp [Rows.laid_unicode_utf8_first])
  exact utf8Tabs_of_reads Tryd.lays260 extra h3 h4

/-- a world for the witness: the settled one, the two tables holding what their initialisers lay -/
def firstCells : Array Value := (Go.Pinned.utf8FirstZ.map fun z => Value.int .u8 (z : Nat)).toArray
def acceptCells : Array Value := ((List.range 16).flatMap fun i => [Value.int .u8 (accLo i), Value.int .u8 (accHi i)]).toArray
def putCells (c : Array Value) : Obj → Obj
  | .cells _ t frozen => .cells c t frozen
  | o => o
noncomputable def laidWorld (os : Os) : World :=
  { World.holding Tryd.prog os ⟨#[], #[], []⟩ with heap := ((World.holding Tryd.prog os ⟨#[], #[], []⟩).heap.modify 0 (putCells firstCells)).modify 1 (putCells acceptCells) }
theorem laid_met (os : Os) (args : Array Value) : laidMet Tryd.prog laid2 ((laidWorld os).forCall (fun _ _ => 0) ⟨#[], args, []⟩).memory :=
  laidMet_of_run' 8 (by kernel_rfl) (by kernel_rfl)

/-! the bound on what a reading holds -/
theorem one_le {H : Type} (d : DataW H) : 1 ≤ Rows.uptoBulk d := by
  cases d with
  | lit l => cases l <;> simp [Rows.uptoBulk]
  | nil => simp [Rows.uptoBulk]
  | ptr d => simp [Rows.uptoBulk]
  | slice elems spare => simp [Rows.uptoBulk]
  | agg parts => simp [Rows.uptoBulk]
  | iface t d => simp [Rows.uptoBulk]
  | map entries => simp [Rows.uptoBulk]
  | held h => simp [Rows.uptoBulk]
theorem part_le {H : Type} {d : DataW H} : ∀ {l : List (DataW H)}, d ∈ l → Rows.uptoBulk d ≤ Rows.uptoBulkAll l
  | [], h => by cases h
  | x :: r, h => by
    simp only [Rows.uptoBulkAll]
    rcases List.mem_cons.1 h with rfl | h
    · omega
    · have := part_le h; omega
theorem length_le {H : Type} : ∀ (l : List (DataW H)), l.length ≤ Rows.uptoBulkAll l
  | [] => by simp [Rows.uptoBulkAll]
  | x :: r => by have := one_le x; have := length_le r; simp only [Rows.uptoBulkAll, List.length_cons]; omega
theorem slice_le {H : Type} (elems spare : List (DataW H)) : elems.length + spare.length + 1 ≤ Rows.uptoBulk (.slice elems spare) := by
  have h1 := length_le elems
  have h2 := length_le spare
  simp only [Rows.uptoBulk]
  omega
theorem elem_le {H : Type} {d : DataW H} {elems spare : List (DataW H)} (h : d ∈ elems) : Rows.uptoBulk d + 1 ≤ Rows.uptoBulk (.slice elems spare) := by
  have := part_le h
  simp only [Rows.uptoBulk]
  omega
theorem bound {H : Type} {l : List (DataW H)} (hk : Rows.uptoSmall H l = true) : Rows.uptoBulkAll l ≤ 1048576 := of_decide_eq_true hk
open Go.Proofs.YtomkkagopjpfkaaDoor.frame in
theorem ints_le {H : Type} {k : IntKind} {zs : List Int} {c : Nat} {d : DataW H} (h : IsInts k zs c d) : zs.length ≤ Rows.uptoBulk d := by
  rcases h with ⟨_, rfl⟩ | ⟨r, rfl, _⟩
  · simp
  · have := slice_le (lits (H := H) k zs) (lits k r)
    simp [lits] at this ⊢
    omega
end Go.Proofs.YtomkkagopjpfkaaDoor.tabs
