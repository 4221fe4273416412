/-
  NARROWER THAN 'FOR EVERY INPUT', by the rows' own cells (each row's printed sentence says how): TypesysEnds: loops.
  DERIVED. THE GIVEN ROWS OF THIS SEAT. 10 by the template 'for every input the law returns true; each argument reads behind the call as it read before'; 0 by the template 'total and deterministic' (their statements: YtbpgkkoeehopjaaGreatTotals.lean).
  GIVEN WITH THE SEED: the statements are not yours to turn. If you find one false, say at which input.
  Laid BY PROGRAM, IN A SANDBOX (cutbox-rows.mjs): the forced cells as the released guide's own fill.sh prints them over the translation c9b76c7a49205999… (all of the seat's roots in one cut). By AI agents, Wed Nov 11 2026. No macro, syntax, notation, axiom, sorry.
-/
import Derived.Test.YtbpgkkoeehopjaaGreatChecked
import GoSem.Claim
import GoSem.ClaimJoined
import GoSem.ClaimMapViews
import Derived.JoinedTies
import Derived.KernelRfl
namespace Go.Proofs.YtbpgkkoeehopjaaGreat
/- THE CELL 'sum', in the pinned program and in every row, IS THE sha256 OF THE DUMP (.gsa) THAT YtbpgkkoeehopjaaGreatProg.lean LOADS. Nothing in Lean hashes anything: it is a label: what it is worth is what the hold of that sum in a sandbox is worth. -/
noncomputable def Tryz.pinned : Pinned := { name := "ytbpgkkoeehopjaagreat", sum := "c9b76c7a49205999fdeca25cc4fe315995723fba5f5c3f76a219c4a2a3ccf7b4", checked := Tryz.checked }
namespace Rows
def none {H : Type} : Left H := { results := [], args := [] }

/-- 'pergolalaw12.TypesysBuiltIn': WHATEVER THE INPUT: true; the input reads as it did. -/
def typesysBuiltInSpec : ChangeSpec := { name := "typesysBuiltIn", fn := fun _ => fun
  | [d] => { results := [.lit (.bool true)], args := [d] }
  | _ => none }
def typesysBuiltInRow : OpenClaim := { program := "ytbpgkkoeehopjaagreat", sum := "c9b76c7a49205999fdeca25cc4fe315995723fba5f5c3f76a219c4a2a3ccf7b4", func := "pergola/pergolalaw12.TypesysBuiltIn", spec := "typesysBuiltIn", unfollowed := true, recurses := true, plainKeys := false, apart := false }
def TypesysBuiltInSaid : Prop := typesysBuiltInRow.holds Tryz.pinned (OpenSpec.ofChange typesysBuiltInSpec)

/-- ITS FALSE NEIGHBOUR: 'it returns false'. Refute it at one input. -/
def typesysBuiltInWrong : ChangeSpec := { name := "typesysBuiltIn", fn := fun _ => fun
  | [d] => { results := [.lit (.bool false)], args := [d] }
  | _ => none }
def TypesysBuiltInWrongFalsely : Prop := typesysBuiltInRow.holds Tryz.pinned (OpenSpec.ofChange typesysBuiltInWrong)

/-- 'pergolalaw12.TypesysOrders': WHATEVER THE INPUT: true; the input reads as it did. -/
def typesysOrdersSpec : ChangeSpec := { name := "typesysOrders", fn := fun _ => fun
  | [d1, d2] => { results := [.lit (.bool true)], args := [d1, d2] }
  | _ => none }
def typesysOrdersRow : OpenClaim := { program := "ytbpgkkoeehopjaagreat", sum := "c9b76c7a49205999fdeca25cc4fe315995723fba5f5c3f76a219c4a2a3ccf7b4", func := "pergola/pergolalaw12.TypesysOrders", spec := "typesysOrders", unfollowed := true, recurses := true, plainKeys := false, apart := false }
def TypesysOrdersSaid : Prop := typesysOrdersRow.holds Tryz.pinned (OpenSpec.ofChange typesysOrdersSpec)

/-- ITS FALSE NEIGHBOUR: 'it returns false'. Refute it at one input. -/
def typesysOrdersWrong : ChangeSpec := { name := "typesysOrders", fn := fun _ => fun
  | [d1, d2] => { results := [.lit (.bool false)], args := [d1, d2] }
  | _ => none }
def TypesysOrdersWrongFalsely : Prop := typesysOrdersRow.holds Tryz.pinned (OpenSpec.ofChange typesysOrdersWrong)

/-- 'pergolalaw12.TypesysObjects': WHATEVER THE INPUT: true; the input reads as it did. -/
def typesysObjectsSpec : ChangeSpec := { name := "typesysObjects", fn := fun _ => fun
  | [d1, d2] => { results := [.lit (.bool true)], args := [d1, d2] }
  | _ => none }
def typesysObjectsRow : OpenClaim := { program := "ytbpgkkoeehopjaagreat", sum := "c9b76c7a49205999fdeca25cc4fe315995723fba5f5c3f76a219c4a2a3ccf7b4", func := "pergola/pergolalaw12.TypesysObjects", spec := "typesysObjects", unfollowed := true, recurses := true, plainKeys := false, apart := false }
def TypesysObjectsSaid : Prop := typesysObjectsRow.holds Tryz.pinned (OpenSpec.ofChange typesysObjectsSpec)

/-- ITS FALSE NEIGHBOUR: 'it returns false'. Refute it at one input. -/
def typesysObjectsWrong : ChangeSpec := { name := "typesysObjects", fn := fun _ => fun
  | [d1, d2] => { results := [.lit (.bool false)], args := [d1, d2] }
  | _ => none }
def TypesysObjectsWrongFalsely : Prop := typesysObjectsRow.holds Tryz.pinned (OpenSpec.ofChange typesysObjectsWrong)

/-- 'pergolalaw12.TypesysStands': WHATEVER THE INPUT: true; the input reads as it did. -/
def typesysStandsSpec : ChangeSpec := { name := "typesysStands", fn := fun _ => fun
  | [d1, d2, d3] => { results := [.lit (.bool true)], args := [d1, d2, d3] }
  | _ => none }
def typesysStandsRow : OpenClaim := { program := "ytbpgkkoeehopjaagreat", sum := "c9b76c7a49205999fdeca25cc4fe315995723fba5f5c3f76a219c4a2a3ccf7b4", func := "pergola/pergolalaw12.TypesysStands", spec := "typesysStands", unfollowed := true, recurses := true, plainKeys := false, apart := false }
def TypesysStandsSaid : Prop := typesysStandsRow.holds Tryz.pinned (OpenSpec.ofChange typesysStandsSpec)

/-- ITS FALSE NEIGHBOUR: 'it returns false'. Refute it at one input. -/
def typesysStandsWrong : ChangeSpec := { name := "typesysStands", fn := fun _ => fun
  | [d1, d2, d3] => { results := [.lit (.bool false)], args := [d1, d2, d3] }
  | _ => none }
def TypesysStandsWrongFalsely : Prop := typesysStandsRow.holds Tryz.pinned (OpenSpec.ofChange typesysStandsWrong)

/-- 'pergolalaw12.TypesysTypes': WHATEVER THE INPUT: true; the input reads as it did. -/
def typesysTypesSpec : ChangeSpec := { name := "typesysTypes", fn := fun _ => fun
  | [d1, d2] => { results := [.lit (.bool true)], args := [d1, d2] }
  | _ => none }
def typesysTypesRow : OpenClaim := { program := "ytbpgkkoeehopjaagreat", sum := "c9b76c7a49205999fdeca25cc4fe315995723fba5f5c3f76a219c4a2a3ccf7b4", func := "pergola/pergolalaw12.TypesysTypes", spec := "typesysTypes", unfollowed := true, recurses := true, plainKeys := false, apart := false }
def TypesysTypesSaid : Prop := typesysTypesRow.holds Tryz.pinned (OpenSpec.ofChange typesysTypesSpec)

/-- ITS FALSE NEIGHBOUR: 'it returns false'. Refute it at one input. -/
def typesysTypesWrong : ChangeSpec := { name := "typesysTypes", fn := fun _ => fun
  | [d1, d2] => { results := [.lit (.bool false)], args := [d1, d2] }
  | _ => none }
def TypesysTypesWrongFalsely : Prop := typesysTypesRow.holds Tryz.pinned (OpenSpec.ofChange typesysTypesWrong)

/-- 'pergolalaw12.TypesysFields': WHATEVER THE INPUT: true; the input reads as it did. -/
def typesysFieldsSpec : ChangeSpec := { name := "typesysFields", fn := fun _ => fun
  | [d1, d2, d3] => { results := [.lit (.bool true)], args := [d1, d2, d3] }
  | _ => none }
def typesysFieldsRow : OpenClaim := { program := "ytbpgkkoeehopjaagreat", sum := "c9b76c7a49205999fdeca25cc4fe315995723fba5f5c3f76a219c4a2a3ccf7b4", func := "pergola/pergolalaw12.TypesysFields", spec := "typesysFields", unfollowed := true, recurses := true, plainKeys := false, apart := false }
def TypesysFieldsSaid : Prop := typesysFieldsRow.holds Tryz.pinned (OpenSpec.ofChange typesysFieldsSpec)

/-- ITS FALSE NEIGHBOUR: 'it returns false'. Refute it at one input. -/
def typesysFieldsWrong : ChangeSpec := { name := "typesysFields", fn := fun _ => fun
  | [d1, d2, d3] => { results := [.lit (.bool false)], args := [d1, d2, d3] }
  | _ => none }
def TypesysFieldsWrongFalsely : Prop := typesysFieldsRow.holds Tryz.pinned (OpenSpec.ofChange typesysFieldsWrong)

/-- 'pergolalaw12.TypesysGrows': WHATEVER THE INPUT: true; the input reads as it did. -/
def typesysGrowsSpec : ChangeSpec := { name := "typesysGrows", fn := fun _ => fun
  | [d1, d2, d3] => { results := [.lit (.bool true)], args := [d1, d2, d3] }
  | _ => none }
def typesysGrowsRow : OpenClaim := { program := "ytbpgkkoeehopjaagreat", sum := "c9b76c7a49205999fdeca25cc4fe315995723fba5f5c3f76a219c4a2a3ccf7b4", func := "pergola/pergolalaw12.TypesysGrows", spec := "typesysGrows", unfollowed := true, recurses := true, plainKeys := false, apart := false }
def TypesysGrowsSaid : Prop := typesysGrowsRow.holds Tryz.pinned (OpenSpec.ofChange typesysGrowsSpec)

/-- ITS FALSE NEIGHBOUR: 'it returns false'. Refute it at one input. -/
def typesysGrowsWrong : ChangeSpec := { name := "typesysGrows", fn := fun _ => fun
  | [d1, d2, d3] => { results := [.lit (.bool false)], args := [d1, d2, d3] }
  | _ => none }
def TypesysGrowsWrongFalsely : Prop := typesysGrowsRow.holds Tryz.pinned (OpenSpec.ofChange typesysGrowsWrong)

/-- 'pergolalaw12.TypesysMarks': WHATEVER THE INPUT: true; the input reads as it did. -/
def typesysMarksSpec : ChangeSpec := { name := "typesysMarks", fn := fun _ => fun
  | [d1, d2, d3, d4, d5] => { results := [.lit (.bool true)], args := [d1, d2, d3, d4, d5] }
  | _ => none }
def typesysMarksRow : OpenClaim := { program := "ytbpgkkoeehopjaagreat", sum := "c9b76c7a49205999fdeca25cc4fe315995723fba5f5c3f76a219c4a2a3ccf7b4", func := "pergola/pergolalaw12.TypesysMarks", spec := "typesysMarks", unfollowed := true, recurses := true, plainKeys := false, apart := false }
def TypesysMarksSaid : Prop := typesysMarksRow.holds Tryz.pinned (OpenSpec.ofChange typesysMarksSpec)

/-- ITS FALSE NEIGHBOUR: 'it returns false'. Refute it at one input. -/
def typesysMarksWrong : ChangeSpec := { name := "typesysMarks", fn := fun _ => fun
  | [d1, d2, d3, d4, d5] => { results := [.lit (.bool false)], args := [d1, d2, d3, d4, d5] }
  | _ => none }
def TypesysMarksWrongFalsely : Prop := typesysMarksRow.holds Tryz.pinned (OpenSpec.ofChange typesysMarksWrong)

/-- 'pergolalaw12.TypesysFresh': WHATEVER THE INPUT: true; the input reads as it did. -/
def typesysFreshSpec : ChangeSpec := { name := "typesysFresh", fn := fun _ => fun
  | [d] => { results := [.lit (.bool true)], args := [d] }
  | _ => none }
def typesysFreshRow : OpenClaim := { program := "ytbpgkkoeehopjaagreat", sum := "c9b76c7a49205999fdeca25cc4fe315995723fba5f5c3f76a219c4a2a3ccf7b4", func := "pergola/pergolalaw12.TypesysFresh", spec := "typesysFresh", unfollowed := true, recurses := true, plainKeys := false, apart := false }
def TypesysFreshSaid : Prop := typesysFreshRow.holds Tryz.pinned (OpenSpec.ofChange typesysFreshSpec)

/-- ITS FALSE NEIGHBOUR: 'it returns false'. Refute it at one input. -/
def typesysFreshWrong : ChangeSpec := { name := "typesysFresh", fn := fun _ => fun
  | [d] => { results := [.lit (.bool false)], args := [d] }
  | _ => none }
def TypesysFreshWrongFalsely : Prop := typesysFreshRow.holds Tryz.pinned (OpenSpec.ofChange typesysFreshWrong)

/-- 'pergolalaw12.TypesysEnds': WHATEVER THE INPUT: true; the input reads as it did. -/
def typesysEndsSpec : ChangeSpec := { name := "typesysEnds", fn := fun _ => fun
  | [d1, d2, d3, d4, d5] => { results := [.lit (.bool true)], args := [d1, d2, d3, d4, d5] }
  | _ => none }
def typesysEndsRow : OpenClaim := { program := "ytbpgkkoeehopjaagreat", sum := "c9b76c7a49205999fdeca25cc4fe315995723fba5f5c3f76a219c4a2a3ccf7b4", func := "pergola/pergolalaw12.TypesysEnds", spec := "typesysEnds", unfollowed := true, recurses := true, loops := true, plainKeys := false, apart := false }
def TypesysEndsSaid : Prop := typesysEndsRow.holds Tryz.pinned (OpenSpec.ofChange typesysEndsSpec)

/-- ITS FALSE NEIGHBOUR: 'it returns false'. Refute it at one input. -/
def typesysEndsWrong : ChangeSpec := { name := "typesysEnds", fn := fun _ => fun
  | [d1, d2, d3, d4, d5] => { results := [.lit (.bool false)], args := [d1, d2, d3, d4, d5] }
  | _ => none }
def TypesysEndsWrongFalsely : Prop := typesysEndsRow.holds Tryz.pinned (OpenSpec.ofChange typesysEndsWrong)

/- THE SECOND FORM. 'bulk': how many values and letters a reading holds, each counted each time it is reached (what is shared counts as often as it is met; a slice's spare places count too). A statement '..UptoSaid' is the law's where the arguments, and the package variables that the reading takes, are together of bulk at most 1048576: NARROWER than '..Said'. Prove '..Said' where nothing that the law and all that it calls make is longer than what came in: it says more and counts as full. Else prove '..UptoSaid'. A law counts once. -/
mutual
def uptoBulk {H : Type} : DataW H → Nat
  | .lit (.string bytes) => bytes.length + 1
  | .lit _ => 1
  | .nil => 1
  | .ptr d => uptoBulk d + 1
  | .slice elems spare => uptoBulkAll elems + uptoBulkAll spare + 1
  | .agg parts => uptoBulkAll parts + 1
  | .iface _ d => uptoBulk d + 1
  | .map entries => uptoBulkEntries entries + 1
  | .held _ => 1
def uptoBulkAll {H : Type} : List (DataW H) → Nat
  | [] => 0
  | d :: r => uptoBulk d + uptoBulkAll r
def uptoBulkEntries {H : Type} : List (Lit × DataW H) → Nat
  | [] => 0
  | x :: r => uptoBulkEntry x + uptoBulkEntries r
def uptoBulkEntry {H : Type} : Lit × DataW H → Nat
  | (.string bytes, d) => bytes.length + uptoBulk d + 1
  | (_, d) => uptoBulk d + 1
 end
def uptoSmall : (H : Type) → List (DataW H) → Bool := fun _ ds => decide (uptoBulkAll ds ≤ 1048576)
def OpenSpec.upto (s : _root_.Go.ChangeSpec) : _root_.Go.OpenSpec := { _root_.Go.OpenSpec.ofChange s with cond := some uptoSmall }

/-- 'pergolalaw12.TypesysBuiltIn', WHERE WHAT IT READS IS OF BULK AT MOST 1048576: true; the input reads as it did. -/
def typesysBuiltInUptoRow : OpenClaim := { program := "ytbpgkkoeehopjaagreat", sum := "c9b76c7a49205999fdeca25cc4fe315995723fba5f5c3f76a219c4a2a3ccf7b4", func := "pergola/pergolalaw12.TypesysBuiltIn", spec := "typesysBuiltIn", unfollowed := true, recurses := true, plainKeys := false, apart := false, narrowed := true }
def TypesysBuiltInUptoSaid : Prop := typesysBuiltInUptoRow.holds Tryz.pinned (OpenSpec.upto typesysBuiltInSpec)

/-- 'pergolalaw12.TypesysOrders', WHERE WHAT IT READS IS OF BULK AT MOST 1048576: true; the input reads as it did. -/
def typesysOrdersUptoRow : OpenClaim := { program := "ytbpgkkoeehopjaagreat", sum := "c9b76c7a49205999fdeca25cc4fe315995723fba5f5c3f76a219c4a2a3ccf7b4", func := "pergola/pergolalaw12.TypesysOrders", spec := "typesysOrders", unfollowed := true, recurses := true, plainKeys := false, apart := false, narrowed := true }
def TypesysOrdersUptoSaid : Prop := typesysOrdersUptoRow.holds Tryz.pinned (OpenSpec.upto typesysOrdersSpec)

/-- 'pergolalaw12.TypesysObjects', WHERE WHAT IT READS IS OF BULK AT MOST 1048576: true; the input reads as it did. -/
def typesysObjectsUptoRow : OpenClaim := { program := "ytbpgkkoeehopjaagreat", sum := "c9b76c7a49205999fdeca25cc4fe315995723fba5f5c3f76a219c4a2a3ccf7b4", func := "pergola/pergolalaw12.TypesysObjects", spec := "typesysObjects", unfollowed := true, recurses := true, plainKeys := false, apart := false, narrowed := true }
def TypesysObjectsUptoSaid : Prop := typesysObjectsUptoRow.holds Tryz.pinned (OpenSpec.upto typesysObjectsSpec)

/-- 'pergolalaw12.TypesysStands', WHERE WHAT IT READS IS OF BULK AT MOST 1048576: true; the input reads as it did. -/
def typesysStandsUptoRow : OpenClaim := { program := "ytbpgkkoeehopjaagreat", sum := "c9b76c7a49205999fdeca25cc4fe315995723fba5f5c3f76a219c4a2a3ccf7b4", func := "pergola/pergolalaw12.TypesysStands", spec := "typesysStands", unfollowed := true, recurses := true, plainKeys := false, apart := false, narrowed := true }
def TypesysStandsUptoSaid : Prop := typesysStandsUptoRow.holds Tryz.pinned (OpenSpec.upto typesysStandsSpec)

/-- 'pergolalaw12.TypesysTypes', WHERE WHAT IT READS IS OF BULK AT MOST 1048576: true; the input reads as it did. -/
def typesysTypesUptoRow : OpenClaim := { program := "ytbpgkkoeehopjaagreat", sum := "c9b76c7a49205999fdeca25cc4fe315995723fba5f5c3f76a219c4a2a3ccf7b4", func := "pergola/pergolalaw12.TypesysTypes", spec := "typesysTypes", unfollowed := true, recurses := true, plainKeys := false, apart := false, narrowed := true }
def TypesysTypesUptoSaid : Prop := typesysTypesUptoRow.holds Tryz.pinned (OpenSpec.upto typesysTypesSpec)

/-- 'pergolalaw12.TypesysFields', WHERE WHAT IT READS IS OF BULK AT MOST 1048576: true; the input reads as it did. -/
def typesysFieldsUptoRow : OpenClaim := { program := "ytbpgkkoeehopjaagreat", sum := "c9b76c7a49205999fdeca25cc4fe315995723fba5f5c3f76a219c4a2a3ccf7b4", func := "pergola/pergolalaw12.TypesysFields", spec := "typesysFields", unfollowed := true, recurses := true, plainKeys := false, apart := false, narrowed := true }
def TypesysFieldsUptoSaid : Prop := typesysFieldsUptoRow.holds Tryz.pinned (OpenSpec.upto typesysFieldsSpec)

/-- 'pergolalaw12.TypesysGrows', WHERE WHAT IT READS IS OF BULK AT MOST 1048576: true; the input reads as it did. -/
def typesysGrowsUptoRow : OpenClaim := { program := "ytbpgkkoeehopjaagreat", sum := "c9b76c7a49205999fdeca25cc4fe315995723fba5f5c3f76a219c4a2a3ccf7b4", func := "pergola/pergolalaw12.TypesysGrows", spec := "typesysGrows", unfollowed := true, recurses := true, plainKeys := false, apart := false, narrowed := true }
def TypesysGrowsUptoSaid : Prop := typesysGrowsUptoRow.holds Tryz.pinned (OpenSpec.upto typesysGrowsSpec)

/-- 'pergolalaw12.TypesysMarks', WHERE WHAT IT READS IS OF BULK AT MOST 1048576: true; the input reads as it did. -/
def typesysMarksUptoRow : OpenClaim := { program := "ytbpgkkoeehopjaagreat", sum := "c9b76c7a49205999fdeca25cc4fe315995723fba5f5c3f76a219c4a2a3ccf7b4", func := "pergola/pergolalaw12.TypesysMarks", spec := "typesysMarks", unfollowed := true, recurses := true, plainKeys := false, apart := false, narrowed := true }
def TypesysMarksUptoSaid : Prop := typesysMarksUptoRow.holds Tryz.pinned (OpenSpec.upto typesysMarksSpec)

/-- 'pergolalaw12.TypesysFresh', WHERE WHAT IT READS IS OF BULK AT MOST 1048576: true; the input reads as it did. -/
def typesysFreshUptoRow : OpenClaim := { program := "ytbpgkkoeehopjaagreat", sum := "c9b76c7a49205999fdeca25cc4fe315995723fba5f5c3f76a219c4a2a3ccf7b4", func := "pergola/pergolalaw12.TypesysFresh", spec := "typesysFresh", unfollowed := true, recurses := true, plainKeys := false, apart := false, narrowed := true }
def TypesysFreshUptoSaid : Prop := typesysFreshUptoRow.holds Tryz.pinned (OpenSpec.upto typesysFreshSpec)

/-- 'pergolalaw12.TypesysEnds', WHERE WHAT IT READS IS OF BULK AT MOST 1048576: true; the input reads as it did. -/
def typesysEndsUptoRow : OpenClaim := { program := "ytbpgkkoeehopjaagreat", sum := "c9b76c7a49205999fdeca25cc4fe315995723fba5f5c3f76a219c4a2a3ccf7b4", func := "pergola/pergolalaw12.TypesysEnds", spec := "typesysEnds", unfollowed := true, recurses := true, loops := true, plainKeys := false, apart := false, narrowed := true }
def TypesysEndsUptoSaid : Prop := typesysEndsUptoRow.holds Tryz.pinned (OpenSpec.upto typesysEndsSpec)

end Rows
end Go.Proofs.YtbpgkkoeehopjaaGreat
