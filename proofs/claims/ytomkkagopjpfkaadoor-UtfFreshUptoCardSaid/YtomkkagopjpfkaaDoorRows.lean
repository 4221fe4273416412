/-
  NARROWER THAN 'FOR EVERY INPUT', by the rows' own cells (each row's printed sentence says how): UtfDecodes: laid · UtfLines: laid · UtfBack: laid · UtfThere: laid · UtfJoined: laid · UtfSplices: laid · UtfKeeps: laid · UtfFresh: laid · UtfPlaces: laid · UtfGrid: laid · UtfSpots: laid.
  DERIVED. THE GIVEN ROWS OF THIS SEAT. 11 by the template 'for every input the law returns true; each argument reads behind the call as it read before'; 0 by the template 'total and deterministic' (their statements: YtomkkagopjpfkaaDoorTotals.lean).
  GIVEN WITH THE SEED: the statements are not yours to turn. If you find one false, say at which input.
  Laid BY PROGRAM, IN A SANDBOX (cutbox-rows.mjs): the forced cells as the released guide's own fill.sh prints them over the translation 88549b6262a468dd… (all of the seat's roots in one cut). By AI agents, Wed Nov 11 2026. No macro, syntax, notation, axiom, sorry.
-/
import Derived.Test.YtomkkagopjpfkaaDoorChecked
import GoSem.PinnedTables
import GoSem.Claim
import GoSem.ClaimJoined
import GoSem.ClaimMapViews
import Derived.JoinedTies
import Derived.KernelRfl
namespace Go.Proofs.YtomkkagopjpfkaaDoor
/- THE CELL 'sum', in the pinned program and in every row, IS THE sha256 OF THE DUMP (.gsa) THAT YtomkkagopjpfkaaDoorProg.lean LOADS. Nothing in Lean hashes anything: it is a label: what it is worth is what the hold of that sum in a sandbox is worth. -/
noncomputable def Tryd.pinned : Pinned := { name := "ytomkkagopjpfkaadoor", sum := "88549b6262a468ddfaec7b3929d499b916bdb0d226c7acb8c0d0757e2006ff72", checked := Tryd.checked }
namespace Rows
def none {H : Type} : Left H := { results := [], args := [] }

/- WHAT THE LISTED PACKAGE-LEVEL VARIABLES READ AS WHEN THE CALL BEGINS. Each datum BY PROGRAM (the guide's laid-datum.mjs) off the statement by which the dump's own 'gosem.cut.vars' lays the variable. In a bare row this is a premise. The card (YtomkkagopjpfkaaDoorCards.lean) ties it to the program's text. -/
def laid_unicode_utf8_acceptRanges {H : Type} : DataW H := .agg [.agg [.lit (.int .u8 128), .lit (.int .u8 191)], .agg [.lit (.int .u8 160), .lit (.int .u8 191)], .agg [.lit (.int .u8 128), .lit (.int .u8 159)], .agg [.lit (.int .u8 144), .lit (.int .u8 191)], .agg [.lit (.int .u8 128), .lit (.int .u8 143)], .agg [.lit (.int .u8 0), .lit (.int .u8 0)], .agg [.lit (.int .u8 0), .lit (.int .u8 0)], .agg [.lit (.int .u8 0), .lit (.int .u8 0)], .agg [.lit (.int .u8 0), .lit (.int .u8 0)], .agg [.lit (.int .u8 0), .lit (.int .u8 0)], .agg [.lit (.int .u8 0), .lit (.int .u8 0)], .agg [.lit (.int .u8 0), .lit (.int .u8 0)], .agg [.lit (.int .u8 0), .lit (.int .u8 0)], .agg [.lit (.int .u8 0), .lit (.int .u8 0)], .agg [.lit (.int .u8 0), .lit (.int .u8 0)], .agg [.lit (.int .u8 0), .lit (.int .u8 0)]]
/-- One of Go's own tables, pinned by name: the form's constant. -/
def laid_unicode_utf8_first : DataW Unit := Go.Pinned.utf8First

/-- 'pergolalaw01.UtfDecodes': WHATEVER THE INPUT: true; the input reads as it did. -/
def utfDecodesSpec : ChangeSpec := { name := "utfDecodes", fn := fun _ => fun
  | [d] => { results := [.lit (.bool true)], args := [d] }
  | _ => none }
def utfDecodesRow : OpenClaim := { program := "ytomkkagopjpfkaadoor", sum := "88549b6262a468ddfaec7b3929d499b916bdb0d226c7acb8c0d0757e2006ff72", func := "pergola/pergolalaw01.UtfDecodes", spec := "utfDecodes", named := ["unicode/utf8.first", "unicode/utf8.acceptRanges"], apart := false, laid := [("unicode/utf8.acceptRanges", laid_unicode_utf8_acceptRanges), ("unicode/utf8.first", laid_unicode_utf8_first)] }
def UtfDecodesSaid : Prop := utfDecodesRow.holds Tryd.pinned (OpenSpec.ofChange utfDecodesSpec)

/-- ITS FALSE NEIGHBOUR: 'it returns false'. Refute it at one input. -/
def utfDecodesWrong : ChangeSpec := { name := "utfDecodes", fn := fun _ => fun
  | [d] => { results := [.lit (.bool false)], args := [d] }
  | _ => none }
def UtfDecodesWrongFalsely : Prop := utfDecodesRow.holds Tryd.pinned (OpenSpec.ofChange utfDecodesWrong)

/-- 'pergolalaw01.UtfLines': WHATEVER THE INPUT: true; the input reads as it did. -/
def utfLinesSpec : ChangeSpec := { name := "utfLines", fn := fun _ => fun
  | [d] => { results := [.lit (.bool true)], args := [d] }
  | _ => none }
def utfLinesRow : OpenClaim := { program := "ytomkkagopjpfkaadoor", sum := "88549b6262a468ddfaec7b3929d499b916bdb0d226c7acb8c0d0757e2006ff72", func := "pergola/pergolalaw01.UtfLines", spec := "utfLines", named := ["unicode/utf8.first", "unicode/utf8.acceptRanges"], apart := false, laid := [("unicode/utf8.acceptRanges", laid_unicode_utf8_acceptRanges), ("unicode/utf8.first", laid_unicode_utf8_first)] }
def UtfLinesSaid : Prop := utfLinesRow.holds Tryd.pinned (OpenSpec.ofChange utfLinesSpec)

/-- ITS FALSE NEIGHBOUR: 'it returns false'. Refute it at one input. -/
def utfLinesWrong : ChangeSpec := { name := "utfLines", fn := fun _ => fun
  | [d] => { results := [.lit (.bool false)], args := [d] }
  | _ => none }
def UtfLinesWrongFalsely : Prop := utfLinesRow.holds Tryd.pinned (OpenSpec.ofChange utfLinesWrong)

/-- 'pergolalaw01.UtfBack': WHATEVER THE INPUT: true; the input reads as it did. -/
def utfBackSpec : ChangeSpec := { name := "utfBack", fn := fun _ => fun
  | [d] => { results := [.lit (.bool true)], args := [d] }
  | _ => none }
def utfBackRow : OpenClaim := { program := "ytomkkagopjpfkaadoor", sum := "88549b6262a468ddfaec7b3929d499b916bdb0d226c7acb8c0d0757e2006ff72", func := "pergola/pergolalaw01.UtfBack", spec := "utfBack", named := ["unicode/utf8.first", "unicode/utf8.acceptRanges"], apart := false, laid := [("unicode/utf8.acceptRanges", laid_unicode_utf8_acceptRanges), ("unicode/utf8.first", laid_unicode_utf8_first)] }
def UtfBackSaid : Prop := utfBackRow.holds Tryd.pinned (OpenSpec.ofChange utfBackSpec)

/-- ITS FALSE NEIGHBOUR: 'it returns false'. Refute it at one input. -/
def utfBackWrong : ChangeSpec := { name := "utfBack", fn := fun _ => fun
  | [d] => { results := [.lit (.bool false)], args := [d] }
  | _ => none }
def UtfBackWrongFalsely : Prop := utfBackRow.holds Tryd.pinned (OpenSpec.ofChange utfBackWrong)

/-- 'pergolalaw01.UtfThere': WHATEVER THE INPUT: true; the input reads as it did. -/
def utfThereSpec : ChangeSpec := { name := "utfThere", fn := fun _ => fun
  | [d] => { results := [.lit (.bool true)], args := [d] }
  | _ => none }
def utfThereRow : OpenClaim := { program := "ytomkkagopjpfkaadoor", sum := "88549b6262a468ddfaec7b3929d499b916bdb0d226c7acb8c0d0757e2006ff72", func := "pergola/pergolalaw01.UtfThere", spec := "utfThere", named := ["unicode/utf8.first", "unicode/utf8.acceptRanges"], apart := false, laid := [("unicode/utf8.acceptRanges", laid_unicode_utf8_acceptRanges), ("unicode/utf8.first", laid_unicode_utf8_first)] }
def UtfThereSaid : Prop := utfThereRow.holds Tryd.pinned (OpenSpec.ofChange utfThereSpec)

/-- ITS FALSE NEIGHBOUR: 'it returns false'. Refute it at one input. -/
def utfThereWrong : ChangeSpec := { name := "utfThere", fn := fun _ => fun
  | [d] => { results := [.lit (.bool false)], args := [d] }
  | _ => none }
def UtfThereWrongFalsely : Prop := utfThereRow.holds Tryd.pinned (OpenSpec.ofChange utfThereWrong)

/-- 'pergolalaw01.UtfJoined': WHATEVER THE INPUT: true; the input reads as it did. -/
def utfJoinedSpec : ChangeSpec := { name := "utfJoined", fn := fun _ => fun
  | [d1, d2] => { results := [.lit (.bool true)], args := [d1, d2] }
  | _ => none }
def utfJoinedRow : OpenClaim := { program := "ytomkkagopjpfkaadoor", sum := "88549b6262a468ddfaec7b3929d499b916bdb0d226c7acb8c0d0757e2006ff72", func := "pergola/pergolalaw01.UtfJoined", spec := "utfJoined", named := ["unicode/utf8.first", "unicode/utf8.acceptRanges"], apart := false, laid := [("unicode/utf8.acceptRanges", laid_unicode_utf8_acceptRanges), ("unicode/utf8.first", laid_unicode_utf8_first)] }
def UtfJoinedSaid : Prop := utfJoinedRow.holds Tryd.pinned (OpenSpec.ofChange utfJoinedSpec)

/-- ITS FALSE NEIGHBOUR: 'it returns false'. Refute it at one input. -/
def utfJoinedWrong : ChangeSpec := { name := "utfJoined", fn := fun _ => fun
  | [d1, d2] => { results := [.lit (.bool false)], args := [d1, d2] }
  | _ => none }
def UtfJoinedWrongFalsely : Prop := utfJoinedRow.holds Tryd.pinned (OpenSpec.ofChange utfJoinedWrong)

/-- 'pergolalaw01.UtfSplices': WHATEVER THE INPUT: true; the input reads as it did. -/
def utfSplicesSpec : ChangeSpec := { name := "utfSplices", fn := fun _ => fun
  | [d1, d2] => { results := [.lit (.bool true)], args := [d1, d2] }
  | _ => none }
def utfSplicesRow : OpenClaim := { program := "ytomkkagopjpfkaadoor", sum := "88549b6262a468ddfaec7b3929d499b916bdb0d226c7acb8c0d0757e2006ff72", func := "pergola/pergolalaw01.UtfSplices", spec := "utfSplices", named := ["unicode/utf8.first", "unicode/utf8.acceptRanges"], apart := false, laid := [("unicode/utf8.acceptRanges", laid_unicode_utf8_acceptRanges), ("unicode/utf8.first", laid_unicode_utf8_first)] }
def UtfSplicesSaid : Prop := utfSplicesRow.holds Tryd.pinned (OpenSpec.ofChange utfSplicesSpec)

/-- ITS FALSE NEIGHBOUR: 'it returns false'. Refute it at one input. -/
def utfSplicesWrong : ChangeSpec := { name := "utfSplices", fn := fun _ => fun
  | [d1, d2] => { results := [.lit (.bool false)], args := [d1, d2] }
  | _ => none }
def UtfSplicesWrongFalsely : Prop := utfSplicesRow.holds Tryd.pinned (OpenSpec.ofChange utfSplicesWrong)

/-- 'pergolalaw01.UtfKeeps': WHATEVER THE INPUT: true; the input reads as it did. -/
def utfKeepsSpec : ChangeSpec := { name := "utfKeeps", fn := fun _ => fun
  | [d1, d2] => { results := [.lit (.bool true)], args := [d1, d2] }
  | _ => none }
def utfKeepsRow : OpenClaim := { program := "ytomkkagopjpfkaadoor", sum := "88549b6262a468ddfaec7b3929d499b916bdb0d226c7acb8c0d0757e2006ff72", func := "pergola/pergolalaw01.UtfKeeps", spec := "utfKeeps", named := ["unicode/utf8.first", "unicode/utf8.acceptRanges"], apart := false, laid := [("unicode/utf8.acceptRanges", laid_unicode_utf8_acceptRanges), ("unicode/utf8.first", laid_unicode_utf8_first)] }
def UtfKeepsSaid : Prop := utfKeepsRow.holds Tryd.pinned (OpenSpec.ofChange utfKeepsSpec)

/-- ITS FALSE NEIGHBOUR: 'it returns false'. Refute it at one input. -/
def utfKeepsWrong : ChangeSpec := { name := "utfKeeps", fn := fun _ => fun
  | [d1, d2] => { results := [.lit (.bool false)], args := [d1, d2] }
  | _ => none }
def UtfKeepsWrongFalsely : Prop := utfKeepsRow.holds Tryd.pinned (OpenSpec.ofChange utfKeepsWrong)

/-- 'pergolalaw01.UtfFresh': WHATEVER THE INPUT: true; the input reads as it did. -/
def utfFreshSpec : ChangeSpec := { name := "utfFresh", fn := fun _ => fun
  | [d1, d2] => { results := [.lit (.bool true)], args := [d1, d2] }
  | _ => none }
def utfFreshRow : OpenClaim := { program := "ytomkkagopjpfkaadoor", sum := "88549b6262a468ddfaec7b3929d499b916bdb0d226c7acb8c0d0757e2006ff72", func := "pergola/pergolalaw01.UtfFresh", spec := "utfFresh", named := ["unicode/utf8.first", "unicode/utf8.acceptRanges"], apart := false, laid := [("unicode/utf8.acceptRanges", laid_unicode_utf8_acceptRanges), ("unicode/utf8.first", laid_unicode_utf8_first)] }
def UtfFreshSaid : Prop := utfFreshRow.holds Tryd.pinned (OpenSpec.ofChange utfFreshSpec)

/-- ITS FALSE NEIGHBOUR: 'it returns false'. Refute it at one input. -/
def utfFreshWrong : ChangeSpec := { name := "utfFresh", fn := fun _ => fun
  | [d1, d2] => { results := [.lit (.bool false)], args := [d1, d2] }
  | _ => none }
def UtfFreshWrongFalsely : Prop := utfFreshRow.holds Tryd.pinned (OpenSpec.ofChange utfFreshWrong)

/-- 'pergolalaw01.UtfPlaces': WHATEVER THE INPUT: true; the input reads as it did. -/
def utfPlacesSpec : ChangeSpec := { name := "utfPlaces", fn := fun _ => fun
  | [d1, d2] => { results := [.lit (.bool true)], args := [d1, d2] }
  | _ => none }
def utfPlacesRow : OpenClaim := { program := "ytomkkagopjpfkaadoor", sum := "88549b6262a468ddfaec7b3929d499b916bdb0d226c7acb8c0d0757e2006ff72", func := "pergola/pergolalaw01.UtfPlaces", spec := "utfPlaces", named := ["unicode/utf8.first", "unicode/utf8.acceptRanges"], apart := false, laid := [("unicode/utf8.acceptRanges", laid_unicode_utf8_acceptRanges), ("unicode/utf8.first", laid_unicode_utf8_first)] }
def UtfPlacesSaid : Prop := utfPlacesRow.holds Tryd.pinned (OpenSpec.ofChange utfPlacesSpec)

/-- ITS FALSE NEIGHBOUR: 'it returns false'. Refute it at one input. -/
def utfPlacesWrong : ChangeSpec := { name := "utfPlaces", fn := fun _ => fun
  | [d1, d2] => { results := [.lit (.bool false)], args := [d1, d2] }
  | _ => none }
def UtfPlacesWrongFalsely : Prop := utfPlacesRow.holds Tryd.pinned (OpenSpec.ofChange utfPlacesWrong)

/-- 'pergolalaw01.UtfGrid': WHATEVER THE INPUT: true; the input reads as it did. -/
def utfGridSpec : ChangeSpec := { name := "utfGrid", fn := fun _ => fun
  | [d] => { results := [.lit (.bool true)], args := [d] }
  | _ => none }
def utfGridRow : OpenClaim := { program := "ytomkkagopjpfkaadoor", sum := "88549b6262a468ddfaec7b3929d499b916bdb0d226c7acb8c0d0757e2006ff72", func := "pergola/pergolalaw01.UtfGrid", spec := "utfGrid", named := ["unicode/utf8.first", "unicode/utf8.acceptRanges"], apart := false, laid := [("unicode/utf8.acceptRanges", laid_unicode_utf8_acceptRanges), ("unicode/utf8.first", laid_unicode_utf8_first)] }
def UtfGridSaid : Prop := utfGridRow.holds Tryd.pinned (OpenSpec.ofChange utfGridSpec)

/-- ITS FALSE NEIGHBOUR: 'it returns false'. Refute it at one input. -/
def utfGridWrong : ChangeSpec := { name := "utfGrid", fn := fun _ => fun
  | [d] => { results := [.lit (.bool false)], args := [d] }
  | _ => none }
def UtfGridWrongFalsely : Prop := utfGridRow.holds Tryd.pinned (OpenSpec.ofChange utfGridWrong)

/-- 'pergolalaw01.UtfSpots': WHATEVER THE INPUT: true; the input reads as it did. -/
def utfSpotsSpec : ChangeSpec := { name := "utfSpots", fn := fun _ => fun
  | [d1, d2] => { results := [.lit (.bool true)], args := [d1, d2] }
  | _ => none }
def utfSpotsRow : OpenClaim := { program := "ytomkkagopjpfkaadoor", sum := "88549b6262a468ddfaec7b3929d499b916bdb0d226c7acb8c0d0757e2006ff72", func := "pergola/pergolalaw01.UtfSpots", spec := "utfSpots", named := ["unicode/utf8.first", "unicode/utf8.acceptRanges"], apart := false, laid := [("unicode/utf8.acceptRanges", laid_unicode_utf8_acceptRanges), ("unicode/utf8.first", laid_unicode_utf8_first)] }
def UtfSpotsSaid : Prop := utfSpotsRow.holds Tryd.pinned (OpenSpec.ofChange utfSpotsSpec)

/-- ITS FALSE NEIGHBOUR: 'it returns false'. Refute it at one input. -/
def utfSpotsWrong : ChangeSpec := { name := "utfSpots", fn := fun _ => fun
  | [d1, d2] => { results := [.lit (.bool false)], args := [d1, d2] }
  | _ => none }
def UtfSpotsWrongFalsely : Prop := utfSpotsRow.holds Tryd.pinned (OpenSpec.ofChange utfSpotsWrong)

/- THE SECOND FORM. 'bulk': how many values and letters a reading holds, each counted each time it is reached (what is shared counts as often as it is met; a slice's spare places count too). A statement '..UptoSaid' is the law's where the arguments, and the package variables that the reading takes, are together of bulk at most 1048576: NARROWER than '..Said'. Prove '..Said' where nothing that the law and all that it calls make is longer than what came in: it says more and counts as full. Else prove '..UptoSaid'. A law counts once. -/
mutual
def uptoBulk {H : Type} : DataW H → Nat
  | .lit (.string bytes) => bytes.length + 1
  | .lit _ => 1
  | .nil => 1
  | .ptr d => uptoBulk d + 1
  | .slice elems spare => uptoBulkAll elems + uptoBulkAll spare + 1
  | .agg parts => uptoBulkAll parts + 1
  | .iface _ d => uptoBulk d + 1
  | .map entries => uptoBulkEntries entries + 1
  | .held _ => 1
def uptoBulkAll {H : Type} : List (DataW H) → Nat
  | [] => 0
  | d :: r => uptoBulk d + uptoBulkAll r
def uptoBulkEntries {H : Type} : List (Lit × DataW H) → Nat
  | [] => 0
  | x :: r => uptoBulkEntry x + uptoBulkEntries r
def uptoBulkEntry {H : Type} : Lit × DataW H → Nat
  | (.string bytes, d) => bytes.length + uptoBulk d + 1
  | (_, d) => uptoBulk d + 1
 end
def uptoSmall : (H : Type) → List (DataW H) → Bool := fun _ ds => decide (uptoBulkAll ds ≤ 1048576)
def OpenSpec.upto (s : _root_.Go.ChangeSpec) : _root_.Go.OpenSpec := { _root_.Go.OpenSpec.ofChange s with cond := some uptoSmall }

/-- 'pergolalaw01.UtfDecodes', WHERE WHAT IT READS IS OF BULK AT MOST 1048576: true; the input reads as it did. -/
def utfDecodesUptoRow : OpenClaim := { program := "ytomkkagopjpfkaadoor", sum := "88549b6262a468ddfaec7b3929d499b916bdb0d226c7acb8c0d0757e2006ff72", func := "pergola/pergolalaw01.UtfDecodes", spec := "utfDecodes", named := ["unicode/utf8.first", "unicode/utf8.acceptRanges"], apart := false, laid := [("unicode/utf8.acceptRanges", laid_unicode_utf8_acceptRanges), ("unicode/utf8.first", laid_unicode_utf8_first)], narrowed := true }
def UtfDecodesUptoSaid : Prop := utfDecodesUptoRow.holds Tryd.pinned (OpenSpec.upto utfDecodesSpec)

/-- 'pergolalaw01.UtfLines', WHERE WHAT IT READS IS OF BULK AT MOST 1048576: true; the input reads as it did. -/
def utfLinesUptoRow : OpenClaim := { program := "ytomkkagopjpfkaadoor", sum := "88549b6262a468ddfaec7b3929d499b916bdb0d226c7acb8c0d0757e2006ff72", func := "pergola/pergolalaw01.UtfLines", spec := "utfLines", named := ["unicode/utf8.first", "unicode/utf8.acceptRanges"], apart := false, laid := [("unicode/utf8.acceptRanges", laid_unicode_utf8_acceptRanges), ("unicode/utf8.first", laid_unicode_utf8_first)], narrowed := true }
def UtfLinesUptoSaid : Prop := utfLinesUptoRow.holds Tryd.pinned (OpenSpec.upto utfLinesSpec)

/-- 'pergolalaw01.UtfBack', WHERE WHAT IT READS IS OF BULK AT MOST 1048576: true; the input reads as it did. -/
def utfBackUptoRow : OpenClaim := { program := "ytomkkagopjpfkaadoor", sum := "88549b6262a468ddfaec7b3929d499b916bdb0d226c7acb8c0d0757e2006ff72", func := "pergola/pergolalaw01.UtfBack", spec := "utfBack", named := ["unicode/utf8.first", "unicode/utf8.acceptRanges"], apart := false, laid := [("unicode/utf8.acceptRanges", laid_unicode_utf8_acceptRanges), ("unicode/utf8.first", laid_unicode_utf8_first)], narrowed := true }
def UtfBackUptoSaid : Prop := utfBackUptoRow.holds Tryd.pinned (OpenSpec.upto utfBackSpec)

/-- 'pergolalaw01.UtfThere', WHERE WHAT IT READS IS OF BULK AT MOST 1048576: true; the input reads as it did. -/
def utfThereUptoRow : OpenClaim := { program := "ytomkkagopjpfkaadoor", sum := "88549b6262a468ddfaec7b3929d499b916bdb0d226c7acb8c0d0757e2006ff72", func := "pergola/pergolalaw01.UtfThere", spec := "utfThere", named := ["unicode/utf8.first", "unicode/utf8.acceptRanges"], apart := false, laid := [("unicode/utf8.acceptRanges", laid_unicode_utf8_acceptRanges), ("unicode/utf8.first", laid_unicode_utf8_first)], narrowed := true }
def UtfThereUptoSaid : Prop := utfThereUptoRow.holds Tryd.pinned (OpenSpec.upto utfThereSpec)

/-- 'pergolalaw01.UtfJoined', WHERE WHAT IT READS IS OF BULK AT MOST 1048576: true; the input reads as it did. -/
def utfJoinedUptoRow : OpenClaim := { program := "ytomkkagopjpfkaadoor", sum := "88549b6262a468ddfaec7b3929d499b916bdb0d226c7acb8c0d0757e2006ff72", func := "pergola/pergolalaw01.UtfJoined", spec := "utfJoined", named := ["unicode/utf8.first", "unicode/utf8.acceptRanges"], apart := false, laid := [("unicode/utf8.acceptRanges", laid_unicode_utf8_acceptRanges), ("unicode/utf8.first", laid_unicode_utf8_first)], narrowed := true }
def UtfJoinedUptoSaid : Prop := utfJoinedUptoRow.holds Tryd.pinned (OpenSpec.upto utfJoinedSpec)

/-- 'pergolalaw01.UtfSplices', WHERE WHAT IT READS IS OF BULK AT MOST 1048576: true; the input reads as it did. -/
def utfSplicesUptoRow : OpenClaim := { program := "ytomkkagopjpfkaadoor", sum := "88549b6262a468ddfaec7b3929d499b916bdb0d226c7acb8c0d0757e2006ff72", func := "pergola/pergolalaw01.UtfSplices", spec := "utfSplices", named := ["unicode/utf8.first", "unicode/utf8.acceptRanges"], apart := false, laid := [("unicode/utf8.acceptRanges", laid_unicode_utf8_acceptRanges), ("unicode/utf8.first", laid_unicode_utf8_first)], narrowed := true }
def UtfSplicesUptoSaid : Prop := utfSplicesUptoRow.holds Tryd.pinned (OpenSpec.upto utfSplicesSpec)

/-- 'pergolalaw01.UtfKeeps', WHERE WHAT IT READS IS OF BULK AT MOST 1048576: true; the input reads as it did. -/
def utfKeepsUptoRow : OpenClaim := { program := "ytomkkagopjpfkaadoor", sum := "88549b6262a468ddfaec7b3929d499b916bdb0d226c7acb8c0d0757e2006ff72", func := "pergola/pergolalaw01.UtfKeeps", spec := "utfKeeps", named := ["unicode/utf8.first", "unicode/utf8.acceptRanges"], apart := false, laid := [("unicode/utf8.acceptRanges", laid_unicode_utf8_acceptRanges), ("unicode/utf8.first", laid_unicode_utf8_first)], narrowed := true }
def UtfKeepsUptoSaid : Prop := utfKeepsUptoRow.holds Tryd.pinned (OpenSpec.upto utfKeepsSpec)

/-- 'pergolalaw01.UtfFresh', WHERE WHAT IT READS IS OF BULK AT MOST 1048576: true; the input reads as it did. -/
def utfFreshUptoRow : OpenClaim := { program := "ytomkkagopjpfkaadoor", sum := "88549b6262a468ddfaec7b3929d499b916bdb0d226c7acb8c0d0757e2006ff72", func := "pergola/pergolalaw01.UtfFresh", spec := "utfFresh", named := ["unicode/utf8.first", "unicode/utf8.acceptRanges"], apart := false, laid := [("unicode/utf8.acceptRanges", laid_unicode_utf8_acceptRanges), ("unicode/utf8.first", laid_unicode_utf8_first)], narrowed := true }
def UtfFreshUptoSaid : Prop := utfFreshUptoRow.holds Tryd.pinned (OpenSpec.upto utfFreshSpec)

/-- 'pergolalaw01.UtfPlaces', WHERE WHAT IT READS IS OF BULK AT MOST 1048576: true; the input reads as it did. -/
def utfPlacesUptoRow : OpenClaim := { program := "ytomkkagopjpfkaadoor", sum := "88549b6262a468ddfaec7b3929d499b916bdb0d226c7acb8c0d0757e2006ff72", func := "pergola/pergolalaw01.UtfPlaces", spec := "utfPlaces", named := ["unicode/utf8.first", "unicode/utf8.acceptRanges"], apart := false, laid := [("unicode/utf8.acceptRanges", laid_unicode_utf8_acceptRanges), ("unicode/utf8.first", laid_unicode_utf8_first)], narrowed := true }
def UtfPlacesUptoSaid : Prop := utfPlacesUptoRow.holds Tryd.pinned (OpenSpec.upto utfPlacesSpec)

/-- 'pergolalaw01.UtfGrid', WHERE WHAT IT READS IS OF BULK AT MOST 1048576: true; the input reads as it did. -/
def utfGridUptoRow : OpenClaim := { program := "ytomkkagopjpfkaadoor", sum := "88549b6262a468ddfaec7b3929d499b916bdb0d226c7acb8c0d0757e2006ff72", func := "pergola/pergolalaw01.UtfGrid", spec := "utfGrid", named := ["unicode/utf8.first", "unicode/utf8.acceptRanges"], apart := false, laid := [("unicode/utf8.acceptRanges", laid_unicode_utf8_acceptRanges), ("unicode/utf8.first", laid_unicode_utf8_first)], narrowed := true }
def UtfGridUptoSaid : Prop := utfGridUptoRow.holds Tryd.pinned (OpenSpec.upto utfGridSpec)

/-- 'pergolalaw01.UtfSpots', WHERE WHAT IT READS IS OF BULK AT MOST 1048576: true; the input reads as it did. -/
def utfSpotsUptoRow : OpenClaim := { program := "ytomkkagopjpfkaadoor", sum := "88549b6262a468ddfaec7b3929d499b916bdb0d226c7acb8c0d0757e2006ff72", func := "pergola/pergolalaw01.UtfSpots", spec := "utfSpots", named := ["unicode/utf8.first", "unicode/utf8.acceptRanges"], apart := false, laid := [("unicode/utf8.acceptRanges", laid_unicode_utf8_acceptRanges), ("unicode/utf8.first", laid_unicode_utf8_first)], narrowed := true }
def UtfSpotsUptoSaid : Prop := utfSpotsUptoRow.holds Tryd.pinned (OpenSpec.upto utfSpotsSpec)

end Rows
end Go.Proofs.YtomkkagopjpfkaaDoor
