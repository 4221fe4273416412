/-
  No cell of these rows narrows 'for every input' (looked for: loops, veiled, ifaces, maps, wideKeys, modest, calm, conditions, laid).
  DERIVED. THE GIVEN ROWS OF THIS SEAT. 4 by the template 'for every input the law returns true; each argument reads behind the call as it read before'; 0 by the template 'total and deterministic' (their statements: YtomkkagopjpfkaaTotals.lean).
  GIVEN WITH THE SEED: the statements are not yours to turn. If you find one false, say at which input.
  Laid BY PROGRAM, IN A SANDBOX (cutbox-rows.mjs): the forced cells as the released guide's own fill.sh prints them over the translation 2a34a0361b6a0d7c… (all of the seat's roots in one cut). By AI agents, Wed Nov 11 2026. No macro, syntax, notation, axiom, sorry.
-/
import Derived.Test.YtomkkagopjpfkaaChecked
import GoSem.Claim
import GoSem.ClaimJoined
import GoSem.ClaimMapViews
import Derived.JoinedTies
import Derived.KernelRfl
namespace Go.Proofs.Ytomkkagopjpfkaa
/- THE CELL 'sum', in the pinned program and in every row, IS THE sha256 OF THE DUMP (.gsa) THAT YtomkkagopjpfkaaProg.lean LOADS. Nothing in Lean hashes anything: it is a label: what it is worth is what the hold of that sum in a sandbox is worth. -/
noncomputable def Try.pinned : Pinned := { name := "ytomkkagopjpfkaa", sum := "2a34a0361b6a0d7c7d975f7597db9918f9e106ae51eeea46625996209ede7bd7", checked := Try.checked }
namespace Rows
def none {H : Type} : Left H := { results := [], args := [] }

/-- 'pergolalaw01.UtfHalves': WHATEVER THE INPUT: true; the input reads as it did. -/
def utfHalvesSpec : ChangeSpec := { name := "utfHalves", fn := fun _ => fun
  | [d1, d2] => { results := [.lit (.bool true)], args := [d1, d2] }
  | _ => none }
def utfHalvesRow : OpenClaim := { program := "ytomkkagopjpfkaa", sum := "2a34a0361b6a0d7c7d975f7597db9918f9e106ae51eeea46625996209ede7bd7", func := "pergola/pergolalaw01.UtfHalves", spec := "utfHalves", apart := false }
def UtfHalvesSaid : Prop := utfHalvesRow.holds Try.pinned (OpenSpec.ofChange utfHalvesSpec)

/-- ITS FALSE NEIGHBOUR: 'it returns false'. Refute it at one input. -/
def utfHalvesWrong : ChangeSpec := { name := "utfHalves", fn := fun _ => fun
  | [d1, d2] => { results := [.lit (.bool false)], args := [d1, d2] }
  | _ => none }
def UtfHalvesWrongFalsely : Prop := utfHalvesRow.holds Try.pinned (OpenSpec.ofChange utfHalvesWrong)

/-- 'pergolalaw01.UtfPairs': WHATEVER THE INPUT: true; the input reads as it did. -/
def utfPairsSpec : ChangeSpec := { name := "utfPairs", fn := fun _ => fun
  | [d] => { results := [.lit (.bool true)], args := [d] }
  | _ => none }
def utfPairsRow : OpenClaim := { program := "ytomkkagopjpfkaa", sum := "2a34a0361b6a0d7c7d975f7597db9918f9e106ae51eeea46625996209ede7bd7", func := "pergola/pergolalaw01.UtfPairs", spec := "utfPairs", apart := false }
def UtfPairsSaid : Prop := utfPairsRow.holds Try.pinned (OpenSpec.ofChange utfPairsSpec)

/-- ITS FALSE NEIGHBOUR: 'it returns false'. Refute it at one input. -/
def utfPairsWrong : ChangeSpec := { name := "utfPairs", fn := fun _ => fun
  | [d] => { results := [.lit (.bool false)], args := [d] }
  | _ => none }
def UtfPairsWrongFalsely : Prop := utfPairsRow.holds Try.pinned (OpenSpec.ofChange utfPairsWrong)

/-- 'pergolalaw01.UtfClasses': WHATEVER THE INPUT: true; the input reads as it did. -/
def utfClassesSpec : ChangeSpec := { name := "utfClasses", fn := fun _ => fun
  | [d] => { results := [.lit (.bool true)], args := [d] }
  | _ => none }
def utfClassesRow : OpenClaim := { program := "ytomkkagopjpfkaa", sum := "2a34a0361b6a0d7c7d975f7597db9918f9e106ae51eeea46625996209ede7bd7", func := "pergola/pergolalaw01.UtfClasses", spec := "utfClasses", apart := false }
def UtfClassesSaid : Prop := utfClassesRow.holds Try.pinned (OpenSpec.ofChange utfClassesSpec)

/-- ITS FALSE NEIGHBOUR: 'it returns false'. Refute it at one input. -/
def utfClassesWrong : ChangeSpec := { name := "utfClasses", fn := fun _ => fun
  | [d] => { results := [.lit (.bool false)], args := [d] }
  | _ => none }
def UtfClassesWrongFalsely : Prop := utfClassesRow.holds Try.pinned (OpenSpec.ofChange utfClassesWrong)

/-- 'pergolalaw01.UtfEncodes': WHATEVER THE INPUT: true; the input reads as it did. -/
def utfEncodesSpec : ChangeSpec := { name := "utfEncodes", fn := fun _ => fun
  | [d] => { results := [.lit (.bool true)], args := [d] }
  | _ => none }
def utfEncodesRow : OpenClaim := { program := "ytomkkagopjpfkaa", sum := "2a34a0361b6a0d7c7d975f7597db9918f9e106ae51eeea46625996209ede7bd7", func := "pergola/pergolalaw01.UtfEncodes", spec := "utfEncodes", apart := false }
def UtfEncodesSaid : Prop := utfEncodesRow.holds Try.pinned (OpenSpec.ofChange utfEncodesSpec)

/-- ITS FALSE NEIGHBOUR: 'it returns false'. Refute it at one input. -/
def utfEncodesWrong : ChangeSpec := { name := "utfEncodes", fn := fun _ => fun
  | [d] => { results := [.lit (.bool false)], args := [d] }
  | _ => none }
def UtfEncodesWrongFalsely : Prop := utfEncodesRow.holds Try.pinned (OpenSpec.ofChange utfEncodesWrong)

/- THE SECOND FORM. 'bulk': how many values and letters a reading holds, each counted each time it is reached (what is shared counts as often as it is met; a slice's spare places count too). A statement '..UptoSaid' is the law's where the arguments, and the package variables that the reading takes, are together of bulk at most 1048576: NARROWER than '..Said'. Prove '..Said' where nothing that the law and all that it calls make is longer than what came in: it says more and counts as full. Else prove '..UptoSaid'. A law counts once. -/
mutual
def uptoBulk {H : Type} : DataW H → Nat
  | .lit (.string bytes) => bytes.length + 1
  | .lit _ => 1
  | .nil => 1
  | .ptr d => uptoBulk d + 1
  | .slice elems spare => uptoBulkAll elems + uptoBulkAll spare + 1
  | .agg parts => uptoBulkAll parts + 1
  | .iface _ d => uptoBulk d + 1
  | .map entries => uptoBulkEntries entries + 1
  | .held _ => 1
def uptoBulkAll {H : Type} : List (DataW H) → Nat
  | [] => 0
  | d :: r => uptoBulk d + uptoBulkAll r
def uptoBulkEntries {H : Type} : List (Lit × DataW H) → Nat
  | [] => 0
  | x :: r => uptoBulkEntry x + uptoBulkEntries r
def uptoBulkEntry {H : Type} : Lit × DataW H → Nat
  | (.string bytes, d) => bytes.length + uptoBulk d + 1
  | (_, d) => uptoBulk d + 1
 end
def uptoSmall : (H : Type) → List (DataW H) → Bool := fun _ ds => decide (uptoBulkAll ds ≤ 1048576)
def OpenSpec.upto (s : _root_.Go.ChangeSpec) : _root_.Go.OpenSpec := { _root_.Go.OpenSpec.ofChange s with cond := some uptoSmall }

/-- 'pergolalaw01.UtfHalves', WHERE WHAT IT READS IS OF BULK AT MOST 1048576: true; the input reads as it did. -/
def utfHalvesUptoRow : OpenClaim := { program := "ytomkkagopjpfkaa", sum := "2a34a0361b6a0d7c7d975f7597db9918f9e106ae51eeea46625996209ede7bd7", func := "pergola/pergolalaw01.UtfHalves", spec := "utfHalves", apart := false, narrowed := true }
def UtfHalvesUptoSaid : Prop := utfHalvesUptoRow.holds Try.pinned (OpenSpec.upto utfHalvesSpec)

/-- 'pergolalaw01.UtfPairs', WHERE WHAT IT READS IS OF BULK AT MOST 1048576: true; the input reads as it did. -/
def utfPairsUptoRow : OpenClaim := { program := "ytomkkagopjpfkaa", sum := "2a34a0361b6a0d7c7d975f7597db9918f9e106ae51eeea46625996209ede7bd7", func := "pergola/pergolalaw01.UtfPairs", spec := "utfPairs", apart := false, narrowed := true }
def UtfPairsUptoSaid : Prop := utfPairsUptoRow.holds Try.pinned (OpenSpec.upto utfPairsSpec)

/-- 'pergolalaw01.UtfClasses', WHERE WHAT IT READS IS OF BULK AT MOST 1048576: true; the input reads as it did. -/
def utfClassesUptoRow : OpenClaim := { program := "ytomkkagopjpfkaa", sum := "2a34a0361b6a0d7c7d975f7597db9918f9e106ae51eeea46625996209ede7bd7", func := "pergola/pergolalaw01.UtfClasses", spec := "utfClasses", apart := false, narrowed := true }
def UtfClassesUptoSaid : Prop := utfClassesUptoRow.holds Try.pinned (OpenSpec.upto utfClassesSpec)

/-- 'pergolalaw01.UtfEncodes', WHERE WHAT IT READS IS OF BULK AT MOST 1048576: true; the input reads as it did. -/
def utfEncodesUptoRow : OpenClaim := { program := "ytomkkagopjpfkaa", sum := "2a34a0361b6a0d7c7d975f7597db9918f9e106ae51eeea46625996209ede7bd7", func := "pergola/pergolalaw01.UtfEncodes", spec := "utfEncodes", apart := false, narrowed := true }
def UtfEncodesUptoSaid : Prop := utfEncodesUptoRow.holds Try.pinned (OpenSpec.upto utfEncodesSpec)

end Rows
end Go.Proofs.Ytomkkagopjpfkaa
