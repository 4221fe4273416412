/-
  DERIVED. GIVEN WITH THE SEED: THE CARDS: each row of YtomkkagopjpfkaaDoorRows.lean that lists a variable, with what it lists TIED to the program's text (the seventh form; the later family's looks); each row that meets fmt, with fmt's text TOLD by the authors' own Lean function (tested against real Go, not proved from fmt's source: count such statements apart). THE CARD IS WHAT COUNTS. Prove the row's statement (the work); the ties are given (YtomkkagopjpfkaaDoorTie.lean); close each card by the builder's one call (the guide's Derived/Test/ToyasCard.lean, 'card_holds'). Laid BY PROGRAM, IN A SANDBOX (cutbox-door.mjs). By AI agents, Wed Nov 11 2026. No macro, syntax, notation, axiom, sorry.
-/
import Derived.Test.YtomkkagopjpfkaaDoorRows
import GoSem.ClaimSeven
namespace Go.Proofs.YtomkkagopjpfkaaDoor
namespace Rows

/-- THE TIED CARD OF 'pergolalaw01.UtfDecodes'. -/
def utfDecodesCard : Claim7 := { stood := { row := utfDecodesRow, standIns := [], harness := (true, "56f6e67045844d3f7d10df7751bf50459c99fb266284691f233dd36e1e545890"), looks := false }, kinds := [], alts := [], laidByText := true, laidKinds := [.data, .pinned], laidTests := true, laidLooks := .later }
def UtfDecodesCardSaid : Prop := Claim7.holds Tryd.pinned (.plain (OpenSpec.ofChange utfDecodesSpec)) utfDecodesCard

/-- THE TIED CARD OF 'pergolalaw01.UtfLines'. -/
def utfLinesCard : Claim7 := { stood := { row := utfLinesRow, standIns := [], harness := (true, "56f6e67045844d3f7d10df7751bf50459c99fb266284691f233dd36e1e545890"), looks := false }, kinds := [], alts := [], laidByText := true, laidKinds := [.data, .pinned], laidTests := true, laidLooks := .later }
def UtfLinesCardSaid : Prop := Claim7.holds Tryd.pinned (.plain (OpenSpec.ofChange utfLinesSpec)) utfLinesCard

/-- THE TIED CARD OF 'pergolalaw01.UtfBack'. -/
def utfBackCard : Claim7 := { stood := { row := utfBackRow, standIns := [], harness := (true, "56f6e67045844d3f7d10df7751bf50459c99fb266284691f233dd36e1e545890"), looks := false }, kinds := [], alts := [], laidByText := true, laidKinds := [.data, .pinned], laidTests := true, laidLooks := .later }
def UtfBackCardSaid : Prop := Claim7.holds Tryd.pinned (.plain (OpenSpec.ofChange utfBackSpec)) utfBackCard

/-- THE TIED CARD OF 'pergolalaw01.UtfThere'. -/
def utfThereCard : Claim7 := { stood := { row := utfThereRow, standIns := [], harness := (true, "56f6e67045844d3f7d10df7751bf50459c99fb266284691f233dd36e1e545890"), looks := false }, kinds := [], alts := [], laidByText := true, laidKinds := [.data, .pinned], laidTests := true, laidLooks := .later }
def UtfThereCardSaid : Prop := Claim7.holds Tryd.pinned (.plain (OpenSpec.ofChange utfThereSpec)) utfThereCard

/-- THE TIED CARD OF 'pergolalaw01.UtfJoined'. -/
def utfJoinedCard : Claim7 := { stood := { row := utfJoinedRow, standIns := [], harness := (true, "56f6e67045844d3f7d10df7751bf50459c99fb266284691f233dd36e1e545890"), looks := false }, kinds := [], alts := [], laidByText := true, laidKinds := [.data, .pinned], laidTests := true, laidLooks := .later }
def UtfJoinedCardSaid : Prop := Claim7.holds Tryd.pinned (.plain (OpenSpec.ofChange utfJoinedSpec)) utfJoinedCard

/-- THE TIED CARD OF 'pergolalaw01.UtfSplices'. -/
def utfSplicesCard : Claim7 := { stood := { row := utfSplicesRow, standIns := [], harness := (true, "56f6e67045844d3f7d10df7751bf50459c99fb266284691f233dd36e1e545890"), looks := false }, kinds := [], alts := [], laidByText := true, laidKinds := [.data, .pinned], laidTests := true, laidLooks := .later }
def UtfSplicesCardSaid : Prop := Claim7.holds Tryd.pinned (.plain (OpenSpec.ofChange utfSplicesSpec)) utfSplicesCard

/-- THE TIED CARD OF 'pergolalaw01.UtfKeeps'. -/
def utfKeepsCard : Claim7 := { stood := { row := utfKeepsRow, standIns := [], harness := (true, "56f6e67045844d3f7d10df7751bf50459c99fb266284691f233dd36e1e545890"), looks := false }, kinds := [], alts := [], laidByText := true, laidKinds := [.data, .pinned], laidTests := true, laidLooks := .later }
def UtfKeepsCardSaid : Prop := Claim7.holds Tryd.pinned (.plain (OpenSpec.ofChange utfKeepsSpec)) utfKeepsCard

/-- THE TIED CARD OF 'pergolalaw01.UtfFresh'. -/
def utfFreshCard : Claim7 := { stood := { row := utfFreshRow, standIns := [], harness := (true, "56f6e67045844d3f7d10df7751bf50459c99fb266284691f233dd36e1e545890"), looks := false }, kinds := [], alts := [], laidByText := true, laidKinds := [.data, .pinned], laidTests := true, laidLooks := .later }
def UtfFreshCardSaid : Prop := Claim7.holds Tryd.pinned (.plain (OpenSpec.ofChange utfFreshSpec)) utfFreshCard

/-- THE TIED CARD OF 'pergolalaw01.UtfPlaces'. -/
def utfPlacesCard : Claim7 := { stood := { row := utfPlacesRow, standIns := [], harness := (true, "56f6e67045844d3f7d10df7751bf50459c99fb266284691f233dd36e1e545890"), looks := false }, kinds := [], alts := [], laidByText := true, laidKinds := [.data, .pinned], laidTests := true, laidLooks := .later }
def UtfPlacesCardSaid : Prop := Claim7.holds Tryd.pinned (.plain (OpenSpec.ofChange utfPlacesSpec)) utfPlacesCard

/-- THE TIED CARD OF 'pergolalaw01.UtfGrid'. -/
def utfGridCard : Claim7 := { stood := { row := utfGridRow, standIns := [], harness := (true, "56f6e67045844d3f7d10df7751bf50459c99fb266284691f233dd36e1e545890"), looks := false }, kinds := [], alts := [], laidByText := true, laidKinds := [.data, .pinned], laidTests := true, laidLooks := .later }
def UtfGridCardSaid : Prop := Claim7.holds Tryd.pinned (.plain (OpenSpec.ofChange utfGridSpec)) utfGridCard

/-- THE TIED CARD OF 'pergolalaw01.UtfSpots'. -/
def utfSpotsCard : Claim7 := { stood := { row := utfSpotsRow, standIns := [], harness := (true, "56f6e67045844d3f7d10df7751bf50459c99fb266284691f233dd36e1e545890"), looks := false }, kinds := [], alts := [], laidByText := true, laidKinds := [.data, .pinned], laidTests := true, laidLooks := .later }
def UtfSpotsCardSaid : Prop := Claim7.holds Tryd.pinned (.plain (OpenSpec.ofChange utfSpotsSpec)) utfSpotsCard

/-- THE SECOND FORM's CARD OF 'pergolalaw01.UtfDecodes'. -/
def utfDecodesUptoCard : Claim7 := { stood := { row := utfDecodesUptoRow, standIns := [], harness := (true, "56f6e67045844d3f7d10df7751bf50459c99fb266284691f233dd36e1e545890"), looks := false }, kinds := [], alts := [], laidByText := true, laidKinds := [.data, .pinned], laidTests := true, laidLooks := .later }
def UtfDecodesUptoCardSaid : Prop := Claim7.holds Tryd.pinned (.plain (OpenSpec.upto utfDecodesSpec)) utfDecodesUptoCard

/-- THE SECOND FORM's CARD OF 'pergolalaw01.UtfLines'. -/
def utfLinesUptoCard : Claim7 := { stood := { row := utfLinesUptoRow, standIns := [], harness := (true, "56f6e67045844d3f7d10df7751bf50459c99fb266284691f233dd36e1e545890"), looks := false }, kinds := [], alts := [], laidByText := true, laidKinds := [.data, .pinned], laidTests := true, laidLooks := .later }
def UtfLinesUptoCardSaid : Prop := Claim7.holds Tryd.pinned (.plain (OpenSpec.upto utfLinesSpec)) utfLinesUptoCard

/-- THE SECOND FORM's CARD OF 'pergolalaw01.UtfBack'. -/
def utfBackUptoCard : Claim7 := { stood := { row := utfBackUptoRow, standIns := [], harness := (true, "56f6e67045844d3f7d10df7751bf50459c99fb266284691f233dd36e1e545890"), looks := false }, kinds := [], alts := [], laidByText := true, laidKinds := [.data, .pinned], laidTests := true, laidLooks := .later }
def UtfBackUptoCardSaid : Prop := Claim7.holds Tryd.pinned (.plain (OpenSpec.upto utfBackSpec)) utfBackUptoCard

/-- THE SECOND FORM's CARD OF 'pergolalaw01.UtfThere'. -/
def utfThereUptoCard : Claim7 := { stood := { row := utfThereUptoRow, standIns := [], harness := (true, "56f6e67045844d3f7d10df7751bf50459c99fb266284691f233dd36e1e545890"), looks := false }, kinds := [], alts := [], laidByText := true, laidKinds := [.data, .pinned], laidTests := true, laidLooks := .later }
def UtfThereUptoCardSaid : Prop := Claim7.holds Tryd.pinned (.plain (OpenSpec.upto utfThereSpec)) utfThereUptoCard

/-- THE SECOND FORM's CARD OF 'pergolalaw01.UtfJoined'. -/
def utfJoinedUptoCard : Claim7 := { stood := { row := utfJoinedUptoRow, standIns := [], harness := (true, "56f6e67045844d3f7d10df7751bf50459c99fb266284691f233dd36e1e545890"), looks := false }, kinds := [], alts := [], laidByText := true, laidKinds := [.data, .pinned], laidTests := true, laidLooks := .later }
def UtfJoinedUptoCardSaid : Prop := Claim7.holds Tryd.pinned (.plain (OpenSpec.upto utfJoinedSpec)) utfJoinedUptoCard

/-- THE SECOND FORM's CARD OF 'pergolalaw01.UtfSplices'. -/
def utfSplicesUptoCard : Claim7 := { stood := { row := utfSplicesUptoRow, standIns := [], harness := (true, "56f6e67045844d3f7d10df7751bf50459c99fb266284691f233dd36e1e545890"), looks := false }, kinds := [], alts := [], laidByText := true, laidKinds := [.data, .pinned], laidTests := true, laidLooks := .later }
def UtfSplicesUptoCardSaid : Prop := Claim7.holds Tryd.pinned (.plain (OpenSpec.upto utfSplicesSpec)) utfSplicesUptoCard

/-- THE SECOND FORM's CARD OF 'pergolalaw01.UtfKeeps'. -/
def utfKeepsUptoCard : Claim7 := { stood := { row := utfKeepsUptoRow, standIns := [], harness := (true, "56f6e67045844d3f7d10df7751bf50459c99fb266284691f233dd36e1e545890"), looks := false }, kinds := [], alts := [], laidByText := true, laidKinds := [.data, .pinned], laidTests := true, laidLooks := .later }
def UtfKeepsUptoCardSaid : Prop := Claim7.holds Tryd.pinned (.plain (OpenSpec.upto utfKeepsSpec)) utfKeepsUptoCard

/-- THE SECOND FORM's CARD OF 'pergolalaw01.UtfFresh'. -/
def utfFreshUptoCard : Claim7 := { stood := { row := utfFreshUptoRow, standIns := [], harness := (true, "56f6e67045844d3f7d10df7751bf50459c99fb266284691f233dd36e1e545890"), looks := false }, kinds := [], alts := [], laidByText := true, laidKinds := [.data, .pinned], laidTests := true, laidLooks := .later }
def UtfFreshUptoCardSaid : Prop := Claim7.holds Tryd.pinned (.plain (OpenSpec.upto utfFreshSpec)) utfFreshUptoCard

/-- THE SECOND FORM's CARD OF 'pergolalaw01.UtfPlaces'. -/
def utfPlacesUptoCard : Claim7 := { stood := { row := utfPlacesUptoRow, standIns := [], harness := (true, "56f6e67045844d3f7d10df7751bf50459c99fb266284691f233dd36e1e545890"), looks := false }, kinds := [], alts := [], laidByText := true, laidKinds := [.data, .pinned], laidTests := true, laidLooks := .later }
def UtfPlacesUptoCardSaid : Prop := Claim7.holds Tryd.pinned (.plain (OpenSpec.upto utfPlacesSpec)) utfPlacesUptoCard

/-- THE SECOND FORM's CARD OF 'pergolalaw01.UtfGrid'. -/
def utfGridUptoCard : Claim7 := { stood := { row := utfGridUptoRow, standIns := [], harness := (true, "56f6e67045844d3f7d10df7751bf50459c99fb266284691f233dd36e1e545890"), looks := false }, kinds := [], alts := [], laidByText := true, laidKinds := [.data, .pinned], laidTests := true, laidLooks := .later }
def UtfGridUptoCardSaid : Prop := Claim7.holds Tryd.pinned (.plain (OpenSpec.upto utfGridSpec)) utfGridUptoCard

/-- THE SECOND FORM's CARD OF 'pergolalaw01.UtfSpots'. -/
def utfSpotsUptoCard : Claim7 := { stood := { row := utfSpotsUptoRow, standIns := [], harness := (true, "56f6e67045844d3f7d10df7751bf50459c99fb266284691f233dd36e1e545890"), looks := false }, kinds := [], alts := [], laidByText := true, laidKinds := [.data, .pinned], laidTests := true, laidLooks := .later }
def UtfSpotsUptoCardSaid : Prop := Claim7.holds Tryd.pinned (.plain (OpenSpec.upto utfSpotsSpec)) utfSpotsUptoCard
end Rows
end Go.Proofs.YtomkkagopjpfkaaDoor
