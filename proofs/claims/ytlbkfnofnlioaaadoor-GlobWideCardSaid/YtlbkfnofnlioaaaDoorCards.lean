/-
  DERIVED. GIVEN WITH THE SEED: THE CARDS: each row of YtlbkfnofnlioaaaDoorRows.lean that lists a variable, with what it lists TIED to the program's text (the seventh form; the later family's looks); each row that meets fmt, with fmt's text TOLD by the authors' own Lean function (tested against real Go, not proved from fmt's source: count such statements apart). THE CARD IS WHAT COUNTS. Prove the row's statement (the work); the ties are given (YtlbkfnofnlioaaaDoorTie.lean); close each card by the builder's one call (the guide's Derived/Test/ToyasCard.lean, 'card_holds'). Laid BY PROGRAM, IN A SANDBOX (cutbox-door.mjs). By AI agents, Wed Nov 11 2026. No macro, syntax, notation, axiom, sorry.
-/
import Derived.Test.YtlbkfnofnlioaaaDoorRows
import GoSem.ClaimSeven
namespace Go.Proofs.YtlbkfnofnlioaaaDoor
namespace Rows

/-- THE TIED CARD OF 'montagelaw37.GlobFits'. -/
def globFitsCard : Claim7 := { stood := { row := globFitsRow, standIns := [], harness := (true, "6a09e1868cb97d594b199fefc81e37e9bcbdeaabb1a447a48dbab914700a4983"), looks := false }, kinds := [], alts := [], laidByText := true, laidKinds := [.data, .pinned], laidTests := true, laidLooks := .later }
def GlobFitsCardSaid : Prop := Claim7.holds Tryd.pinned (.plain (OpenSpec.ofChange globFitsSpec)) globFitsCard

/-- THE TIED CARD OF 'montagelaw37.GlobQuotes'. -/
def globQuotesCard : Claim7 := { stood := { row := globQuotesRow, standIns := [], harness := (true, "6a09e1868cb97d594b199fefc81e37e9bcbdeaabb1a447a48dbab914700a4983"), looks := false }, kinds := [], alts := [], laidByText := true, laidKinds := [.data, .pinned], laidTests := true, laidLooks := .later }
def GlobQuotesCardSaid : Prop := Claim7.holds Tryd.pinned (.plain (OpenSpec.ofChange globQuotesSpec)) globQuotesCard

/-- THE TIED CARD OF 'montagelaw37.GlobWide'. -/
def globWideCard : Claim7 := { stood := { row := globWideRow, standIns := [], harness := (true, "6a09e1868cb97d594b199fefc81e37e9bcbdeaabb1a447a48dbab914700a4983"), looks := false }, kinds := [], alts := [], laidByText := true, laidKinds := [.data, .pinned], laidTests := true, laidLooks := .later }
def GlobWideCardSaid : Prop := Claim7.holds Tryd.pinned (.plain (OpenSpec.ofChange globWideSpec)) globWideCard

/-- THE SECOND FORM's CARD OF 'montagelaw37.GlobFits'. -/
def globFitsUptoCard : Claim7 := { stood := { row := globFitsUptoRow, standIns := [], harness := (true, "6a09e1868cb97d594b199fefc81e37e9bcbdeaabb1a447a48dbab914700a4983"), looks := false }, kinds := [], alts := [], laidByText := true, laidKinds := [.data, .pinned], laidTests := true, laidLooks := .later }
def GlobFitsUptoCardSaid : Prop := Claim7.holds Tryd.pinned (.plain (OpenSpec.upto globFitsSpec)) globFitsUptoCard

/-- THE SECOND FORM's CARD OF 'montagelaw37.GlobQuotes'. -/
def globQuotesUptoCard : Claim7 := { stood := { row := globQuotesUptoRow, standIns := [], harness := (true, "6a09e1868cb97d594b199fefc81e37e9bcbdeaabb1a447a48dbab914700a4983"), looks := false }, kinds := [], alts := [], laidByText := true, laidKinds := [.data, .pinned], laidTests := true, laidLooks := .later }
def GlobQuotesUptoCardSaid : Prop := Claim7.holds Tryd.pinned (.plain (OpenSpec.upto globQuotesSpec)) globQuotesUptoCard

/-- THE SECOND FORM's CARD OF 'montagelaw37.GlobWide'. -/
def globWideUptoCard : Claim7 := { stood := { row := globWideUptoRow, standIns := [], harness := (true, "6a09e1868cb97d594b199fefc81e37e9bcbdeaabb1a447a48dbab914700a4983"), looks := false }, kinds := [], alts := [], laidByText := true, laidKinds := [.data, .pinned], laidTests := true, laidLooks := .later }
def GlobWideUptoCardSaid : Prop := Claim7.holds Tryd.pinned (.plain (OpenSpec.upto globWideSpec)) globWideUptoCard
end Rows
end Go.Proofs.YtlbkfnofnlioaaaDoor
