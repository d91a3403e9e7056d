/-
  DERIVED. GIVEN WITH THE SEED: THE CARDS: each row of YtodeagijmfoojaaDoorRows.lean that lists a variable, with what it lists TIED to the program's text (the seventh form; the later family's looks); each row that meets fmt, with fmt's text TOLD by the authors' own Lean function (tested against real Go, not proved from fmt's source: count such statements apart). THE CARD IS WHAT COUNTS. Prove the row's statement (the work); the ties are given (YtodeagijmfoojaaDoorTie.lean); close each card by the builder's one call (the guide's Derived/Test/ToyasCard.lean, 'card_holds'). Laid BY PROGRAM, IN A SANDBOX (cutbox-door.mjs). By AI agents, Wed Nov 11 2026. No macro, syntax, notation, axiom, sorry.
-/
import Derived.Test.YtodeagijmfoojaaDoorRows
import GoSem.ClaimSeven
namespace Go.Proofs.YtodeagijmfoojaaDoor
namespace Rows

/-- THE TIED CARD OF 'montagelaw41.ClockDates'. -/
def clockDatesCard : Claim7 := { stood := { row := clockDatesRow, standIns := [], harness := (true, "a1d3c78808eeed8aaaea572033670eafa92222a91c9721cfc5acd94ac644d2a6"), looks := true }, kinds := [], alts := [], laidByText := true, laidKinds := [.data, .data, .data, .sentinel, .sentinel], laidTests := true, laidLooks := .later }
def ClockDatesCardSaid : Prop := Claim7.holds Tryd.pinned (.plain (OpenSpec.ofChange clockDatesSpec)) clockDatesCard

/-- THE TIED CARD OF 'montagelaw41.ClockTimes'. -/
def clockTimesCard : Claim7 := { stood := { row := clockTimesRow, standIns := [], harness := (true, "a1d3c78808eeed8aaaea572033670eafa92222a91c9721cfc5acd94ac644d2a6"), looks := true }, kinds := [], alts := [], laidByText := true, laidKinds := [.data, .data, .data, .sentinel, .sentinel], laidTests := true, laidLooks := .later }
def ClockTimesCardSaid : Prop := Claim7.holds Tryd.pinned (.plain (OpenSpec.ofChange clockTimesSpec)) clockTimesCard

/-- THE TIED CARD OF 'montagelaw41.ClockSeconds'. -/
def clockSecondsCard : Claim7 := { stood := { row := clockSecondsRow, standIns := [], harness := (true, "a1d3c78808eeed8aaaea572033670eafa92222a91c9721cfc5acd94ac644d2a6"), looks := true }, kinds := [], alts := [], laidByText := true, laidKinds := [.data, .data, .data, .sentinel, .sentinel], laidTests := true, laidLooks := .later }
def ClockSecondsCardSaid : Prop := Claim7.holds Tryd.pinned (.plain (OpenSpec.ofChange clockSecondsSpec)) clockSecondsCard

/-- THE SECOND FORM's CARD OF 'montagelaw41.ClockDates'. -/
def clockDatesUptoCard : Claim7 := { stood := { row := clockDatesUptoRow, standIns := [], harness := (true, "a1d3c78808eeed8aaaea572033670eafa92222a91c9721cfc5acd94ac644d2a6"), looks := true }, kinds := [], alts := [], laidByText := true, laidKinds := [.data, .data, .data, .sentinel, .sentinel], laidTests := true, laidLooks := .later }
def ClockDatesUptoCardSaid : Prop := Claim7.holds Tryd.pinned (.plain (OpenSpec.upto clockDatesSpec)) clockDatesUptoCard

/-- THE SECOND FORM's CARD OF 'montagelaw41.ClockTimes'. -/
def clockTimesUptoCard : Claim7 := { stood := { row := clockTimesUptoRow, standIns := [], harness := (true, "a1d3c78808eeed8aaaea572033670eafa92222a91c9721cfc5acd94ac644d2a6"), looks := true }, kinds := [], alts := [], laidByText := true, laidKinds := [.data, .data, .data, .sentinel, .sentinel], laidTests := true, laidLooks := .later }
def ClockTimesUptoCardSaid : Prop := Claim7.holds Tryd.pinned (.plain (OpenSpec.upto clockTimesSpec)) clockTimesUptoCard

/-- THE SECOND FORM's CARD OF 'montagelaw41.ClockSeconds'. -/
def clockSecondsUptoCard : Claim7 := { stood := { row := clockSecondsUptoRow, standIns := [], harness := (true, "a1d3c78808eeed8aaaea572033670eafa92222a91c9721cfc5acd94ac644d2a6"), looks := true }, kinds := [], alts := [], laidByText := true, laidKinds := [.data, .data, .data, .sentinel, .sentinel], laidTests := true, laidLooks := .later }
def ClockSecondsUptoCardSaid : Prop := Claim7.holds Tryd.pinned (.plain (OpenSpec.upto clockSecondsSpec)) clockSecondsUptoCard
end Rows
end Go.Proofs.YtodeagijmfoojaaDoor
