/-
  DERIVED. GIVEN WITH THE SEED: THE CARDS: each row of YtdnahkeiidbihaaDoorRows.lean that lists a variable, with what it lists TIED to the program's text (the seventh form; the later family's looks); each row that meets fmt, with fmt's text TOLD by the authors' own Lean function (tested against real Go, not proved from fmt's source: count such statements apart). THE CARD IS WHAT COUNTS. Prove the row's statement (the work); the ties are given (YtdnahkeiidbihaaDoorTie.lean); close each card by the builder's one call (the guide's Derived/Test/ToyasCard.lean, 'card_holds'). Laid BY PROGRAM, IN A SANDBOX (cutbox-door.mjs). By AI agents, Wed Nov 11 2026. No macro, syntax, notation, axiom, sorry.
-/
import Derived.Test.YtdnahkeiidbihaaDoorRows
import GoSem.ClaimSeven
namespace Go.Proofs.YtdnahkeiidbihaaDoor
namespace Rows

/-- THE TIED CARD OF 'montagelaw42.ArmorSigns'. -/
def armorSignsCard : Claim7 := { stood := { row := armorSignsRow, standIns := [], harness := (true, "45a453f609a6a0186f3dacc400cf096183448f43e4dd64866d41058b6ed3a08c"), looks := false }, kinds := [], alts := [], laidByText := true, laidKinds := [.data, .pinned], laidTests := true, laidLooks := .later }
def ArmorSignsCardSaid : Prop := Claim7.holds Tryd.pinned (.plain (OpenSpec.ofChange armorSignsSpec)) armorSignsCard

/-- THE TIED CARD OF 'montagelaw42.ArmorBack'. -/
def armorBackCard : Claim7 := { stood := { row := armorBackRow, standIns := [], harness := (true, "45a453f609a6a0186f3dacc400cf096183448f43e4dd64866d41058b6ed3a08c"), looks := false }, kinds := [], alts := [], laidByText := true, laidKinds := [.data, .pinned], laidTests := true, laidLooks := .later }
def ArmorBackCardSaid : Prop := Claim7.holds Tryd.pinned (.plain (OpenSpec.ofChange armorBackSpec)) armorBackCard

/-- THE SECOND FORM's CARD OF 'montagelaw42.ArmorSigns'. -/
def armorSignsUptoCard : Claim7 := { stood := { row := armorSignsUptoRow, standIns := [], harness := (true, "45a453f609a6a0186f3dacc400cf096183448f43e4dd64866d41058b6ed3a08c"), looks := false }, kinds := [], alts := [], laidByText := true, laidKinds := [.data, .pinned], laidTests := true, laidLooks := .later }
def ArmorSignsUptoCardSaid : Prop := Claim7.holds Tryd.pinned (.plain (OpenSpec.upto armorSignsSpec)) armorSignsUptoCard

/-- THE SECOND FORM's CARD OF 'montagelaw42.ArmorBack'. -/
def armorBackUptoCard : Claim7 := { stood := { row := armorBackUptoRow, standIns := [], harness := (true, "45a453f609a6a0186f3dacc400cf096183448f43e4dd64866d41058b6ed3a08c"), looks := false }, kinds := [], alts := [], laidByText := true, laidKinds := [.data, .pinned], laidTests := true, laidLooks := .later }
def ArmorBackUptoCardSaid : Prop := Claim7.holds Tryd.pinned (.plain (OpenSpec.upto armorBackSpec)) armorBackUptoCard
end Rows
end Go.Proofs.YtdnahkeiidbihaaDoor
