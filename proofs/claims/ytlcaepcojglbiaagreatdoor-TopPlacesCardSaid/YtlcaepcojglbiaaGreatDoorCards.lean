/-
  DERIVED. GIVEN WITH THE SEED: THE CARDS: each row of YtlcaepcojglbiaaGreatDoorRows.lean that lists a variable, with what it lists TIED to the program's text (the seventh form; the later family's looks); each row that meets fmt, with fmt's text TOLD by the authors' own Lean function (tested against real Go, not proved from fmt's source: count such statements apart). THE CARD IS WHAT COUNTS. Prove the row's statement (the work); the ties are given (YtlcaepcojglbiaaGreatDoorTie.lean); close each card by the builder's one call (the guide's Derived/Test/ToyasCard.lean, 'card_holds'). Laid BY PROGRAM, IN A SANDBOX (cutbox-door.mjs). By AI agents, Wed Nov 11 2026. No macro, syntax, notation, axiom, sorry.
-/
import Derived.Test.YtlcaepcojglbiaaGreatDoorRows
import GoSem.ClaimSeven
namespace Go.Proofs.YtlcaepcojglbiaaGreatDoor
namespace Rows

/-- THE TIED CARD OF 'fuseetop.TopClocks'. -/
def topClocksCard : Claim7 := { stood := { row := topClocksRow, standIns := [], harness := (true, "740e9e9a863890e3193284a7ca04886d6766e2c904bd68d8b074ceae27c7dd61"), looks := false }, kinds := [], alts := [], laidByText := true, laidKinds := [.data], laidTests := true, laidLooks := .later }
def TopClocksCardSaid : Prop := Claim7.holds Tryz.pinned (.plain (OpenSpec.ofChange topClocksSpec)) topClocksCard

/-- THE TIED CARD OF 'fuseetop.TopPlaces'. -/
def topPlacesCard : Claim7 := { stood := { row := topPlacesRow, standIns := [], harness := (true, "740e9e9a863890e3193284a7ca04886d6766e2c904bd68d8b074ceae27c7dd61"), looks := false }, kinds := [], alts := [], laidByText := true, laidKinds := [.data], laidTests := true, laidLooks := .later }
def TopPlacesCardSaid : Prop := Claim7.holds Tryz.pinned (.plain (OpenSpec.ofChange topPlacesSpec)) topPlacesCard

/-- THE SECOND FORM's CARD OF 'fuseetop.TopClocks'. -/
def topClocksUptoCard : Claim7 := { stood := { row := topClocksUptoRow, standIns := [], harness := (true, "740e9e9a863890e3193284a7ca04886d6766e2c904bd68d8b074ceae27c7dd61"), looks := false }, kinds := [], alts := [], laidByText := true, laidKinds := [.data], laidTests := true, laidLooks := .later }
def TopClocksUptoCardSaid : Prop := Claim7.holds Tryz.pinned (.plain (OpenSpec.upto topClocksSpec)) topClocksUptoCard

/-- THE SECOND FORM's CARD OF 'fuseetop.TopPlaces'. -/
def topPlacesUptoCard : Claim7 := { stood := { row := topPlacesUptoRow, standIns := [], harness := (true, "740e9e9a863890e3193284a7ca04886d6766e2c904bd68d8b074ceae27c7dd61"), looks := false }, kinds := [], alts := [], laidByText := true, laidKinds := [.data], laidTests := true, laidLooks := .later }
def TopPlacesUptoCardSaid : Prop := Claim7.holds Tryz.pinned (.plain (OpenSpec.upto topPlacesSpec)) topPlacesUptoCard
end Rows
end Go.Proofs.YtlcaepcojglbiaaGreatDoor
