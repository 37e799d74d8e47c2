/-
  DERIVED. GIVEN WITH THE SEED: THE CARDS: each row of YthebojaminploaaGreatDoorRows.lean that lists a variable, with what it lists TIED to the program's text (the seventh form; the later family's looks); each row that meets fmt, with fmt's text TOLD by the authors' own Lean function (tested against real Go, not proved from fmt's source: count such statements apart). THE CARD IS WHAT COUNTS. Prove the row's statement (the work); the ties are given (YthebojaminploaaGreatDoorTie.lean); close each card by the builder's one call (the guide's Derived/Test/ToyasCard.lean, 'card_holds'). Laid BY PROGRAM, IN A SANDBOX (cutbox-door.mjs). By AI agents, Wed Nov 11 2026. No macro, syntax, notation, axiom, sorry.
-/
import Derived.Test.YthebojaminploaaGreatDoorRows
import GoSem.ClaimSeven
namespace Go.Proofs.YthebojaminploaaGreatDoor
namespace Rows

/-- THE TIED CARD OF 'chargeparklaw19.VaultMatchesReference'. -/
def vaultMatchesReferenceCard : Claim7 := { stood := { row := vaultMatchesReferenceRow, standIns := [], harness := (true, "086abcfe7caf4b8fcb4fb0ab6921a7e1a0a0e6d2f066f5097d46a6b2d6c59554"), looks := true }, kinds := [], alts := [], laidByText := true, laidKinds := [.data], laidTests := true, laidLooks := .later }
def VaultMatchesReferenceCardSaid : Prop := Claim7.holds Tryz.pinned (.plain (OpenSpec.ofChange vaultMatchesReferenceSpec)) vaultMatchesReferenceCard

/-- THE SECOND FORM's CARD OF 'chargeparklaw19.VaultMatchesReference'. -/
def vaultMatchesReferenceUptoCard : Claim7 := { stood := { row := vaultMatchesReferenceUptoRow, standIns := [], harness := (true, "086abcfe7caf4b8fcb4fb0ab6921a7e1a0a0e6d2f066f5097d46a6b2d6c59554"), looks := true }, kinds := [], alts := [], laidByText := true, laidKinds := [.data], laidTests := true, laidLooks := .later }
def VaultMatchesReferenceUptoCardSaid : Prop := Claim7.holds Tryz.pinned (.plain (OpenSpec.upto vaultMatchesReferenceSpec)) vaultMatchesReferenceUptoCard
end Rows
end Go.Proofs.YthebojaminploaaGreatDoor
