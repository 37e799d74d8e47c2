/-
  DERIVED. GIVEN WITH THE SEED: THE CARDS: each row of YtlfogcidklpeiaaDoorRows.lean that lists a variable, with what it lists TIED to the program's text (the seventh form; the later family's looks); each row that meets fmt, with fmt's text TOLD by the authors' own Lean function (tested against real Go, not proved from fmt's source: count such statements apart). THE CARD IS WHAT COUNTS. Prove the row's statement (the work); the ties are given (YtlfogcidklpeiaaDoorTie.lean); close each card by the builder's one call (the guide's Derived/Test/ToyasCard.lean, 'card_holds'). Laid BY PROGRAM, IN A SANDBOX (cutbox-door.mjs). By AI agents, Wed Nov 11 2026. No macro, syntax, notation, axiom, sorry.
-/
import Derived.Test.YtlfogcidklpeiaaDoorRows
import GoSem.ClaimSeven
namespace Go.Proofs.YtlfogcidklpeiaaDoor
namespace Rows

/-- THE TIED CARD OF 'chargeparktop.TopLeaseEnds'. -/
def topLeaseEndsCard : Claim7 := { stood := { row := topLeaseEndsRow, standIns := [], harness := (true, "c43c4b715faf52ac86dab993235a7834b4797012acd056afd76fb93ad7fb1736"), looks := false }, kinds := [], alts := [], laidByText := true, laidKinds := [.data], laidTests := true, laidLooks := .later }
def TopLeaseEndsCardSaid : Prop := Claim7.holds Tryd.pinned (.plain (OpenSpec.ofChange topLeaseEndsSpec)) topLeaseEndsCard

/-- THE SECOND FORM's CARD OF 'chargeparktop.TopLeaseEnds'. -/
def topLeaseEndsUptoCard : Claim7 := { stood := { row := topLeaseEndsUptoRow, standIns := [], harness := (true, "c43c4b715faf52ac86dab993235a7834b4797012acd056afd76fb93ad7fb1736"), looks := false }, kinds := [], alts := [], laidByText := true, laidKinds := [.data], laidTests := true, laidLooks := .later }
def TopLeaseEndsUptoCardSaid : Prop := Claim7.holds Tryd.pinned (.plain (OpenSpec.upto topLeaseEndsSpec)) topLeaseEndsUptoCard
end Rows
end Go.Proofs.YtlfogcidklpeiaaDoor
