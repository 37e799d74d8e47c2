/-
  DERIVED. GIVEN WITH THE SEED: THE CARDS: each row of YthmipmdpdfdlaaaDoorRows.lean that lists a variable, with what it lists TIED to the program's text (the seventh form; the later family's looks); each row that meets fmt, with fmt's text TOLD by the authors' own Lean function (tested against real Go, not proved from fmt's source: count such statements apart). THE CARD IS WHAT COUNTS. Prove the row's statement (the work); the ties are given (YthmipmdpdfdlaaaDoorTie.lean); close each card by the builder's one call (the guide's Derived/Test/ToyasCard.lean, 'card_holds'). Laid BY PROGRAM, IN A SANDBOX (cutbox-door.mjs). By AI agents, Wed Nov 11 2026. No macro, syntax, notation, axiom, sorry.
-/
import Derived.Test.YthmipmdpdfdlaaaDoorRows
import GoSem.ClaimSeven
namespace Go.Proofs.YthmipmdpdfdlaaaDoor
namespace Rows

/-- THE TIED CARD OF 'chargeparktop.TopMisreads'. -/
def topMisreadsCard : Claim7 := { stood := { row := topMisreadsRow, standIns := [], harness := (true, "c090009057c91f897d43f6aa6ec5d26bed54c2beb9fa9b2c1aa4ff2e2debdf2f"), looks := false }, kinds := [], alts := [], laidByText := true, laidKinds := [.data], laidTests := true, laidLooks := .later }
def TopMisreadsCardSaid : Prop := Claim7.holds Tryd.pinned (.plain (OpenSpec.ofChange topMisreadsSpec)) topMisreadsCard

/-- THE TIED CARD OF 'chargeparktop.TopStrays'. -/
def topStraysCard : Claim7 := { stood := { row := topStraysRow, standIns := [], harness := (true, "c090009057c91f897d43f6aa6ec5d26bed54c2beb9fa9b2c1aa4ff2e2debdf2f"), looks := false }, kinds := [], alts := [], laidByText := true, laidKinds := [.data], laidTests := true, laidLooks := .later }
def TopStraysCardSaid : Prop := Claim7.holds Tryd.pinned (.plain (OpenSpec.ofChange topStraysSpec)) topStraysCard

/-- THE TIED CARD OF 'chargeparktop.TopVisits'. -/
def topVisitsCard : Claim7 := { stood := { row := topVisitsRow, standIns := [], harness := (true, "c090009057c91f897d43f6aa6ec5d26bed54c2beb9fa9b2c1aa4ff2e2debdf2f"), looks := false }, kinds := [], alts := [], laidByText := true, laidKinds := [.data], laidTests := true, laidLooks := .later }
def TopVisitsCardSaid : Prop := Claim7.holds Tryd.pinned (.plain (OpenSpec.ofChange topVisitsSpec)) topVisitsCard

/-- THE SECOND FORM's CARD OF 'chargeparktop.TopMisreads'. -/
def topMisreadsUptoCard : Claim7 := { stood := { row := topMisreadsUptoRow, standIns := [], harness := (true, "c090009057c91f897d43f6aa6ec5d26bed54c2beb9fa9b2c1aa4ff2e2debdf2f"), looks := false }, kinds := [], alts := [], laidByText := true, laidKinds := [.data], laidTests := true, laidLooks := .later }
def TopMisreadsUptoCardSaid : Prop := Claim7.holds Tryd.pinned (.plain (OpenSpec.upto topMisreadsSpec)) topMisreadsUptoCard

/-- THE SECOND FORM's CARD OF 'chargeparktop.TopStrays'. -/
def topStraysUptoCard : Claim7 := { stood := { row := topStraysUptoRow, standIns := [], harness := (true, "c090009057c91f897d43f6aa6ec5d26bed54c2beb9fa9b2c1aa4ff2e2debdf2f"), looks := false }, kinds := [], alts := [], laidByText := true, laidKinds := [.data], laidTests := true, laidLooks := .later }
def TopStraysUptoCardSaid : Prop := Claim7.holds Tryd.pinned (.plain (OpenSpec.upto topStraysSpec)) topStraysUptoCard

/-- THE SECOND FORM's CARD OF 'chargeparktop.TopVisits'. -/
def topVisitsUptoCard : Claim7 := { stood := { row := topVisitsUptoRow, standIns := [], harness := (true, "c090009057c91f897d43f6aa6ec5d26bed54c2beb9fa9b2c1aa4ff2e2debdf2f"), looks := false }, kinds := [], alts := [], laidByText := true, laidKinds := [.data], laidTests := true, laidLooks := .later }
def TopVisitsUptoCardSaid : Prop := Claim7.holds Tryd.pinned (.plain (OpenSpec.upto topVisitsSpec)) topVisitsUptoCard
end Rows
end Go.Proofs.YthmipmdpdfdlaaaDoor
