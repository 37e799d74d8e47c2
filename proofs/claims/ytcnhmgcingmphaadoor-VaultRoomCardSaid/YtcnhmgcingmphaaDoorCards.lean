/-
  DERIVED. GIVEN WITH THE SEED: THE CARDS: each row of YtcnhmgcingmphaaDoorRows.lean that lists a variable, with what it lists TIED to the program's text (the seventh form; the later family's looks); each row that meets fmt, with fmt's text TOLD by the authors' own Lean function (tested against real Go, not proved from fmt's source: count such statements apart). THE CARD IS WHAT COUNTS. Prove the row's statement (the work); the ties are given (YtcnhmgcingmphaaDoorTie.lean); close each card by the builder's one call (the guide's Derived/Test/ToyasCard.lean, 'card_holds'). Laid BY PROGRAM, IN A SANDBOX (cutbox-door.mjs). By AI agents, Wed Nov 11 2026. No macro, syntax, notation, axiom, sorry.
-/
import Derived.Test.YtcnhmgcingmphaaDoorRows
import GoSem.ClaimSeven
namespace Go.Proofs.YtcnhmgcingmphaaDoor
namespace Rows

/-- THE TIED CARD OF 'chargeparklaw19.VaultTorn'. -/
def vaultTornCard : Claim7 := { stood := { row := vaultTornRow, standIns := [], harness := (true, "118869ce1e8037fc0444ba4ca30f3cc6993daa77b216df2aa7c44cd87d5d016b"), looks := true }, kinds := [], alts := [], laidByText := true, laidKinds := [.data], laidTests := true, laidLooks := .later }
def VaultTornCardSaid : Prop := Claim7.holds Tryd.pinned (.plain (OpenSpec.ofChange vaultTornSpec)) vaultTornCard

/-- THE TIED CARD OF 'chargeparklaw19.VaultNumbers'. -/
def vaultNumbersCard : Claim7 := { stood := { row := vaultNumbersRow, standIns := [], harness := (true, "118869ce1e8037fc0444ba4ca30f3cc6993daa77b216df2aa7c44cd87d5d016b"), looks := true }, kinds := [], alts := [], laidByText := true, laidKinds := [.data], laidTests := true, laidLooks := .later }
def VaultNumbersCardSaid : Prop := Claim7.holds Tryd.pinned (.plain (OpenSpec.ofChange vaultNumbersSpec)) vaultNumbersCard

/-- THE TIED CARD OF 'chargeparklaw19.VaultAgain'. -/
def vaultAgainCard : Claim7 := { stood := { row := vaultAgainRow, standIns := [], harness := (true, "118869ce1e8037fc0444ba4ca30f3cc6993daa77b216df2aa7c44cd87d5d016b"), looks := true }, kinds := [], alts := [], laidByText := true, laidKinds := [.data], laidTests := true, laidLooks := .later }
def VaultAgainCardSaid : Prop := Claim7.holds Tryd.pinned (.plain (OpenSpec.ofChange vaultAgainSpec)) vaultAgainCard

/-- THE TIED CARD OF 'chargeparklaw19.VaultRoom'. -/
def vaultRoomCard : Claim7 := { stood := { row := vaultRoomRow, standIns := [], harness := (true, "118869ce1e8037fc0444ba4ca30f3cc6993daa77b216df2aa7c44cd87d5d016b"), looks := true }, kinds := [], alts := [], laidByText := true, laidKinds := [.data], laidTests := true, laidLooks := .later }
def VaultRoomCardSaid : Prop := Claim7.holds Tryd.pinned (.plain (OpenSpec.ofChange vaultRoomSpec)) vaultRoomCard

/-- THE TIED CARD OF 'chargeparklaw19.VaultForgets'. -/
def vaultForgetsCard : Claim7 := { stood := { row := vaultForgetsRow, standIns := [], harness := (true, "118869ce1e8037fc0444ba4ca30f3cc6993daa77b216df2aa7c44cd87d5d016b"), looks := true }, kinds := [], alts := [], laidByText := true, laidKinds := [.data], laidTests := true, laidLooks := .later }
def VaultForgetsCardSaid : Prop := Claim7.holds Tryd.pinned (.plain (OpenSpec.ofChange vaultForgetsSpec)) vaultForgetsCard

/-- THE TIED CARD OF 'chargeparklaw19.VaultSequence'. -/
def vaultSequenceCard : Claim7 := { stood := { row := vaultSequenceRow, standIns := [], harness := (true, "118869ce1e8037fc0444ba4ca30f3cc6993daa77b216df2aa7c44cd87d5d016b"), looks := true }, kinds := [], alts := [], laidByText := true, laidKinds := [.data], laidTests := true, laidLooks := .later }
def VaultSequenceCardSaid : Prop := Claim7.holds Tryd.pinned (.plain (OpenSpec.ofChange vaultSequenceSpec)) vaultSequenceCard

/-- THE SECOND FORM's CARD OF 'chargeparklaw19.VaultTorn'. -/
def vaultTornUptoCard : Claim7 := { stood := { row := vaultTornUptoRow, standIns := [], harness := (true, "118869ce1e8037fc0444ba4ca30f3cc6993daa77b216df2aa7c44cd87d5d016b"), looks := true }, kinds := [], alts := [], laidByText := true, laidKinds := [.data], laidTests := true, laidLooks := .later }
def VaultTornUptoCardSaid : Prop := Claim7.holds Tryd.pinned (.plain (OpenSpec.upto vaultTornSpec)) vaultTornUptoCard

/-- THE SECOND FORM's CARD OF 'chargeparklaw19.VaultNumbers'. -/
def vaultNumbersUptoCard : Claim7 := { stood := { row := vaultNumbersUptoRow, standIns := [], harness := (true, "118869ce1e8037fc0444ba4ca30f3cc6993daa77b216df2aa7c44cd87d5d016b"), looks := true }, kinds := [], alts := [], laidByText := true, laidKinds := [.data], laidTests := true, laidLooks := .later }
def VaultNumbersUptoCardSaid : Prop := Claim7.holds Tryd.pinned (.plain (OpenSpec.upto vaultNumbersSpec)) vaultNumbersUptoCard

/-- THE SECOND FORM's CARD OF 'chargeparklaw19.VaultAgain'. -/
def vaultAgainUptoCard : Claim7 := { stood := { row := vaultAgainUptoRow, standIns := [], harness := (true, "118869ce1e8037fc0444ba4ca30f3cc6993daa77b216df2aa7c44cd87d5d016b"), looks := true }, kinds := [], alts := [], laidByText := true, laidKinds := [.data], laidTests := true, laidLooks := .later }
def VaultAgainUptoCardSaid : Prop := Claim7.holds Tryd.pinned (.plain (OpenSpec.upto vaultAgainSpec)) vaultAgainUptoCard

/-- THE SECOND FORM's CARD OF 'chargeparklaw19.VaultRoom'. -/
def vaultRoomUptoCard : Claim7 := { stood := { row := vaultRoomUptoRow, standIns := [], harness := (true, "118869ce1e8037fc0444ba4ca30f3cc6993daa77b216df2aa7c44cd87d5d016b"), looks := true }, kinds := [], alts := [], laidByText := true, laidKinds := [.data], laidTests := true, laidLooks := .later }
def VaultRoomUptoCardSaid : Prop := Claim7.holds Tryd.pinned (.plain (OpenSpec.upto vaultRoomSpec)) vaultRoomUptoCard

/-- THE SECOND FORM's CARD OF 'chargeparklaw19.VaultForgets'. -/
def vaultForgetsUptoCard : Claim7 := { stood := { row := vaultForgetsUptoRow, standIns := [], harness := (true, "118869ce1e8037fc0444ba4ca30f3cc6993daa77b216df2aa7c44cd87d5d016b"), looks := true }, kinds := [], alts := [], laidByText := true, laidKinds := [.data], laidTests := true, laidLooks := .later }
def VaultForgetsUptoCardSaid : Prop := Claim7.holds Tryd.pinned (.plain (OpenSpec.upto vaultForgetsSpec)) vaultForgetsUptoCard

/-- THE SECOND FORM's CARD OF 'chargeparklaw19.VaultSequence'. -/
def vaultSequenceUptoCard : Claim7 := { stood := { row := vaultSequenceUptoRow, standIns := [], harness := (true, "118869ce1e8037fc0444ba4ca30f3cc6993daa77b216df2aa7c44cd87d5d016b"), looks := true }, kinds := [], alts := [], laidByText := true, laidKinds := [.data], laidTests := true, laidLooks := .later }
def VaultSequenceUptoCardSaid : Prop := Claim7.holds Tryd.pinned (.plain (OpenSpec.upto vaultSequenceSpec)) vaultSequenceUptoCard
end Rows
end Go.Proofs.YtcnhmgcingmphaaDoor
