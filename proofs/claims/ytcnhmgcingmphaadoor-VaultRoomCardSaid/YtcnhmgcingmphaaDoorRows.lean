/-
  NARROWER THAN 'FOR EVERY INPUT', by the rows' own cells (each row's printed sentence says how): VaultTorn: laid · VaultNumbers: laid · VaultAgain: laid · VaultRoom: laid · VaultForgets: laid · VaultSequence: laid.
  DERIVED. THE GIVEN ROWS OF THIS SEAT. 6 by the template 'for every input the law returns true; each argument reads behind the call as it read before'; 0 by the template 'total and deterministic' (their statements: YtcnhmgcingmphaaDoorTotals.lean).
  GIVEN WITH THE SEED: the statements are not yours to turn. If you find one false, say at which input.
  Laid BY PROGRAM, IN A SANDBOX (cutbox-rows.mjs): the forced cells as the released guide's own fill.sh prints them over the translation 41eff72fd3c56ef4… (all of the seat's roots in one cut). By AI agents, Wed Nov 11 2026. No macro, syntax, notation, axiom, sorry.
-/
import Derived.Test.YtcnhmgcingmphaaDoorChecked
import GoSem.Claim
import GoSem.ClaimJoined
import GoSem.ClaimMapViews
import Derived.JoinedTies
import Derived.KernelRfl
namespace Go.Proofs.YtcnhmgcingmphaaDoor
/- THE CELL 'sum', in the pinned program and in every row, IS THE sha256 OF THE DUMP (.gsa) THAT YtcnhmgcingmphaaDoorProg.lean LOADS. Nothing in Lean hashes anything: it is a label: what it is worth is what the hold of that sum in a sandbox is worth. -/
noncomputable def Tryd.pinned : Pinned := { name := "ytcnhmgcingmphaadoor", sum := "41eff72fd3c56ef401d620f68f07b920d1a45d67782fcee4102b984df483a259", checked := Tryd.checked }
namespace Rows
def none {H : Type} : Left H := { results := [], args := [] }

/- WHAT THE LISTED PACKAGE-LEVEL VARIABLES READ AS WHEN THE CALL BEGINS. Each datum BY PROGRAM (the guide's laid-datum.mjs) off the statement by which the dump's own 'gosem.cut.vars' lays the variable. In a bare row this is a premise. The card (YtcnhmgcingmphaaDoorCards.lean) ties it to the program's text. -/
def laid_chargepark_vault_widths {H : Type} : DataW H := .agg [.lit (.int .i64 4), .lit (.int .i64 1), .lit (.int .i64 1), .lit (.int .i64 4), .lit (.int .i64 2)]

/-- 'chargeparklaw19.VaultTorn': WHATEVER THE INPUT: true; the input reads as it did. -/
def vaultTornSpec : ChangeSpec := { name := "vaultTorn", fn := fun _ => fun
  | [d1, d2, d3] => { results := [.lit (.bool true)], args := [d1, d2, d3] }
  | _ => none }
def vaultTornRow : OpenClaim := { program := "ytcnhmgcingmphaadoor", sum := "41eff72fd3c56ef401d620f68f07b920d1a45d67782fcee4102b984df483a259", func := "chargepark/chargeparklaw19.VaultTorn", spec := "vaultTorn", inPlace := ["internal/reflectlite.TypeOf"], unfollowed := true, recurses := true, named := ["chargepark/vault.widths"], apart := false, laid := [("chargepark/vault.widths", laid_chargepark_vault_widths)] }
def VaultTornSaid : Prop := vaultTornRow.holds Tryd.pinned (OpenSpec.ofChange vaultTornSpec)

/-- ITS FALSE NEIGHBOUR: 'it returns false'. Refute it at one input. -/
def vaultTornWrong : ChangeSpec := { name := "vaultTorn", fn := fun _ => fun
  | [d1, d2, d3] => { results := [.lit (.bool false)], args := [d1, d2, d3] }
  | _ => none }
def VaultTornWrongFalsely : Prop := vaultTornRow.holds Tryd.pinned (OpenSpec.ofChange vaultTornWrong)

/-- 'chargeparklaw19.VaultNumbers': WHATEVER THE INPUT: true; the input reads as it did. -/
def vaultNumbersSpec : ChangeSpec := { name := "vaultNumbers", fn := fun _ => fun
  | [d1, d2] => { results := [.lit (.bool true)], args := [d1, d2] }
  | _ => none }
def vaultNumbersRow : OpenClaim := { program := "ytcnhmgcingmphaadoor", sum := "41eff72fd3c56ef401d620f68f07b920d1a45d67782fcee4102b984df483a259", func := "chargepark/chargeparklaw19.VaultNumbers", spec := "vaultNumbers", inPlace := ["internal/reflectlite.TypeOf"], unfollowed := true, recurses := true, named := ["chargepark/vault.widths"], apart := false, laid := [("chargepark/vault.widths", laid_chargepark_vault_widths)] }
def VaultNumbersSaid : Prop := vaultNumbersRow.holds Tryd.pinned (OpenSpec.ofChange vaultNumbersSpec)

/-- ITS FALSE NEIGHBOUR: 'it returns false'. Refute it at one input. -/
def vaultNumbersWrong : ChangeSpec := { name := "vaultNumbers", fn := fun _ => fun
  | [d1, d2] => { results := [.lit (.bool false)], args := [d1, d2] }
  | _ => none }
def VaultNumbersWrongFalsely : Prop := vaultNumbersRow.holds Tryd.pinned (OpenSpec.ofChange vaultNumbersWrong)

/-- 'chargeparklaw19.VaultAgain': WHATEVER THE INPUT: true; the input reads as it did. -/
def vaultAgainSpec : ChangeSpec := { name := "vaultAgain", fn := fun _ => fun
  | [d1, d2, d3, d4] => { results := [.lit (.bool true)], args := [d1, d2, d3, d4] }
  | _ => none }
def vaultAgainRow : OpenClaim := { program := "ytcnhmgcingmphaadoor", sum := "41eff72fd3c56ef401d620f68f07b920d1a45d67782fcee4102b984df483a259", func := "chargepark/chargeparklaw19.VaultAgain", spec := "vaultAgain", inPlace := ["internal/reflectlite.TypeOf"], unfollowed := true, recurses := true, named := ["chargepark/vault.widths"], apart := false, laid := [("chargepark/vault.widths", laid_chargepark_vault_widths)] }
def VaultAgainSaid : Prop := vaultAgainRow.holds Tryd.pinned (OpenSpec.ofChange vaultAgainSpec)

/-- ITS FALSE NEIGHBOUR: 'it returns false'. Refute it at one input. -/
def vaultAgainWrong : ChangeSpec := { name := "vaultAgain", fn := fun _ => fun
  | [d1, d2, d3, d4] => { results := [.lit (.bool false)], args := [d1, d2, d3, d4] }
  | _ => none }
def VaultAgainWrongFalsely : Prop := vaultAgainRow.holds Tryd.pinned (OpenSpec.ofChange vaultAgainWrong)

/-- 'chargeparklaw19.VaultRoom': WHATEVER THE INPUT: true; the input reads as it did. -/
def vaultRoomSpec : ChangeSpec := { name := "vaultRoom", fn := fun _ => fun
  | [d] => { results := [.lit (.bool true)], args := [d] }
  | _ => none }
def vaultRoomRow : OpenClaim := { program := "ytcnhmgcingmphaadoor", sum := "41eff72fd3c56ef401d620f68f07b920d1a45d67782fcee4102b984df483a259", func := "chargepark/chargeparklaw19.VaultRoom", spec := "vaultRoom", inPlace := ["internal/reflectlite.TypeOf"], unfollowed := true, recurses := true, named := ["chargepark/vault.widths"], apart := false, laid := [("chargepark/vault.widths", laid_chargepark_vault_widths)] }
def VaultRoomSaid : Prop := vaultRoomRow.holds Tryd.pinned (OpenSpec.ofChange vaultRoomSpec)

/-- ITS FALSE NEIGHBOUR: 'it returns false'. Refute it at one input. -/
def vaultRoomWrong : ChangeSpec := { name := "vaultRoom", fn := fun _ => fun
  | [d] => { results := [.lit (.bool false)], args := [d] }
  | _ => none }
def VaultRoomWrongFalsely : Prop := vaultRoomRow.holds Tryd.pinned (OpenSpec.ofChange vaultRoomWrong)

/-- 'chargeparklaw19.VaultForgets': WHATEVER THE INPUT: true; the input reads as it did. -/
def vaultForgetsSpec : ChangeSpec := { name := "vaultForgets", fn := fun _ => fun
  | [d1, d2, d3, d4] => { results := [.lit (.bool true)], args := [d1, d2, d3, d4] }
  | _ => none }
def vaultForgetsRow : OpenClaim := { program := "ytcnhmgcingmphaadoor", sum := "41eff72fd3c56ef401d620f68f07b920d1a45d67782fcee4102b984df483a259", func := "chargepark/chargeparklaw19.VaultForgets", spec := "vaultForgets", inPlace := ["internal/reflectlite.TypeOf"], unfollowed := true, recurses := true, named := ["chargepark/vault.widths"], apart := false, laid := [("chargepark/vault.widths", laid_chargepark_vault_widths)] }
def VaultForgetsSaid : Prop := vaultForgetsRow.holds Tryd.pinned (OpenSpec.ofChange vaultForgetsSpec)

/-- ITS FALSE NEIGHBOUR: 'it returns false'. Refute it at one input. -/
def vaultForgetsWrong : ChangeSpec := { name := "vaultForgets", fn := fun _ => fun
  | [d1, d2, d3, d4] => { results := [.lit (.bool false)], args := [d1, d2, d3, d4] }
  | _ => none }
def VaultForgetsWrongFalsely : Prop := vaultForgetsRow.holds Tryd.pinned (OpenSpec.ofChange vaultForgetsWrong)

/-- 'chargeparklaw19.VaultSequence': WHATEVER THE INPUT: true; the input reads as it did. -/
def vaultSequenceSpec : ChangeSpec := { name := "vaultSequence", fn := fun _ => fun
  | [d1, d2] => { results := [.lit (.bool true)], args := [d1, d2] }
  | _ => none }
def vaultSequenceRow : OpenClaim := { program := "ytcnhmgcingmphaadoor", sum := "41eff72fd3c56ef401d620f68f07b920d1a45d67782fcee4102b984df483a259", func := "chargepark/chargeparklaw19.VaultSequence", spec := "vaultSequence", inPlace := ["internal/reflectlite.TypeOf"], unfollowed := true, recurses := true, named := ["chargepark/vault.widths"], apart := false, laid := [("chargepark/vault.widths", laid_chargepark_vault_widths)] }
def VaultSequenceSaid : Prop := vaultSequenceRow.holds Tryd.pinned (OpenSpec.ofChange vaultSequenceSpec)

/-- ITS FALSE NEIGHBOUR: 'it returns false'. Refute it at one input. -/
def vaultSequenceWrong : ChangeSpec := { name := "vaultSequence", fn := fun _ => fun
  | [d1, d2] => { results := [.lit (.bool false)], args := [d1, d2] }
  | _ => none }
def VaultSequenceWrongFalsely : Prop := vaultSequenceRow.holds Tryd.pinned (OpenSpec.ofChange vaultSequenceWrong)

/- THE SECOND FORM. 'bulk': how many values and letters a reading holds, each counted each time it is reached (what is shared counts as often as it is met; a slice's spare places count too). A statement '..UptoSaid' is the law's where the arguments, and the package variables that the reading takes, are together of bulk at most 1048576: NARROWER than '..Said'. Prove '..Said' where nothing that the law and all that it calls make is longer than what came in: it says more and counts as full. Else prove '..UptoSaid'. A law counts once. -/
mutual
def uptoBulk {H : Type} : DataW H → Nat
  | .lit (.string bytes) => bytes.length + 1
  | .lit _ => 1
  | .nil => 1
  | .ptr d => uptoBulk d + 1
  | .slice elems spare => uptoBulkAll elems + uptoBulkAll spare + 1
  | .agg parts => uptoBulkAll parts + 1
  | .iface _ d => uptoBulk d + 1
  | .map entries => uptoBulkEntries entries + 1
  | .held _ => 1
def uptoBulkAll {H : Type} : List (DataW H) → Nat
  | [] => 0
  | d :: r => uptoBulk d + uptoBulkAll r
def uptoBulkEntries {H : Type} : List (Lit × DataW H) → Nat
  | [] => 0
  | x :: r => uptoBulkEntry x + uptoBulkEntries r
def uptoBulkEntry {H : Type} : Lit × DataW H → Nat
  | (.string bytes, d) => bytes.length + uptoBulk d + 1
  | (_, d) => uptoBulk d + 1
 end
def uptoSmall : (H : Type) → List (DataW H) → Bool := fun _ ds => decide (uptoBulkAll ds ≤ 1048576)
def OpenSpec.upto (s : _root_.Go.ChangeSpec) : _root_.Go.OpenSpec := { _root_.Go.OpenSpec.ofChange s with cond := some uptoSmall }

/-- 'chargeparklaw19.VaultTorn', WHERE WHAT IT READS IS OF BULK AT MOST 1048576: true; the input reads as it did. -/
def vaultTornUptoRow : OpenClaim := { program := "ytcnhmgcingmphaadoor", sum := "41eff72fd3c56ef401d620f68f07b920d1a45d67782fcee4102b984df483a259", func := "chargepark/chargeparklaw19.VaultTorn", spec := "vaultTorn", inPlace := ["internal/reflectlite.TypeOf"], unfollowed := true, recurses := true, named := ["chargepark/vault.widths"], apart := false, laid := [("chargepark/vault.widths", laid_chargepark_vault_widths)], narrowed := true }
def VaultTornUptoSaid : Prop := vaultTornUptoRow.holds Tryd.pinned (OpenSpec.upto vaultTornSpec)

/-- 'chargeparklaw19.VaultNumbers', WHERE WHAT IT READS IS OF BULK AT MOST 1048576: true; the input reads as it did. -/
def vaultNumbersUptoRow : OpenClaim := { program := "ytcnhmgcingmphaadoor", sum := "41eff72fd3c56ef401d620f68f07b920d1a45d67782fcee4102b984df483a259", func := "chargepark/chargeparklaw19.VaultNumbers", spec := "vaultNumbers", inPlace := ["internal/reflectlite.TypeOf"], unfollowed := true, recurses := true, named := ["chargepark/vault.widths"], apart := false, laid := [("chargepark/vault.widths", laid_chargepark_vault_widths)], narrowed := true }
def VaultNumbersUptoSaid : Prop := vaultNumbersUptoRow.holds Tryd.pinned (OpenSpec.upto vaultNumbersSpec)

/-- 'chargeparklaw19.VaultAgain', WHERE WHAT IT READS IS OF BULK AT MOST 1048576: true; the input reads as it did. -/
def vaultAgainUptoRow : OpenClaim := { program := "ytcnhmgcingmphaadoor", sum := "41eff72fd3c56ef401d620f68f07b920d1a45d67782fcee4102b984df483a259", func := "chargepark/chargeparklaw19.VaultAgain", spec := "vaultAgain", inPlace := ["internal/reflectlite.TypeOf"], unfollowed := true, recurses := true, named := ["chargepark/vault.widths"], apart := false, laid := [("chargepark/vault.widths", laid_chargepark_vault_widths)], narrowed := true }
def VaultAgainUptoSaid : Prop := vaultAgainUptoRow.holds Tryd.pinned (OpenSpec.upto vaultAgainSpec)

/-- 'chargeparklaw19.VaultRoom', WHERE WHAT IT READS IS OF BULK AT MOST 1048576: true; the input reads as it did. -/
def vaultRoomUptoRow : OpenClaim := { program := "ytcnhmgcingmphaadoor", sum := "41eff72fd3c56ef401d620f68f07b920d1a45d67782fcee4102b984df483a259", func := "chargepark/chargeparklaw19.VaultRoom", spec := "vaultRoom", inPlace := ["internal/reflectlite.TypeOf"], unfollowed := true, recurses := true, named := ["chargepark/vault.widths"], apart := false, laid := [("chargepark/vault.widths", laid_chargepark_vault_widths)], narrowed := true }
def VaultRoomUptoSaid : Prop := vaultRoomUptoRow.holds Tryd.pinned (OpenSpec.upto vaultRoomSpec)

/-- 'chargeparklaw19.VaultForgets', WHERE WHAT IT READS IS OF BULK AT MOST 1048576: true; the input reads as it did. -/
def vaultForgetsUptoRow : OpenClaim := { program := "ytcnhmgcingmphaadoor", sum := "41eff72fd3c56ef401d620f68f07b920d1a45d67782fcee4102b984df483a259", func := "chargepark/chargeparklaw19.VaultForgets", spec := "vaultForgets", inPlace := ["internal/reflectlite.TypeOf"], unfollowed := true, recurses := true, named := ["chargepark/vault.widths"], apart := false, laid := [("chargepark/vault.widths", laid_chargepark_vault_widths)], narrowed := true }
def VaultForgetsUptoSaid : Prop := vaultForgetsUptoRow.holds Tryd.pinned (OpenSpec.upto vaultForgetsSpec)

/-- 'chargeparklaw19.VaultSequence', WHERE WHAT IT READS IS OF BULK AT MOST 1048576: true; the input reads as it did. -/
def vaultSequenceUptoRow : OpenClaim := { program := "ytcnhmgcingmphaadoor", sum := "41eff72fd3c56ef401d620f68f07b920d1a45d67782fcee4102b984df483a259", func := "chargepark/chargeparklaw19.VaultSequence", spec := "vaultSequence", inPlace := ["internal/reflectlite.TypeOf"], unfollowed := true, recurses := true, named := ["chargepark/vault.widths"], apart := false, laid := [("chargepark/vault.widths", laid_chargepark_vault_widths)], narrowed := true }
def VaultSequenceUptoSaid : Prop := vaultSequenceUptoRow.holds Tryd.pinned (OpenSpec.upto vaultSequenceSpec)

end Rows
end Go.Proofs.YtcnhmgcingmphaaDoor
