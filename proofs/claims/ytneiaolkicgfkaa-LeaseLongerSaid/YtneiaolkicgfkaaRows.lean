/-
  No cell of these rows narrows 'for every input' (looked for: loops, veiled, ifaces, maps, wideKeys, modest, calm, conditions, laid).
  DERIVED. THE GIVEN ROWS OF THIS SEAT. 7 by the template 'for every input the law returns true; each argument reads behind the call as it read before'; 0 by the template 'total and deterministic' (their statements: YtneiaolkicgfkaaTotals.lean).
  GIVEN WITH THE SEED: the statements are not yours to turn. If you find one false, say at which input.
  Laid BY PROGRAM, IN A SANDBOX (cutbox-rows.mjs): the forced cells as the released guide's own fill.sh prints them over the translation ef97b5b109e34e5d… (all of the seat's roots in one cut). By AI agents, Wed Nov 11 2026. No macro, syntax, notation, axiom, sorry.
-/
import Derived.Test.YtneiaolkicgfkaaChecked
import GoSem.Claim
import GoSem.ClaimJoined
import GoSem.ClaimMapViews
import Derived.JoinedTies
import Derived.KernelRfl
namespace Go.Proofs.Ytneiaolkicgfkaa
/- THE CELL 'sum', in the pinned program and in every row, IS THE sha256 OF THE DUMP (.gsa) THAT YtneiaolkicgfkaaProg.lean LOADS. Nothing in Lean hashes anything: it is a label: what it is worth is what the hold of that sum in a sandbox is worth. -/
noncomputable def Try.pinned : Pinned := { name := "ytneiaolkicgfkaa", sum := "ef97b5b109e34e5d1afa44b2d1e7043a572062faaa87846aa9d38bf0fa4501ee", checked := Try.checked }
namespace Rows
def none {H : Type} : Left H := { results := [], args := [] }

/-- 'chargeparklaw16.LeaseMatchesReference': WHATEVER THE INPUT: true; the input reads as it did. -/
def leaseMatchesReferenceSpec : ChangeSpec := { name := "leaseMatchesReference", fn := fun _ => fun
  | [d1, d2, d3, d4] => { results := [.lit (.bool true)], args := [d1, d2, d3, d4] }
  | _ => none }
def leaseMatchesReferenceRow : OpenClaim := { program := "ytneiaolkicgfkaa", sum := "ef97b5b109e34e5d1afa44b2d1e7043a572062faaa87846aa9d38bf0fa4501ee", func := "chargepark/chargeparklaw16.LeaseMatchesReference", spec := "leaseMatchesReference", unfollowed := true, recurses := true, apart := false }
def LeaseMatchesReferenceSaid : Prop := leaseMatchesReferenceRow.holds Try.pinned (OpenSpec.ofChange leaseMatchesReferenceSpec)

/-- ITS FALSE NEIGHBOUR: 'it returns false'. Refute it at one input. -/
def leaseMatchesReferenceWrong : ChangeSpec := { name := "leaseMatchesReference", fn := fun _ => fun
  | [d1, d2, d3, d4] => { results := [.lit (.bool false)], args := [d1, d2, d3, d4] }
  | _ => none }
def LeaseMatchesReferenceWrongFalsely : Prop := leaseMatchesReferenceRow.holds Try.pinned (OpenSpec.ofChange leaseMatchesReferenceWrong)

/-- 'chargeparklaw16.LeaseExpiring': WHATEVER THE INPUT: true; the input reads as it did. -/
def leaseExpiringSpec : ChangeSpec := { name := "leaseExpiring", fn := fun _ => fun
  | [d1, d2, d3] => { results := [.lit (.bool true)], args := [d1, d2, d3] }
  | _ => none }
def leaseExpiringRow : OpenClaim := { program := "ytneiaolkicgfkaa", sum := "ef97b5b109e34e5d1afa44b2d1e7043a572062faaa87846aa9d38bf0fa4501ee", func := "chargepark/chargeparklaw16.LeaseExpiring", spec := "leaseExpiring", unfollowed := true, recurses := true, apart := false }
def LeaseExpiringSaid : Prop := leaseExpiringRow.holds Try.pinned (OpenSpec.ofChange leaseExpiringSpec)

/-- ITS FALSE NEIGHBOUR: 'it returns false'. Refute it at one input. -/
def leaseExpiringWrong : ChangeSpec := { name := "leaseExpiring", fn := fun _ => fun
  | [d1, d2, d3] => { results := [.lit (.bool false)], args := [d1, d2, d3] }
  | _ => none }
def LeaseExpiringWrongFalsely : Prop := leaseExpiringRow.holds Try.pinned (OpenSpec.ofChange leaseExpiringWrong)

/-- 'chargeparklaw16.LeaseGrants': WHATEVER THE INPUT: true; the input reads as it did. -/
def leaseGrantsSpec : ChangeSpec := { name := "leaseGrants", fn := fun _ => fun
  | [d1, d2, d3] => { results := [.lit (.bool true)], args := [d1, d2, d3] }
  | _ => none }
def leaseGrantsRow : OpenClaim := { program := "ytneiaolkicgfkaa", sum := "ef97b5b109e34e5d1afa44b2d1e7043a572062faaa87846aa9d38bf0fa4501ee", func := "chargepark/chargeparklaw16.LeaseGrants", spec := "leaseGrants", unfollowed := true, recurses := true, apart := false }
def LeaseGrantsSaid : Prop := leaseGrantsRow.holds Try.pinned (OpenSpec.ofChange leaseGrantsSpec)

/-- ITS FALSE NEIGHBOUR: 'it returns false'. Refute it at one input. -/
def leaseGrantsWrong : ChangeSpec := { name := "leaseGrants", fn := fun _ => fun
  | [d1, d2, d3] => { results := [.lit (.bool false)], args := [d1, d2, d3] }
  | _ => none }
def LeaseGrantsWrongFalsely : Prop := leaseGrantsRow.holds Try.pinned (OpenSpec.ofChange leaseGrantsWrong)

/-- 'chargeparklaw16.LeaseEnds': WHATEVER THE INPUT: true; the input reads as it did. -/
def leaseEndsSpec : ChangeSpec := { name := "leaseEnds", fn := fun _ => fun
  | [d1, d2] => { results := [.lit (.bool true)], args := [d1, d2] }
  | _ => none }
def leaseEndsRow : OpenClaim := { program := "ytneiaolkicgfkaa", sum := "ef97b5b109e34e5d1afa44b2d1e7043a572062faaa87846aa9d38bf0fa4501ee", func := "chargepark/chargeparklaw16.LeaseEnds", spec := "leaseEnds", unfollowed := true, recurses := true, apart := false }
def LeaseEndsSaid : Prop := leaseEndsRow.holds Try.pinned (OpenSpec.ofChange leaseEndsSpec)

/-- ITS FALSE NEIGHBOUR: 'it returns false'. Refute it at one input. -/
def leaseEndsWrong : ChangeSpec := { name := "leaseEnds", fn := fun _ => fun
  | [d1, d2] => { results := [.lit (.bool false)], args := [d1, d2] }
  | _ => none }
def LeaseEndsWrongFalsely : Prop := leaseEndsRow.holds Try.pinned (OpenSpec.ofChange leaseEndsWrong)

/-- 'chargeparklaw16.LeaseParts': WHATEVER THE INPUT: true; the input reads as it did. -/
def leasePartsSpec : ChangeSpec := { name := "leaseParts", fn := fun _ => fun
  | [d1, d2, d3] => { results := [.lit (.bool true)], args := [d1, d2, d3] }
  | _ => none }
def leasePartsRow : OpenClaim := { program := "ytneiaolkicgfkaa", sum := "ef97b5b109e34e5d1afa44b2d1e7043a572062faaa87846aa9d38bf0fa4501ee", func := "chargepark/chargeparklaw16.LeaseParts", spec := "leaseParts", unfollowed := true, recurses := true, apart := false }
def LeasePartsSaid : Prop := leasePartsRow.holds Try.pinned (OpenSpec.ofChange leasePartsSpec)

/-- ITS FALSE NEIGHBOUR: 'it returns false'. Refute it at one input. -/
def leasePartsWrong : ChangeSpec := { name := "leaseParts", fn := fun _ => fun
  | [d1, d2, d3] => { results := [.lit (.bool false)], args := [d1, d2, d3] }
  | _ => none }
def LeasePartsWrongFalsely : Prop := leasePartsRow.holds Try.pinned (OpenSpec.ofChange leasePartsWrong)

/-- 'chargeparklaw16.LeaseLonger': WHATEVER THE INPUT: true; the input reads as it did. -/
def leaseLongerSpec : ChangeSpec := { name := "leaseLonger", fn := fun _ => fun
  | [d1, d2, d3, d4, d5] => { results := [.lit (.bool true)], args := [d1, d2, d3, d4, d5] }
  | _ => none }
def leaseLongerRow : OpenClaim := { program := "ytneiaolkicgfkaa", sum := "ef97b5b109e34e5d1afa44b2d1e7043a572062faaa87846aa9d38bf0fa4501ee", func := "chargepark/chargeparklaw16.LeaseLonger", spec := "leaseLonger", unfollowed := true, recurses := true, apart := false }
def LeaseLongerSaid : Prop := leaseLongerRow.holds Try.pinned (OpenSpec.ofChange leaseLongerSpec)

/-- ITS FALSE NEIGHBOUR: 'it returns false'. Refute it at one input. -/
def leaseLongerWrong : ChangeSpec := { name := "leaseLonger", fn := fun _ => fun
  | [d1, d2, d3, d4, d5] => { results := [.lit (.bool false)], args := [d1, d2, d3, d4, d5] }
  | _ => none }
def LeaseLongerWrongFalsely : Prop := leaseLongerRow.holds Try.pinned (OpenSpec.ofChange leaseLongerWrong)

/-- 'chargeparklaw16.LeaseTruth': WHATEVER THE INPUT: true; the input reads as it did. -/
def leaseTruthSpec : ChangeSpec := { name := "leaseTruth", fn := fun _ => fun
  | [d1, d2, d3, d4] => { results := [.lit (.bool true)], args := [d1, d2, d3, d4] }
  | _ => none }
def leaseTruthRow : OpenClaim := { program := "ytneiaolkicgfkaa", sum := "ef97b5b109e34e5d1afa44b2d1e7043a572062faaa87846aa9d38bf0fa4501ee", func := "chargepark/chargeparklaw16.LeaseTruth", spec := "leaseTruth", unfollowed := true, recurses := true, apart := false }
def LeaseTruthSaid : Prop := leaseTruthRow.holds Try.pinned (OpenSpec.ofChange leaseTruthSpec)

/-- ITS FALSE NEIGHBOUR: 'it returns false'. Refute it at one input. -/
def leaseTruthWrong : ChangeSpec := { name := "leaseTruth", fn := fun _ => fun
  | [d1, d2, d3, d4] => { results := [.lit (.bool false)], args := [d1, d2, d3, d4] }
  | _ => none }
def LeaseTruthWrongFalsely : Prop := leaseTruthRow.holds Try.pinned (OpenSpec.ofChange leaseTruthWrong)

/- THE SECOND FORM. 'bulk': how many values and letters a reading holds, each counted each time it is reached (what is shared counts as often as it is met; a slice's spare places count too). A statement '..UptoSaid' is the law's where the arguments, and the package variables that the reading takes, are together of bulk at most 1048576: NARROWER than '..Said'. Prove '..Said' where nothing that the law and all that it calls make is longer than what came in: it says more and counts as full. Else prove '..UptoSaid'. A law counts once. -/
mutual
def uptoBulk {H : Type} : DataW H → Nat
  | .lit (.string bytes) => bytes.length + 1
  | .lit _ => 1
  | .nil => 1
  | .ptr d => uptoBulk d + 1
  | .slice elems spare => uptoBulkAll elems + uptoBulkAll spare + 1
  | .agg parts => uptoBulkAll parts + 1
  | .iface _ d => uptoBulk d + 1
  | .map entries => uptoBulkEntries entries + 1
  | .held _ => 1
def uptoBulkAll {H : Type} : List (DataW H) → Nat
  | [] => 0
  | d :: r => uptoBulk d + uptoBulkAll r
def uptoBulkEntries {H : Type} : List (Lit × DataW H) → Nat
  | [] => 0
  | x :: r => uptoBulkEntry x + uptoBulkEntries r
def uptoBulkEntry {H : Type} : Lit × DataW H → Nat
  | (.string bytes, d) => bytes.length + uptoBulk d + 1
  | (_, d) => uptoBulk d + 1
 end
def uptoSmall : (H : Type) → List (DataW H) → Bool := fun _ ds => decide (uptoBulkAll ds ≤ 1048576)
def OpenSpec.upto (s : _root_.Go.ChangeSpec) : _root_.Go.OpenSpec := { _root_.Go.OpenSpec.ofChange s with cond := some uptoSmall }

/-- 'chargeparklaw16.LeaseMatchesReference', WHERE WHAT IT READS IS OF BULK AT MOST 1048576: true; the input reads as it did. -/
def leaseMatchesReferenceUptoRow : OpenClaim := { program := "ytneiaolkicgfkaa", sum := "ef97b5b109e34e5d1afa44b2d1e7043a572062faaa87846aa9d38bf0fa4501ee", func := "chargepark/chargeparklaw16.LeaseMatchesReference", spec := "leaseMatchesReference", unfollowed := true, recurses := true, apart := false, narrowed := true }
def LeaseMatchesReferenceUptoSaid : Prop := leaseMatchesReferenceUptoRow.holds Try.pinned (OpenSpec.upto leaseMatchesReferenceSpec)

/-- 'chargeparklaw16.LeaseExpiring', WHERE WHAT IT READS IS OF BULK AT MOST 1048576: true; the input reads as it did. -/
def leaseExpiringUptoRow : OpenClaim := { program := "ytneiaolkicgfkaa", sum := "ef97b5b109e34e5d1afa44b2d1e7043a572062faaa87846aa9d38bf0fa4501ee", func := "chargepark/chargeparklaw16.LeaseExpiring", spec := "leaseExpiring", unfollowed := true, recurses := true, apart := false, narrowed := true }
def LeaseExpiringUptoSaid : Prop := leaseExpiringUptoRow.holds Try.pinned (OpenSpec.upto leaseExpiringSpec)

/-- 'chargeparklaw16.LeaseGrants', WHERE WHAT IT READS IS OF BULK AT MOST 1048576: true; the input reads as it did. -/
def leaseGrantsUptoRow : OpenClaim := { program := "ytneiaolkicgfkaa", sum := "ef97b5b109e34e5d1afa44b2d1e7043a572062faaa87846aa9d38bf0fa4501ee", func := "chargepark/chargeparklaw16.LeaseGrants", spec := "leaseGrants", unfollowed := true, recurses := true, apart := false, narrowed := true }
def LeaseGrantsUptoSaid : Prop := leaseGrantsUptoRow.holds Try.pinned (OpenSpec.upto leaseGrantsSpec)

/-- 'chargeparklaw16.LeaseEnds', WHERE WHAT IT READS IS OF BULK AT MOST 1048576: true; the input reads as it did. -/
def leaseEndsUptoRow : OpenClaim := { program := "ytneiaolkicgfkaa", sum := "ef97b5b109e34e5d1afa44b2d1e7043a572062faaa87846aa9d38bf0fa4501ee", func := "chargepark/chargeparklaw16.LeaseEnds", spec := "leaseEnds", unfollowed := true, recurses := true, apart := false, narrowed := true }
def LeaseEndsUptoSaid : Prop := leaseEndsUptoRow.holds Try.pinned (OpenSpec.upto leaseEndsSpec)

/-- 'chargeparklaw16.LeaseParts', WHERE WHAT IT READS IS OF BULK AT MOST 1048576: true; the input reads as it did. -/
def leasePartsUptoRow : OpenClaim := { program := "ytneiaolkicgfkaa", sum := "ef97b5b109e34e5d1afa44b2d1e7043a572062faaa87846aa9d38bf0fa4501ee", func := "chargepark/chargeparklaw16.LeaseParts", spec := "leaseParts", unfollowed := true, recurses := true, apart := false, narrowed := true }
def LeasePartsUptoSaid : Prop := leasePartsUptoRow.holds Try.pinned (OpenSpec.upto leasePartsSpec)

/-- 'chargeparklaw16.LeaseLonger', WHERE WHAT IT READS IS OF BULK AT MOST 1048576: true; the input reads as it did. -/
def leaseLongerUptoRow : OpenClaim := { program := "ytneiaolkicgfkaa", sum := "ef97b5b109e34e5d1afa44b2d1e7043a572062faaa87846aa9d38bf0fa4501ee", func := "chargepark/chargeparklaw16.LeaseLonger", spec := "leaseLonger", unfollowed := true, recurses := true, apart := false, narrowed := true }
def LeaseLongerUptoSaid : Prop := leaseLongerUptoRow.holds Try.pinned (OpenSpec.upto leaseLongerSpec)

/-- 'chargeparklaw16.LeaseTruth', WHERE WHAT IT READS IS OF BULK AT MOST 1048576: true; the input reads as it did. -/
def leaseTruthUptoRow : OpenClaim := { program := "ytneiaolkicgfkaa", sum := "ef97b5b109e34e5d1afa44b2d1e7043a572062faaa87846aa9d38bf0fa4501ee", func := "chargepark/chargeparklaw16.LeaseTruth", spec := "leaseTruth", unfollowed := true, recurses := true, apart := false, narrowed := true }
def LeaseTruthUptoSaid : Prop := leaseTruthUptoRow.holds Try.pinned (OpenSpec.upto leaseTruthSpec)

end Rows
end Go.Proofs.Ytneiaolkicgfkaa
