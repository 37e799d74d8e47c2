/-
  NARROWER THAN 'FOR EVERY INPUT', by the rows' own cells (each row's printed sentence says how): TopMisreads: laid · TopStrays: laid · TopVisits: laid.
  DERIVED. THE GIVEN ROWS OF THIS SEAT. 3 by the template 'for every input the law returns true; each argument reads behind the call as it read before'; 0 by the template 'total and deterministic' (their statements: YthmipmdpdfdlaaaDoorTotals.lean).
  GIVEN WITH THE SEED: the statements are not yours to turn. If you find one false, say at which input.
  Laid BY PROGRAM, IN A SANDBOX (cutbox-rows.mjs): the forced cells as the released guide's own fill.sh prints them over the translation 424f661386aadd85… (all of the seat's roots in one cut). By AI agents, Wed Nov 11 2026. No macro, syntax, notation, axiom, sorry.
-/
import Derived.Test.YthmipmdpdfdlaaaDoorChecked
import GoSem.Claim
import GoSem.ClaimJoined
import GoSem.ClaimMapViews
import Derived.JoinedTies
import Derived.KernelRfl
namespace Go.Proofs.YthmipmdpdfdlaaaDoor
/- THE CELL 'sum', in the pinned program and in every row, IS THE sha256 OF THE DUMP (.gsa) THAT YthmipmdpdfdlaaaDoorProg.lean LOADS. Nothing in Lean hashes anything: it is a label: what it is worth is what the hold of that sum in a sandbox is worth. -/
noncomputable def Tryd.pinned : Pinned := { name := "ythmipmdpdfdlaaadoor", sum := "424f661386aadd8585e0d9542b222d935607131d62c6552df86a6478b2c4e8d2", checked := Tryd.checked }
namespace Rows
def none {H : Type} : Left H := { results := [], args := [] }

/- WHAT THE LISTED PACKAGE-LEVEL VARIABLES READ AS WHEN THE CALL BEGINS. Each datum BY PROGRAM (the guide's laid-datum.mjs) off the statement by which the dump's own 'gosem.cut.vars' lays the variable. In a bare row this is a premise. The card (YthmipmdpdfdlaaaDoorCards.lean) ties it to the program's text. -/
def laid_chargepark_plate_confusable {H : Type} : DataW H := .agg [.agg [.lit (.int .i32 79), .lit (.int .i32 48)], .agg [.lit (.int .i32 73), .lit (.int .i32 49)], .agg [.lit (.int .i32 66), .lit (.int .i32 56)], .agg [.lit (.int .i32 83), .lit (.int .i32 53)], .agg [.lit (.int .i32 90), .lit (.int .i32 50)]]

/-- 'chargeparktop.TopMisreads': WHATEVER THE INPUT: true; the input reads as it did. -/
def topMisreadsSpec : ChangeSpec := { name := "topMisreads", fn := fun _ => fun
  | [d] => { results := [.lit (.bool true)], args := [d] }
  | _ => none }
def topMisreadsRow : OpenClaim := { program := "ythmipmdpdfdlaaadoor", sum := "424f661386aadd8585e0d9542b222d935607131d62c6552df86a6478b2c4e8d2", func := "chargepark/chargeparktop.TopMisreads", spec := "topMisreads", unfollowed := true, recurses := true, named := ["chargepark/plate.confusable"], plainKeys := false, apart := false, laid := [("chargepark/plate.confusable", laid_chargepark_plate_confusable)] }
def TopMisreadsSaid : Prop := topMisreadsRow.holds Tryd.pinned (OpenSpec.ofChange topMisreadsSpec)

/-- ITS FALSE NEIGHBOUR: 'it returns false'. Refute it at one input. -/
def topMisreadsWrong : ChangeSpec := { name := "topMisreads", fn := fun _ => fun
  | [d] => { results := [.lit (.bool false)], args := [d] }
  | _ => none }
def TopMisreadsWrongFalsely : Prop := topMisreadsRow.holds Tryd.pinned (OpenSpec.ofChange topMisreadsWrong)

/-- 'chargeparktop.TopStrays': WHATEVER THE INPUT: true; the input reads as it did. -/
def topStraysSpec : ChangeSpec := { name := "topStrays", fn := fun _ => fun
  | [d1, d2, d3] => { results := [.lit (.bool true)], args := [d1, d2, d3] }
  | _ => none }
def topStraysRow : OpenClaim := { program := "ythmipmdpdfdlaaadoor", sum := "424f661386aadd8585e0d9542b222d935607131d62c6552df86a6478b2c4e8d2", func := "chargepark/chargeparktop.TopStrays", spec := "topStrays", unfollowed := true, recurses := true, named := ["chargepark/plate.confusable"], plainKeys := false, apart := false, laid := [("chargepark/plate.confusable", laid_chargepark_plate_confusable)] }
def TopStraysSaid : Prop := topStraysRow.holds Tryd.pinned (OpenSpec.ofChange topStraysSpec)

/-- ITS FALSE NEIGHBOUR: 'it returns false'. Refute it at one input. -/
def topStraysWrong : ChangeSpec := { name := "topStrays", fn := fun _ => fun
  | [d1, d2, d3] => { results := [.lit (.bool false)], args := [d1, d2, d3] }
  | _ => none }
def TopStraysWrongFalsely : Prop := topStraysRow.holds Tryd.pinned (OpenSpec.ofChange topStraysWrong)

/-- 'chargeparktop.TopVisits': WHATEVER THE INPUT: true; the input reads as it did. -/
def topVisitsSpec : ChangeSpec := { name := "topVisits", fn := fun _ => fun
  | [d1, d2] => { results := [.lit (.bool true)], args := [d1, d2] }
  | _ => none }
def topVisitsRow : OpenClaim := { program := "ythmipmdpdfdlaaadoor", sum := "424f661386aadd8585e0d9542b222d935607131d62c6552df86a6478b2c4e8d2", func := "chargepark/chargeparktop.TopVisits", spec := "topVisits", unfollowed := true, recurses := true, named := ["chargepark/plate.confusable"], plainKeys := false, apart := false, laid := [("chargepark/plate.confusable", laid_chargepark_plate_confusable)] }
def TopVisitsSaid : Prop := topVisitsRow.holds Tryd.pinned (OpenSpec.ofChange topVisitsSpec)

/-- ITS FALSE NEIGHBOUR: 'it returns false'. Refute it at one input. -/
def topVisitsWrong : ChangeSpec := { name := "topVisits", fn := fun _ => fun
  | [d1, d2] => { results := [.lit (.bool false)], args := [d1, d2] }
  | _ => none }
def TopVisitsWrongFalsely : Prop := topVisitsRow.holds Tryd.pinned (OpenSpec.ofChange topVisitsWrong)

/- THE SECOND FORM. 'bulk': how many values and letters a reading holds, each counted each time it is reached (what is shared counts as often as it is met; a slice's spare places count too). A statement '..UptoSaid' is the law's where the arguments, and the package variables that the reading takes, are together of bulk at most 1048576: NARROWER than '..Said'. Prove '..Said' where nothing that the law and all that it calls make is longer than what came in: it says more and counts as full. Else prove '..UptoSaid'. A law counts once. -/
mutual
def uptoBulk {H : Type} : DataW H → Nat
  | .lit (.string bytes) => bytes.length + 1
  | .lit _ => 1
  | .nil => 1
  | .ptr d => uptoBulk d + 1
  | .slice elems spare => uptoBulkAll elems + uptoBulkAll spare + 1
  | .agg parts => uptoBulkAll parts + 1
  | .iface _ d => uptoBulk d + 1
  | .map entries => uptoBulkEntries entries + 1
  | .held _ => 1
def uptoBulkAll {H : Type} : List (DataW H) → Nat
  | [] => 0
  | d :: r => uptoBulk d + uptoBulkAll r
def uptoBulkEntries {H : Type} : List (Lit × DataW H) → Nat
  | [] => 0
  | x :: r => uptoBulkEntry x + uptoBulkEntries r
def uptoBulkEntry {H : Type} : Lit × DataW H → Nat
  | (.string bytes, d) => bytes.length + uptoBulk d + 1
  | (_, d) => uptoBulk d + 1
 end
def uptoSmall : (H : Type) → List (DataW H) → Bool := fun _ ds => decide (uptoBulkAll ds ≤ 1048576)
def OpenSpec.upto (s : _root_.Go.ChangeSpec) : _root_.Go.OpenSpec := { _root_.Go.OpenSpec.ofChange s with cond := some uptoSmall }

/-- 'chargeparktop.TopMisreads', WHERE WHAT IT READS IS OF BULK AT MOST 1048576: true; the input reads as it did. -/
def topMisreadsUptoRow : OpenClaim := { program := "ythmipmdpdfdlaaadoor", sum := "424f661386aadd8585e0d9542b222d935607131d62c6552df86a6478b2c4e8d2", func := "chargepark/chargeparktop.TopMisreads", spec := "topMisreads", unfollowed := true, recurses := true, named := ["chargepark/plate.confusable"], plainKeys := false, apart := false, laid := [("chargepark/plate.confusable", laid_chargepark_plate_confusable)], narrowed := true }
def TopMisreadsUptoSaid : Prop := topMisreadsUptoRow.holds Tryd.pinned (OpenSpec.upto topMisreadsSpec)

/-- 'chargeparktop.TopStrays', WHERE WHAT IT READS IS OF BULK AT MOST 1048576: true; the input reads as it did. -/
def topStraysUptoRow : OpenClaim := { program := "ythmipmdpdfdlaaadoor", sum := "424f661386aadd8585e0d9542b222d935607131d62c6552df86a6478b2c4e8d2", func := "chargepark/chargeparktop.TopStrays", spec := "topStrays", unfollowed := true, recurses := true, named := ["chargepark/plate.confusable"], plainKeys := false, apart := false, laid := [("chargepark/plate.confusable", laid_chargepark_plate_confusable)], narrowed := true }
def TopStraysUptoSaid : Prop := topStraysUptoRow.holds Tryd.pinned (OpenSpec.upto topStraysSpec)

/-- 'chargeparktop.TopVisits', WHERE WHAT IT READS IS OF BULK AT MOST 1048576: true; the input reads as it did. -/
def topVisitsUptoRow : OpenClaim := { program := "ythmipmdpdfdlaaadoor", sum := "424f661386aadd8585e0d9542b222d935607131d62c6552df86a6478b2c4e8d2", func := "chargepark/chargeparktop.TopVisits", spec := "topVisits", unfollowed := true, recurses := true, named := ["chargepark/plate.confusable"], plainKeys := false, apart := false, laid := [("chargepark/plate.confusable", laid_chargepark_plate_confusable)], narrowed := true }
def TopVisitsUptoSaid : Prop := topVisitsUptoRow.holds Tryd.pinned (OpenSpec.upto topVisitsSpec)

end Rows
end Go.Proofs.YthmipmdpdfdlaaaDoor
