/- errors.Is of the error 0 with itself. -/
import Derived.Test.YtpcklbmhblmjpaaFa
import Derived.WalkKit
import Derived.LaidEql
import Derived.Stop.Asserts
import Derived.Lib.IfaceEq
import Derived.RowKitTokens
set_option maxRecDepth 100000
set_option linter.unusedVariables false
namespace Go.Proofs.Ytpcklbmhblmjpaa
open Go.RowKit Go.Extern.Stop Go.Stop Go.Extern

theorem isTypeOf (v : Value) (w : World) : (Extern.ReflectliteType.typeOf #[.iface 27 v]).run Try.prog w = .ok (.iface 98 (.agg #[.pointer (some ⟨0, 27, none⟩)])) w := by kernel_rfl
def compE : Array Value → Sem Value := Extern.ReflectliteType.method fun t => do Extern.Rtype.noPackHeld "Comparable" t; pure (.bool (← typeInfo t).comparable)
theorem isComparable (w : World) : (compE #[.agg #[.pointer (some ⟨0, 27, none⟩)]]).run Try.prog w = .ok (.bool true) w := by kernel_rfl
theorem isMethodComparable (n : Nat) (v : Value) (w : World) : (Go.method (n + 1) 98 v "Comparable").run Try.prog w = .ok (86, v) w := by kernel_rfl
theorem isComp : (Try.prog.info? 27).map (·.comparable) = some true := by kernel_rfl
theorem is_ok (w : World) : Calls Try.prog 53 #[.iface 27 (.int .i64 0), .iface 27 (.int .i64 0)] w fun e w' => e = .returned (.bool true) ∧ w' = w := by
  have h8 := @run_callFunc_extern Try.prog 62 _ Extern.ReflectliteType.typeOf Try.func62 (by kernel_rfl) (by kernel_rfl) (by kernel_rfl) (by kernel_rfl)
  have h32 := @run_callFunc_extern Try.prog 86 _ compE Try.func86 (by kernel_rfl) (by kernel_rfl) (by kernel_rfl) (by kernel_rfl)
  have tT := isTypeOf
  have cT := isComparable
  have mR := isMethodComparable 240
  have heq := Lib.run_eql_iface_int (P := Try.prog) (k := .i64) w 0 0 Try.underlying91 isComp Try.underlying27
  go_enter Try.func53, Try.ntmps53
  go_wp2
  refine wp_loop_rounds 1 ?_
  rw [rounds_succ]
  go_wp2
  go_ret
  exact ⟨rfl, rfl⟩
end Go.Proofs.Ytpcklbmhblmjpaa
