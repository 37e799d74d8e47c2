/- errors.Is of the error 0 with itself. -/
import Derived.Test.YthebojaminploaaGreatDoorKFY
import Derived.WalkKit
import Derived.LaidEql
import Derived.Stop.Asserts
import Derived.Lib.IfaceEq
import Derived.RowKitTokens
set_option maxRecDepth 100000
set_option linter.unusedVariables false
namespace Go.Proofs.YthebojaminploaaGreatDoor
open Go.RowKit Go.Extern.Stop Go.Stop Go.Extern

theorem isTypeOf (v : Value) (w : World) : (Extern.ReflectliteType.typeOf #[.iface 29 v]).run Tryz.prog w = .ok (.iface 118 (.agg #[.pointer (some ⟨1, 29, none⟩)])) w := by kernel_rfl
def compE : Array Value → Sem Value := Extern.ReflectliteType.method fun t => do Extern.Rtype.noPackHeld "Comparable" t; pure (.bool (← typeInfo t).comparable)
theorem isComparable (w : World) : (compE #[.agg #[.pointer (some ⟨1, 29, none⟩)]]).run Tryz.prog w = .ok (.bool true) w := by kernel_rfl
theorem isMethodComparable (n : Nat) (v : Value) (w : World) : (Go.method (n + 1) 118 v "Comparable").run Tryz.prog w = .ok (117, v) w := by kernel_rfl
theorem isComp : (Tryz.prog.info? 29).map (·.comparable) = some true := by kernel_rfl
theorem is_ok (w : World) : Calls Tryz.prog 72 #[.iface 29 (.int .i64 0), .iface 29 (.int .i64 0)] w fun e w' => e = .returned (.bool true) ∧ w' = w := by
  have h8 := @run_callFunc_extern Tryz.prog 85 _ Extern.ReflectliteType.typeOf Tryz.func85 (by kernel_rfl) (by kernel_rfl) (by kernel_rfl) (by kernel_rfl)
  have h32 := @run_callFunc_extern Tryz.prog 117 _ compE Tryz.func117 (by kernel_rfl) (by kernel_rfl) (by kernel_rfl) (by kernel_rfl)
  have tT := isTypeOf
  have cT := isComparable
  have mR := isMethodComparable 265
  have heq := Lib.run_eql_iface_int (P := Tryz.prog) (k := .i64) w 0 0 Tryz.underlying110 isComp Tryz.underlying29
  go_enter Tryz.func72, Tryz.ntmps72
  go_wp2
  refine wp_loop_rounds 1 ?_
  rw [rounds_succ]
  go_wp2
  go_ret
  exact ⟨rfl, rfl⟩
end Go.Proofs.YthebojaminploaaGreatDoor
