/- Contracts of the reference of package lease: comparing leases and numbers. -/
import Derived.Test.YtlfogcidklpeiaaDoorLb
import Derived.Laws.StructEq
set_option maxRecDepth 100000
set_option linter.unusedVariables false
set_option linter.unusedSimpArgs false
namespace Go.Proofs.YtlfogcidklpeiaaDoor
open Go.RowKit Go.Sort

theorem eqLease (x y : Lea) (w : World) : (Op.equalIn 10000 30 (.agg #[.int .i64 x.n, .int .i64 x.c, .int .i64 x.a, .int .i64 x.f, .int .i64 x.t]) (.agg #[.int .i64 y.n, .int .i64 y.c, .int .i64 y.a, .int .i64 y.f, .int .i64 y.t])).run Tryd.prog w = .ok (eqL x y) w := by
  have u3 := Tryd.underlying3
  have hS : Tryd.prog.underlying 30 = some (.struct (Tryd.prog.fieldsOf 30)) := by kernel_rfl
  have hp : Tryd.prog.stoodInHeld 30 = false := by kernel_rfl
  rw [show (10000 : Nat) = 9999 + 1 from rfl, run_equalIn_agg w 9999 30 _ _ hS hp]
  simp only [Program.fieldsOf, Tryd.underlying30]
  go_simp
  unfold eqL
  by_cases h1 : x.n = y.n <;> by_cases h2 : x.c = y.c <;> by_cases h3 : x.a = y.a <;> by_cases h4 : x.f = y.f <;> by_cases h5 : x.t = y.t <;> simp [h1, h2, h3, h4, h5]
theorem guardLease : Tryd.prog.eqGuardType Tryd.prog.depth 30 = false := by kernel_rfl
theorem ints_cons {a b : List Int} {k : Nat} (h1 : k < a.length) (h2 : k < b.length) (h : a.take k = b.take k) (he : a[k] = b[k]) : a.take (k + 1) = b.take (k + 1) := by
  rw [List.take_succ_eq_append_getElem h1, List.take_succ_eq_append_getElem h2, h, he]
theorem leas_cons {a b : List Lea} {k : Nat} (h1 : k < a.length) (h2 : k < b.length) (h : a.take k = b.take k) (he : a[k] = b[k]) : a.take (k + 1) = b.take (k + 1) := by
  rw [List.take_succ_eq_append_getElem h1, List.take_succ_eq_append_getElem h2, h, he]
def eqI (a b : List Int) : Bool := decide (a = b)
end Go.Proofs.YtlfogcidklpeiaaDoor
