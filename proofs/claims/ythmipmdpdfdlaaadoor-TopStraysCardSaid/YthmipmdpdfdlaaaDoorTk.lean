/- Arrays of two numbers: as a map's key, and compared. -/
import Derived.Test.YthmipmdpdfdlaaaDoorLaw
import Derived.DeepKeys5
import Derived.Maps.OwnSet
import Derived.Maps.OwnIn
import Derived.Laws.StructEq
set_option maxRecDepth 100000
set_option linter.unusedVariables false
set_option linter.unusedSimpArgs false
namespace Go.Proofs.YthmipmdpdfdlaaaDoor
open Go.RowKit

section
variable {P : Program} {T e : TypeId} {q : IntKind} {a b c d : Int}
theorem klit_one (D : Nat) (he : P.underlying e = some (.int q)) (hw : (Lit.int q a).wf = true) : P.keyLits (D + 1) e [.int q a] = some [.int q a] := by
  simp [Program.keyLits, he, hw]
theorem klit_two (D : Nat) (hT : P.underlying T = some (.array 2 e)) (he : P.underlying e = some (.int q)) (hc : P.cellsOf T = 2) (hce : P.cellsOf e = 1) (wa : (Lit.int q a).wf = true) (wb : (Lit.int q b).wf = true) :
    P.keyLits (D + 2) T [.int q a, .int q b] = some [.int q a, .int q b] := by
  unfold Program.keyLits
  simp only [hT, hc, hce, List.length_cons, List.length_nil, Nat.zero_add, Nat.reduceAdd, if_true]
  rw [show List.range 2 = [0, 1] from rfl]
  simp [klit_one D he wa, klit_one D he wb]
theorem key_two (hT : P.underlying T = some (.array 2 e)) (he : P.underlying e = some (.int q)) (hc : P.cellsOf T = 2) (hce : P.cellsOf e = 1) (hk : P.keyType T = true) (hs : 0 < P.types.size) (wa : (Lit.int q a).wf = true) (wb : (Lit.int q b).wf = true) :
    keyOf P T (.agg #[.int q a, .int q b]) = some (.string (keyBytes [.int q a, .int q b])) := by
  have h := klit_two (P.types.size - 1) hT he hc hce wa wb
  rw [show P.types.size - 1 + 2 = P.types.size + 1 by omega] at h
  have hf : (Value.agg #[.int q a, .int q b]).formed P T = true := by simp [Value.formed, hT, hc]
  unfold keyOf
  rw [hT]
  simp only [hk, hf, Bool.and_self, if_true]
  show (P.keyLits (P.types.size + 1) T [.int q a, .int q b]).map _ = _
  rw [h]; rfl
theorem key_two_inj (hT : P.underlying T = some (.array 2 e)) (he : P.underlying e = some (.int q)) (hc : P.cellsOf T = 2) (hce : P.cellsOf e = 1) (wa : (Lit.int q a).wf = true) (wb : (Lit.int q b).wf = true) (wc : (Lit.int q c).wf = true) (wd : (Lit.int q d).wf = true)
    (h : keyBytes [.int q a, .int q b] = keyBytes [.int q c, .int q d]) : a = c ∧ b = d := by
  have := keyLits_inj (klit_two 0 hT he hc hce wa wb) (klit_two 0 hT he hc hce wc wd) h
  simpa using this
theorem eql_two (W : World) (hT : P.underlying T = some (.array 2 e)) (he : P.underlying e = some (.int q)) (hc : P.cellsOf T = 2) (hce : P.cellsOf e = 1) (hk : P.keyType T = true) (hk2 : P.keyTypeAt 3 T = true) (hs : 0 < P.types.size) (wa : (Lit.int q a).wf = true) (wb : (Lit.int q b).wf = true) (wc : (Lit.int q c).wf = true) (wd : (Lit.int q d).wf = true) :
    (binOp .eql T (.agg #[.int q a, .int q b]) (.agg #[.int q c, .int q d])).run P W = .ok (.bool (decide (a = c ∧ b = d))) W := by
  obtain ⟨r, hr, hi⟩ := run_equal_deep W (m := 3) (by omega) hk2 (by simp [hT]) (key_two hT he hc hce hk hs wa wb) (key_two hT he hc hce hk hs wc wd)
  rw [run_eql_struct]
  unfold Op.equal Op.maxDepth at hr
  rw [hr]
  show Result.ok (Value.bool r) W = _
  congr 2
  rw [Bool.eq_iff_iff, hi, decide_eq_true_iff]
  constructor
  · intro h
    exact key_two_inj hT he hc hce wa wb wc wd (by simpa using h)
  · rintro ⟨rfl, rfl⟩; rfl
end

/-! ### a place: the next entry, the exits that are used -/
def pk (a b : Int) : Lit := .string (keyBytes [.int .i64 a, .int .i64 b])
theorem wf64 {a : Int} (h0 : 0 ≤ a) (h1 : a ≤ 1000000) : (Lit.int .i64 a).wf = true := WalkArith.wf_i64 (by omega)
theorem key_place {a b : Int} (a0 : 0 ≤ a) (a1 : a ≤ 1000000) (b0 : 0 ≤ b) (b1 : b ≤ 1000000) : keyOf Tryd.prog 54 (.agg #[.int .i64 a, .int .i64 b]) = some (pk a b) :=
  key_two (e := 3) Tryd.underlying54 Tryd.underlying3 (by kernel_rfl) (by kernel_rfl) (by kernel_rfl) (by decide +kernel) (wf64 a0 a1) (wf64 b0 b1)
theorem pk_inj {a b c d : Int} (a0 : 0 ≤ a) (a1 : a ≤ 1000000) (b0 : 0 ≤ b) (b1 : b ≤ 1000000) (c0 : 0 ≤ c) (c1 : c ≤ 1000000) (d0 : 0 ≤ d) (d1 : d ≤ 1000000) (h : pk a b = pk c d) : a = c ∧ b = d :=
  key_two_inj (P := Tryd.prog) (T := 54) (e := 3) Tryd.underlying54 Tryd.underlying3 (by kernel_rfl) (by kernel_rfl) (wf64 a0 a1) (wf64 b0 b1) (wf64 c0 c1) (wf64 d0 d1) (by unfold pk at h; simpa using h)
theorem place_law : Go.Maps.Keyed Tryd.prog 54 :=
  Go.Maps.Keyed.of_law (deep_law_gate lawLaidOut (by decide +kernel) (by decide +kernel) (by kernel_rfl) (by rw [Tryd.underlying54]))

/-! ### two signs -/
theorem wf32 {a : Int} (h0 : -2147483648 ≤ a) (h1 : a ≤ 2147483647) : (Lit.int .i32 a).wf = true := by
  have e0 : IntKind.i32.min = -2147483648 := rfl
  have e1 : IntKind.i32.max = 2147483647 := rfl
  simp only [Lit.wf, e0, e1, Bool.and_eq_true, decide_eq_true_iff]
  exact ⟨h0, h1⟩
theorem eql_signs (W : World) {a b c d : Int} (a0 : -2147483648 ≤ a) (a1 : a ≤ 2147483647) (b0 : -2147483648 ≤ b) (b1 : b ≤ 2147483647) (c0 : -2147483648 ≤ c) (c1 : c ≤ 2147483647) (d0 : -2147483648 ≤ d) (d1 : d ≤ 2147483647) :
    (binOp .eql 61 (.agg #[.int .i32 a, .int .i32 b]) (.agg #[.int .i32 c, .int .i32 d])).run Tryd.prog W = .ok (.bool (decide (a = c ∧ b = d))) W :=
  eql_two W (e := 21) Tryd.underlying61 Tryd.underlying21 (by kernel_rfl) (by kernel_rfl) (by kernel_rfl) (by kernel_rfl) (by decide +kernel) (wf32 a0 a1) (wf32 b0 b1) (wf32 c0 c1) (wf32 d0 d1)
end Go.Proofs.YthmipmdpdfdlaaaDoor
