/- Contracts of the reference of package lease: comparing leases and numbers. -/
import Derived.Test.YtneiaolkicgfkaaLb
import Derived.Laws.StructEq
set_option linter.unusedVariables false
set_option linter.unusedSimpArgs false
namespace Go.Proofs.Ytneiaolkicgfkaa
open Go.RowKit Go.Sort

theorem eqLease (x y : Lea) (w : World) : (Op.equalIn 10000 24 (.agg #[.int .i64 x.n, .int .i64 x.c, .int .i64 x.a, .int .i64 x.f, .int .i64 x.t]) (.agg #[.int .i64 y.n, .int .i64 y.c, .int .i64 y.a, .int .i64 y.f, .int .i64 y.t])).run Try.prog w = .ok (eqL x y) w := by
  have u3 := Try.underlying3
  have hS : Try.prog.underlying 24 = some (.struct (Try.prog.fieldsOf 24)) := by kernel_rfl
  have hp : Try.prog.stoodInHeld 24 = false := by kernel_rfl
  rw [show (10000 : Nat) = 9999 + 1 from rfl, run_equalIn_agg w 9999 24 _ _ hS hp]
  simp only [Program.fieldsOf, Try.underlying24]
  go_simp
  unfold eqL
  by_cases h1 : x.n = y.n <;> by_cases h2 : x.c = y.c <;> by_cases h3 : x.a = y.a <;> by_cases h4 : x.f = y.f <;> by_cases h5 : x.t = y.t <;> simp [h1, h2, h3, h4, h5]
theorem guardLease : Try.prog.eqGuardType Try.prog.depth 24 = false := by kernel_rfl
theorem ints_cons {a b : List Int} {k : Nat} (h1 : k < a.length) (h2 : k < b.length) (h : a.take k = b.take k) (he : a[k] = b[k]) : a.take (k + 1) = b.take (k + 1) := by
  rw [List.take_succ_eq_append_getElem h1, List.take_succ_eq_append_getElem h2, h, he]
theorem leas_cons {a b : List Lea} {k : Nat} (h1 : k < a.length) (h2 : k < b.length) (h : a.take k = b.take k) (he : a[k] = b[k]) : a.take (k + 1) = b.take (k + 1) := by
  rw [List.take_succ_eq_append_getElem h1, List.take_succ_eq_append_getElem h2, h, he]
def eqI (a b : List Int) : Bool := decide (a = b)
set_option maxHeartbeats 1000000 in
theorem rInts_any (l1 l2 : List Int) (A1 A2 : Option Addr) (c1 c2 : Nat) (w : World) (h1 : RdI w w.heap.size A1 l1) (h2 : RdI w w.heap.size A2 l2) (n1 : l1.length ≤ 1000000000) (n2 : l2.length ≤ 1000000000) :
    Calls Try.prog 20 #[.slice A1 l1.length c1, .slice A2 l2.length c2] w fun e w' => e = .returned (.bool (eqI l1 l2)) ∧ Below w.heap.size w w' := by
  have H1 := Lib.hid h1
  have H2 := Lib.hid h2
  clear h1 h2
  by_cases hl : l1.length = l2.length
  · have hl' : ((l1.length : Int) != (l2.length : Int)) = false := by simp [hl]
    have HL := Lib.hid hl
    clear hl
    go_enter Try.func20, Try.ntmps20
    go_wp2
    go_loopw [5] (fun i wr => ∃ k n : Nat, i = .int .i64 k ∧ k ≤ l1.length ∧ l1.take k = l2.take k ∧ wr = w.drewN n) (fun i _ => l1.length - (intOf i).toNat)
    case atStart => exact ⟨0, 0, rfl, Nat.zero_le _, rfl, rfl⟩
    case round =>
      obtain ⟨k, n, rfl, hk, heq, rfl⟩ := hrel
      have HEQ := Lib.hid heq
      clear heq
      by_cases hlt : k < l1.length
      · have hlt2 : k < l2.length := by have := HL.out; omega
        obtain ⟨a1, o1, rfl, b1, x0⟩ := H1.out.at_ hlt
        obtain ⟨a2, o2, rfl, b2, y0⟩ := H2.out.at_ hlt2
        obtain ⟨x, hx⟩ : ∃ y, y = l1[k] := ⟨_, rfl⟩
        obtain ⟨y, hy⟩ : ∃ y, y = l2[k] := ⟨_, rfl⟩
        rw [← hx] at x0
        rw [← hy] at y0
        have HX := Lib.hid hx
        have HY := Lib.hid hy
        clear hx hy
        have k1 : (0 : Int) ≤ (k : Int) := by omega
        have k2 : (k : Int) < (l1.length : Int) := by omega
        have k3 : (k : Int) < (l2.length : Int) := by omega
        by_cases hxy : x = y
        · have he : (x != y) = false := by simp [hxy]
          have HE := Lib.hid hxy
          clear hxy
          go_wp2
          go_quiet (fail)
          go_wp2
          go_roundw
          case rel => exact ⟨k + 1, _, by go_num, by omega, ints_cons hlt hlt2 HEQ.out (by rw [← HX.out, ← HY.out]; exact HE.out), rfl⟩
          case measure => simp [intOf]; omega
        · have he' : (x != y) = true := by simp [hxy]
          have hne : Hid (eqI l1 l2 = false) := by
            show _ = false
            rw [← Bool.not_eq_true, eqI, decide_eq_true_eq]
            intro h
            subst h
            exact hxy (HX.out.trans HY.out.symm)
          clear hxy
          go_wp2
          go_quiet (fail)
          go_wp2
          go_ret
          exact ⟨ret_bool hne.out.symm, belowDrew (belowDrew (Below.refl _ _) _) _⟩
      · have hfin : Hid (eqI l1 l2 = true) := by
          show _ = true
          have e := HEQ.out
          have e2 := HL.out
          rw [List.take_of_length_le (by omega), List.take_of_length_le (by omega)] at e
          simp [eqI, e]
        go_wp2
        go_ret
        exact ⟨ret_bool hfin.out.symm, belowDrew (Below.refl _ _) _⟩
  · have hl' : ((l1.length : Int) != (l2.length : Int)) = true := by simp; omega
    have hne : Hid (eqI l1 l2 = false) := by
      show _ = false
      rw [← Bool.not_eq_true, eqI, decide_eq_true_eq]
      intro h
      subst h
      exact hl rfl
    clear hl
    go_enter Try.func20, Try.ntmps20
    go_wp2
    go_ret
    exact ⟨ret_bool hne.out.symm, Below.refl _ _⟩
theorem rInts_eq (l1 l2 : List Int) (A1 A2 : Option Addr) (c1 c2 : Nat) (w : World) (h : l1 = l2) (h1 : RdI w w.heap.size A1 l1) (h2 : RdI w w.heap.size A2 l2) (n1 : l1.length ≤ 1000000000) :
    Calls Try.prog 20 #[.slice A1 l1.length c1, .slice A2 l2.length c2] w fun e w' => e = .returned (.bool true) ∧ Below w.heap.size w w' := by
  have := rInts_any l1 l2 A1 A2 c1 c2 w h1 h2 n1 (by rw [← h]; exact n1)
  rwa [show eqI l1 l2 = true from by simp [eqI, h]] at this
set_option maxHeartbeats 1000000 in
theorem rSame_any (l1 l2 : List Lea) (A1 A2 : Option Addr) (c1 c2 : Nat) (w : World) (h1 : RdL w w.heap.size A1 l1) (h2 : RdL w w.heap.size A2 l2) (n1 : l1.length ≤ 1000000000) (n2 : l2.length ≤ 1000000000) :
    Calls Try.prog 19 #[.slice A1 l1.length c1, .slice A2 l2.length c2] w fun e w' => e = .returned (.bool (eqLs l1 l2)) ∧ Below w.heap.size w w' := by
  have H1 := Lib.hid h1
  have H2 := Lib.hid h2
  clear h1 h2
  by_cases hl : l1.length = l2.length
  · have hl' : ((l1.length : Int) != (l2.length : Int)) = false := by simp [hl]
    have HL := Lib.hid hl
    clear hl
    go_enter Try.func19, Try.ntmps19
    go_wp2
    go_loopw [5] (fun i wr => ∃ k n : Nat, i = .int .i64 k ∧ k ≤ l1.length ∧ l1.take k = l2.take k ∧ wr = w.drewN n) (fun i _ => l1.length - (intOf i).toNat)
    case atStart => exact ⟨0, 0, rfl, Nat.zero_le _, rfl, rfl⟩
    case round =>
      obtain ⟨k, n, rfl, hk, heq, rfl⟩ := hrel
      have HEQ := Lib.hid heq
      clear heq
      by_cases hlt : k < l1.length
      · have hlt2 : k < l2.length := by have := HL.out; omega
        obtain ⟨a1, o1, rfl, b1, x0, x1, x2, x3, x4⟩ := H1.out.at_ hlt
        obtain ⟨a2, o2, rfl, b2, y0, y1, y2, y3, y4⟩ := H2.out.at_ hlt2
        obtain ⟨x, hx⟩ : ∃ y, y = l1[k] := ⟨_, rfl⟩
        obtain ⟨y, hy⟩ : ∃ y, y = l2[k] := ⟨_, rfl⟩
        rw [← hx] at x0 x1 x2 x3 x4
        rw [← hy] at y0 y1 y2 y3 y4
        have HX := Lib.hid hx
        have HY := Lib.hid hy
        clear hx hy
        have hq := eqLease x y
        have hgd := guardLease
        have k1 : (0 : Int) ≤ (k : Int) := by omega
        have k2 : (k : Int) < (l1.length : Int) := by omega
        have k3 : (k : Int) < (l2.length : Int) := by omega
        by_cases he : eqL x y = true
        · have HE := Lib.hid he
          go_wp2
          go_quiet (fail)
          go_wp2
          go_roundw
          case rel => exact ⟨k + 1, _, by go_num, by omega, leas_cons hlt hlt2 HEQ.out (by rw [← HX.out, ← HY.out]; exact (eqL_iff _ _).1 HE.out), rfl⟩
          case measure => simp [intOf]; omega
        · have he' : eqL x y = false := by simpa using he
          have hne : Hid (eqLs l1 l2 = false) := by
            show _ = false
            rw [← Bool.not_eq_true, eqLs_iff]
            intro h
            subst h
            rw [HX.out, HY.out] at he'
            rw [(eqL_iff _ _).2 rfl] at he'
            cases he'
          clear he
          go_wp2
          go_quiet (fail)
          go_wp2
          go_ret
          exact ⟨ret_bool hne.out.symm, belowDrew (belowDrew (Below.refl _ _) _) _⟩
      · have hfin : Hid (eqLs l1 l2 = true) := by
          show _ = true
          have e := HEQ.out
          have e2 := HL.out
          rw [List.take_of_length_le (by omega), List.take_of_length_le (by omega)] at e
          exact (eqLs_iff _ _).2 e
        go_wp2
        go_ret
        exact ⟨ret_bool hfin.out.symm, belowDrew (Below.refl _ _) _⟩
  · have hl' : ((l1.length : Int) != (l2.length : Int)) = true := by simp; omega
    have hne : Hid (eqLs l1 l2 = false) := by
      show _ = false
      rw [← Bool.not_eq_true, eqLs_iff]
      intro h
      subst h
      exact hl rfl
    clear hl
    go_enter Try.func19, Try.ntmps19
    go_wp2
    go_ret
    exact ⟨ret_bool hne.out.symm, Below.refl _ _⟩
theorem rSame_eq (l1 l2 : List Lea) (A1 A2 : Option Addr) (c1 c2 : Nat) (w : World) (h : l1 = l2) (h1 : RdL w w.heap.size A1 l1) (h2 : RdL w w.heap.size A2 l2) (n1 : l1.length ≤ 1000000000) :
    Calls Try.prog 19 #[.slice A1 l1.length c1, .slice A2 l2.length c2] w fun e w' => e = .returned (.bool true) ∧ Below w.heap.size w w' := by
  have := rSame_any l1 l2 A1 A2 c1 c2 w h1 h2 n1 (by rw [← h]; exact n1)
  rwa [show eqLs l1 l2 = true from (eqLs_iff _ _).2 h] at this
end Go.Proofs.Ytneiaolkicgfkaa
