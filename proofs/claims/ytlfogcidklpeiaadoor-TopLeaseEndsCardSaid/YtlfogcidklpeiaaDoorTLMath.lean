/- A charger whose lease ends, as plain data: its state, what events do to it, and that it is allowed no more than its Fallback when its lease cannot be alive. No program. -/
import Derived.Test.YtlfogcidklpeiaaDoorLMath
set_option linter.unusedVariables false
set_option linter.unusedSimpArgs false
namespace Go.Proofs.YtlfogcidklpeiaaDoor
open Ck

theorem shown_step {t d : Int} (h0 : 0 ≤ t) (d0 : -200 ≤ d) (d1 : d ≤ 200) : 0 ≤ shownI (t + 1) d - shownI t d ∧ shownI (t + 1) d - shownI t d ≤ 2 := by
  unfold shownI
  have e : (t + 1) * (1000000 + d) = t * (1000000 + d) + (1000000 + d) := by rw [Int.add_mul, Int.one_mul]
  rw [e]
  generalize t * (1000000 + d) = q
  omega
theorem shown_far {L t d : Int} (h : L ≤ t) (d0 : -200 ≤ d) (d1 : d ≤ 200) : (t - L) * 999800 / 1000000 ≤ shownI t d - shownI L d := by
  unfold shownI
  have e : t * (1000000 + d) = L * (1000000 + d) + (t - L) * (1000000 + d) := by rw [← Int.add_mul]; congr 1; omega
  have hm : (t - L) * 999800 ≤ (t - L) * (1000000 + d) := Int.mul_le_mul_of_nonneg_left (by omega) (by omega)
  rw [e]
  generalize L * (1000000 + d) = q at *
  generalize (t - L) * (1000000 + d) = r at *
  generalize (t - L) * 999800 = s at *
  omega
/-- while some of the lease's ticks are left, it may be alive -/
theorem ends_alive {x : Lea} {L t d : Int} (hx : oneB x = true) (h0 : x.f ≤ L) (h1 : L ≤ x.f + 10) (h2 : L ≤ t) (d0 : -200 ≤ d) (d1 : d ≤ 200) (hl : shownI (t + 1) d - shownI L d < x.t) : aliB t x = true := by
  have ho := (oneB_iff x).1 hx
  rw [aliB_iff]
  refine ⟨by omega, ?_⟩
  refine Int.not_le.1 fun hge => ?_
  have hw := (wait_iff x.t (t + 1 - L) (by omega) (by omega)).2 (by omega)
  have := shown_far (L := L) (t := t + 1) (by omega) d0 d1
  omega
theorem one_valid {x : Lea} (hx : oneB x = true) : vlB [x] = true := (vlB_iff [x]).2 ⟨by simp, by simpa using hx, by simp⟩
/-- what is alive of one lease, for one charger -/
theorem one_alive {x : Lea} {t : Int} (hx : oneB x = true) (hc : x.c = 0) (h0 : 0 ≤ t) (h1 : t ≤ 1100000) : alvE [x] 1 t = 0 ∧ alvL [x] 1 t = [if aliB t x = true then x.a else 0] := by
  have hb : alvB [x] 1 t = true := by simp [alvB, one_valid hx, hc]; omega
  have ho := (oneB_iff x).1 hx
  refine ⟨by simp [alvE, hb], ?_⟩
  rw [alvL, if_pos hb, aliveL]
  by_cases ha : aliB t x = true
  · simp [ha, stepA, hc, List.replicate]
    omega
  · simp [ha, List.replicate]
end Go.Proofs.YtlfogcidklpeiaaDoor
