/- What clocks count, as plain arithmetic over Int: the closed forms of Shown, Wait and Early, and what the laws say of them. No program. -/
set_option linter.unusedVariables false
namespace Go.Proofs.YtlfogcidklpeiaaDoor.Ck

def shownI (t d : Int) : Int := t * (1000000 + d) / 1000000
def waitI (t : Int) : Int := (t * 1000000 + 999799) / 999800
def earlyI (t : Int) : Int := if t = 0 then 0 else (t - 1) * 1000000 / 1000200 + 1
def tkB (n : Int) : Bool := decide (0 ≤ n) && decide (n ≤ 1000000)
def drB (n : Int) : Bool := decide (-200 ≤ n) && decide (n ≤ 200)

theorem tkB_iff (n : Int) : tkB n = true ↔ 0 ≤ n ∧ n ≤ 1000000 := by simp [tkB]
theorem tkB_no (n : Int) : tkB n = false ↔ n < 0 ∨ 1000000 < n := by
  rw [← Bool.not_eq_true, tkB_iff]; omega
theorem drB_iff (n : Int) : drB n = true ↔ -200 ≤ n ∧ n ≤ 200 := by simp [drB]
theorem drB_no (n : Int) : drB n = false ↔ n < -200 ∨ 200 < n := by
  rw [← Bool.not_eq_true, drB_iff]; omega

theorem wait_iff (t n : Int) (ht : 0 ≤ t) (hn : 0 ≤ n) : t ≤ n * 999800 / 1000000 ↔ waitI t ≤ n := by
  unfold waitI; omega
theorem early_iff (t n : Int) (ht : 0 ≤ t) (hn : 0 ≤ n) : t ≤ (n * 1000200 + 999999) / 1000000 ↔ earlyI t ≤ n := by
  unfold earlyI; split <;> omega
theorem wait_bd (t : Int) (ht : 0 ≤ t) (h : t ≤ 1000000) : 0 ≤ waitI t ∧ waitI t ≤ 2 * t + 2 ∧ t ≤ waitI t := by
  unfold waitI; omega
theorem early_bd (t : Int) (ht : 0 ≤ t) (h : t ≤ 1000000) : 0 ≤ earlyI t ∧ earlyI t ≤ 2 * t + 2 ∧ earlyI t ≤ t := by
  unfold earlyI; split <;> omega

/-- the product, with its bounds (what a drift does to some ticks) -/
theorem mul_bd (t d : Int) (h0 : 0 ≤ t) (h1 : t ≤ 1000000) (d0 : -200 ≤ d) (d1 : d ≤ 200) :
    t * (1000000 + d) = t * 1000000 + t * d ∧ -(200 * t) ≤ t * d ∧ t * d ≤ 200 * t := by
  refine ⟨by rw [Int.mul_add], ?_, ?_⟩
  · have := Int.mul_le_mul_of_nonneg_left d0 h0
    have e : t * -200 = -(200 * t) := by omega
    omega
  · have := Int.mul_le_mul_of_nonneg_left d1 h0
    omega
theorem shown_bd (t d : Int) (h0 : 0 ≤ t) (h1 : t ≤ 1000000) (d0 : -200 ≤ d) (d1 : d ≤ 200) :
    0 ≤ shownI t d ∧ shownI t d ≤ 1000200 := by
  obtain ⟨e, a, b⟩ := mul_bd t d h0 h1 d0 d1
  unfold shownI; rw [e]; omega
end Go.Proofs.YtlfogcidklpeiaaDoor.Ck

namespace Go.Proofs.YtlfogcidklpeiaaDoor.Ck
/-! What the functions answer at every argument. -/
def shV (t d : Int) : Int := if tkB t && drB d then shownI t d else 0
def shE (t d : Int) : Int := if tkB t && drB d then 0 else 1
def wtV (t : Int) : Int := if tkB t then waitI t else 0
def erV (t : Int) : Int := if tkB t then earlyI t else 0
def tkE (t : Int) : Int := if tkB t then 0 else 1

theorem sh_in {t d : Int} (h0 : 0 ≤ t) (h1 : t ≤ 1000000) (d0 : -200 ≤ d) (d1 : d ≤ 200) : shV t d = shownI t d ∧ shE t d = 0 := by
  have a : tkB t = true := (tkB_iff t).2 ⟨h0, h1⟩
  have b : drB d = true := (drB_iff d).2 ⟨d0, d1⟩
  simp [shV, shE, a, b]
theorem sh_out {t d : Int} (h : t < 0 ∨ 1000000 < t ∨ d < -200 ∨ 200 < d) : shV t d = 0 ∧ shE t d = 1 := by
  by_cases a : tkB t = true
  · rw [tkB_iff] at a
    have b : drB d = false := (drB_no d).2 (by omega)
    simp [shV, shE, b]
  · have a' : tkB t = false := by simpa using a
    simp [shV, shE, a']
theorem tk_in {t : Int} (h0 : 0 ≤ t) (h1 : t ≤ 1000000) : wtV t = waitI t ∧ erV t = earlyI t ∧ tkE t = 0 := by
  have a : tkB t = true := (tkB_iff t).2 ⟨h0, h1⟩
  simp [wtV, erV, tkE, a]
theorem tk_out {t : Int} (h : t < 0 ∨ 1000000 < t) : wtV t = 0 ∧ erV t = 0 ∧ tkE t = 1 := by
  have a : tkB t = false := (tkB_no t).2 h
  simp [wtV, erV, tkE, a]
end Go.Proofs.YtlfogcidklpeiaaDoor.Ck
