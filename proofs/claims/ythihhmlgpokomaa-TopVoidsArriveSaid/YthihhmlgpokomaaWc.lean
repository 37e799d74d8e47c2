/- cards: numbers, epochs, the methods, the closures of one element. -/
import Derived.Test.YthihhmlgpokomaaWb
import Derived.Test.YthihhmlgpokomaaProg
import Derived.WalkKit
import Derived.Lib.Hide
import Derived.Deep.QuietTactic
import Derived.BigQuiet
import Derived.IntWalk
set_option maxRecDepth 100000
set_option linter.unusedVariables false
set_option linter.unusedSimpArgs false
namespace Go.Proofs.Ythihhmlgpokomaa
open Go.RowKit

theorem isNumber_lit (b : Bool) (n : Int) (w : World) (h : decide (1 ≤ n ∧ n ≤ 1000000) = b) : Calls Try.prog 20 #[.int .i64 n] w fun e w' => e = .returned (.bool b) ∧ w = w' := by
  subst h
  by_cases h1 : 1 ≤ n
  · by_cases h2 : n ≤ 1000000
    · rw [decide_eq_true (show 1 ≤ n ∧ n ≤ 1000000 from ⟨h1, h2⟩)]
      go_enter Try.func20, Try.ntmps20
      go_wp2
      go_ret
      exact ⟨rfl, rfl⟩
    · rw [decide_eq_false (show ¬ (1 ≤ n ∧ n ≤ 1000000) by omega)]
      go_enter Try.func20, Try.ntmps20
      go_wp2
      go_ret
      exact ⟨rfl, rfl⟩
  · rw [decide_eq_false (show ¬ (1 ≤ n ∧ n ≤ 1000000) by omega)]
    go_enter Try.func20, Try.ntmps20
    go_wp2
    go_ret
    exact ⟨rfl, rfl⟩
theorem isEpoch_lit (b : Bool) (n : Int) (w : World) (h : decide (0 ≤ n ∧ n ≤ 1000000) = b) : Calls Try.prog 21 #[.int .i64 n] w fun e w' => e = .returned (.bool b) ∧ w = w' := by
  subst h
  by_cases h1 : 0 ≤ n
  · by_cases h2 : n ≤ 1000000
    · rw [decide_eq_true (show 0 ≤ n ∧ n ≤ 1000000 from ⟨h1, h2⟩)]
      go_enter Try.func21, Try.ntmps21
      go_wp2
      go_ret
      exact ⟨rfl, rfl⟩
    · rw [decide_eq_false (show ¬ (0 ≤ n ∧ n ≤ 1000000) by omega)]
      go_enter Try.func21, Try.ntmps21
      go_wp2
      go_ret
      exact ⟨rfl, rfl⟩
  · rw [decide_eq_false (show ¬ (0 ≤ n ∧ n ≤ 1000000) by omega)]
    go_enter Try.func21, Try.ntmps21
    go_wp2
    go_ret
    exact ⟨rfl, rfl⟩
theorem rNumber_lit (b : Bool) (n : Int) (w : World) (h : decide (1 ≤ n ∧ n ≤ 1000000) = b) : Calls Try.prog 8 #[.int .i64 n] w fun e w' => e = .returned (.bool b) ∧ w = w' := by
  subst h
  by_cases h1 : 1 ≤ n
  · by_cases h2 : n ≤ 1000000
    · rw [decide_eq_true (show 1 ≤ n ∧ n ≤ 1000000 from ⟨h1, h2⟩)]
      go_enter Try.func8, Try.ntmps8
      go_wp2
      go_ret
      exact ⟨rfl, rfl⟩
    · rw [decide_eq_false (show ¬ (1 ≤ n ∧ n ≤ 1000000) by omega)]
      go_enter Try.func8, Try.ntmps8
      go_wp2
      go_ret
      exact ⟨rfl, rfl⟩
  · rw [decide_eq_false (show ¬ (1 ≤ n ∧ n ≤ 1000000) by omega)]
    go_enter Try.func8, Try.ntmps8
    go_wp2
    go_ret
    exact ⟨rfl, rfl⟩
theorem rEpoch_lit (b : Bool) (n : Int) (w : World) (h : decide (0 ≤ n ∧ n ≤ 1000000) = b) : Calls Try.prog 9 #[.int .i64 n] w fun e w' => e = .returned (.bool b) ∧ w = w' := by
  subst h
  by_cases h1 : 0 ≤ n
  · by_cases h2 : n ≤ 1000000
    · rw [decide_eq_true (show 0 ≤ n ∧ n ≤ 1000000 from ⟨h1, h2⟩)]
      go_enter Try.func9, Try.ntmps9
      go_wp2
      go_ret
      exact ⟨rfl, rfl⟩
    · rw [decide_eq_false (show ¬ (0 ≤ n ∧ n ≤ 1000000) by omega)]
      go_enter Try.func9, Try.ntmps9
      go_wp2
      go_ret
      exact ⟨rfl, rfl⟩
  · rw [decide_eq_false (show ¬ (0 ≤ n ∧ n ≤ 1000000) by omega)]
    go_enter Try.func9, Try.ntmps9
    go_wp2
    go_ret
    exact ⟨rfl, rfl⟩
theorem vNumber (v : Vd) (w : World) : Calls Try.prog 67 #[.agg #[.int .i64 v.n, .int .i64 v.e]] w fun e w' => e = .returned (.int .i64 v.n) ∧ Below w.heap.size w w' := by
  have HB := Lib.hid (al1 w (.cells #[.int .i64 v.n, .int .i64 v.e] 60))
  go_enter Try.func67, Try.ntmps67
  go_wp2
  go_ret
  exact ⟨rfl, HB.out⟩
theorem cNumber (c : Cd) (w : World) : Calls Try.prog 65 #[.agg #[.int .i64 c.n, .int .i64 c.k, .int .i64 c.f, .int .i64 c.l]] w fun e w' => e = .returned (.int .i64 c.n) ∧ Below w.heap.size w w' := by
  have HB := Lib.hid (al1 w (.cells #[.int .i64 c.n, .int .i64 c.k, .int .i64 c.f, .int .i64 c.l] 58))
  go_enter Try.func65, Try.ntmps65
  go_wp2
  go_ret
  exact ⟨rfl, HB.out⟩
theorem vValid_yes (v : Vd) (w : World) (h : vOne v) : Calls Try.prog 68 #[.agg #[.int .i64 v.n, .int .i64 v.e]] w fun e w' => e = .returned (.bool true) ∧ Below w.heap.size w w' := by
  have hb : decide (0 ≤ v.e ∧ v.e ≤ 1000000) = true := decide_eq_true ⟨h.2.2.1, h.2.2.2⟩
  have HE := Lib.hid hb
  clear hb
  have HB := Lib.hid (al1 w (.cells #[.int .i64 v.n, .int .i64 v.e] 60))
  go_enter Try.func68, Try.ntmps68
  go_wp2_with fail
  refine (isEpoch_lit true v.e _ HE.out).mono ?_
  rintro e w' ⟨rfl, rfl⟩
  go_wp2
  go_ret
  exact ⟨rfl, HB.out⟩
theorem cValid_yes (c : Cd) (w : World) (h : cOne c) : Calls Try.prog 66 #[.agg #[.int .i64 c.n, .int .i64 c.k, .int .i64 c.f, .int .i64 c.l]] w fun e w' => e = .returned (.bool true) ∧ Below w.heap.size w w' := by
  obtain ⟨_, _, h1, h2, h3, h4, h5, h6, h7⟩ := h
  have hb : decide (0 ≤ c.f ∧ c.f ≤ 1000000) = true := decide_eq_true ⟨h3, h4⟩
  have hd : decide (0 ≤ c.l ∧ c.l ≤ 1000000) = true := decide_eq_true ⟨h5, h6⟩
  have HE := Lib.hid hb
  have HD := Lib.hid hd
  clear hb hd
  have HB := Lib.hid (al1 w (.cells #[.int .i64 c.n, .int .i64 c.k, .int .i64 c.f, .int .i64 c.l] 58))
  go_enter Try.func66, Try.ntmps66
  go_wp2_with fail
  refine (isEpoch_lit true c.f _ HE.out).mono ?_
  rintro e w' ⟨rfl, rfl⟩
  go_wp2_with fail
  refine (isEpoch_lit true c.l _ HD.out).mono ?_
  rintro e w' ⟨rfl, rfl⟩
  go_wp2
  go_ret
  exact ⟨rfl, HB.out⟩
theorem cIn_lit (b : Bool) (c : Cd) (e : Int) (w : World) (h : inB c e = b) : Calls Try.prog 23 #[.agg #[.int .i64 c.n, .int .i64 c.k, .int .i64 c.f, .int .i64 c.l], .int .i64 e] w fun e' w' => e' = .returned (.bool b) ∧ Below w.heap.size w w' := by
  subst h
  have HB := Lib.hid (al1 w (.cells #[.int .i64 c.n, .int .i64 c.k, .int .i64 c.f, .int .i64 c.l] 58))
  by_cases h1 : c.f ≤ e
  · by_cases h2 : e ≤ c.l
    · have hb : inB c e = true := by simp [inB, h1, h2]
      rw [hb]
      clear hb
      go_enter Try.func23, Try.ntmps23
      go_wp2
      go_ret
      exact ⟨rfl, HB.out⟩
    · have hb : inB c e = false := by simp [inB, h2]
      rw [hb]
      clear hb
      go_enter Try.func23, Try.ntmps23
      go_wp2
      go_ret
      exact ⟨rfl, HB.out⟩
  · have hb : inB c e = false := by simp [inB, h1]
    rw [hb]
    clear hb
    go_enter Try.func23, Try.ntmps23
    go_wp2
    go_ret
    exact ⟨rfl, HB.out⟩
theorem toVoid (v : Vd) (w : World) : Calls Try.prog 43 #[.agg #[.int .i64 v.n, .int .i64 v.e]] w fun e w' => e = .returned (.agg #[.int .i64 v.n, .int .i64 v.e]) ∧ Below w.heap.size w w' := by
  go_enter Try.func43, Try.ntmps43
  go_wp2
  refine bodyPost_ret (v := .agg #[.int .i64 v.n, .int .i64 v.e]) (by simp [results, Try.results43, go_sem]) rfl ⟨rfl, ?_⟩
  exact (by first | exact al2 _ _ _ | exact (al2 _ _ _).setCell (by simp) _ | skip)
theorem ofVoid (v : Vd) (w : World) : Calls Try.prog 39 #[.agg #[.int .i64 v.n, .int .i64 v.e]] w fun e w' => e = .returned (.agg #[.int .i64 v.n, .int .i64 v.e]) ∧ Below w.heap.size w w' := by
  go_enter Try.func39, Try.ntmps39
  go_wp2
  refine bodyPost_ret (v := .agg #[.int .i64 v.n, .int .i64 v.e]) (by simp [results, Try.results39, go_sem]) rfl ⟨rfl, ?_⟩
  exact (by first | exact al2 _ _ _ | exact (al2 _ _ _).setCell (by simp) _ | skip)
theorem toCard (c : Cd) (w : World) : Calls Try.prog 41 #[.agg #[.int .i64 c.n, .int .i64 c.k, .int .i64 c.f, .int .i64 c.l]] w fun e w' => e = .returned (.agg #[.int .i64 c.n, .int .i64 c.k, .int .i64 c.f, .int .i64 c.l]) ∧ Below w.heap.size w w' := by
  go_enter Try.func41, Try.ntmps41
  go_wp2
  refine bodyPost_ret (v := .agg #[.int .i64 c.n, .int .i64 c.k, .int .i64 c.f, .int .i64 c.l]) (by simp [results, Try.results41, go_sem]) rfl ⟨rfl, ?_⟩
  exact (by first | exact al2 _ _ _ | exact (al2 _ _ _).setCell (by simp) _ | skip)
end Go.Proofs.Ythihhmlgpokomaa
