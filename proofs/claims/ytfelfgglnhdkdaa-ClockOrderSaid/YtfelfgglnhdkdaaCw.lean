/- The walks of the seven laws on clocks. -/
import Derived.Test.YtfelfgglnhdkdaaCr
set_option linter.unusedVariables false
namespace Go.Proofs.Ytfelfgglnhdkdaa
open Go.RowKit Ck

theorem ClockMatchesReference_walk (t d : Int) (w : World) (ht0 : -9223372036854775808 ≤ t) (ht1 : t ≤ 9223372036854775807) (hd0 : -9223372036854775808 ≤ d) (hd1 : d ≤ 9223372036854775807) :
    Calls Try.prog 3 #[.int .i64 t, .int .i64 d] w fun e w' => e = .returned (.bool true) ∧ Below w.heap.size w w' := by
  go_enter Try.func3, Try.ntmps3
  go_wp2_with (first
      | (go_at_call 10; refine (head_any _).mono ?_; rintro e w' ⟨rfl, hb⟩)
      | (go_at_call 17; refine (ticks_any _ _).mono ?_; rintro e w' ⟨rfl, rfl⟩)
      | (go_at_call 18; refine (drift_any _ _).mono ?_; rintro e w' ⟨rfl, rfl⟩)
      | (go_at_call 11; refine (Shown_any _ _ _).mono ?_; rintro e w' ⟨rfl, rfl⟩)
      | (go_at_call 13; refine (Wait_any _ _).mono ?_; rintro e w' ⟨rfl, hb⟩)
      | (go_at_call 15; refine (Early_any _ _).mono ?_; rintro e w' ⟨rfl, hb⟩)
      | (go_at_call 12; refine (rShown_any _ _ _).mono ?_; rintro e w' ⟨rfl, rfl⟩)
      | (go_at_call 14; refine (rWait_any _ _).mono ?_; rintro e w' ⟨rfl, rfl⟩)
      | (go_at_call 16; refine (rEarly_any _ _).mono ?_; rintro e w' ⟨rfl, rfl⟩))
  go_ret
  exact ⟨rfl, by repeat (first | exact Below.refl _ _ | assumption | refine bt (by assumption) ?_)⟩

theorem ClockBounds_walk (n d : Int) (w : World) (hn0 : -9223372036854775808 ≤ n) (hn1 : n ≤ 9223372036854775807) (hd0 : -9223372036854775808 ≤ d) (hd1 : d ≤ 9223372036854775807) :
    Calls Try.prog 4 #[.int .i64 n, .int .i64 d] w fun e w' => e = .returned (.bool true) ∧ Below w.heap.size w w' := by
  by_cases kn : tkB n = true
  · have kn' := (tkB_iff n).1 kn
    obtain ⟨n0, n1⟩ := kn'
    by_cases kd : drB d = true
    · have kd' := (drB_iff d).1 kd
      obtain ⟨d0, d1⟩ := kd'
      obtain ⟨e1, e2⟩ := sh_in n0 n1 d0 d1
      obtain ⟨m1, m2, m3⟩ := mul_bd n d n0 n1 d0 d1
      have q1 : shownI n d * 1000000 ≤ n * (1000000 + d) := by unfold shownI; omega
      have q2 : n * (1000000 + d) < (shownI n d + 1) * 1000000 := by unfold shownI; omega
      have q3 : n - (n * 200 + 999999) / 1000000 ≤ shownI n d := by omega
      have q4 : shownI n d ≤ n + (n * 200 + 999999) / 1000000 := by omega
      have q5 : 0 ≤ n * (1000000 + d) := by omega
      have q6 : n * (1000000 + d) ≤ 9000000000000 := by omega
      clear m1 m2 m3
      generalize shownI n d = s at *
      go_enter Try.func4, Try.ntmps4
      go_wp2_with (first
          | (go_at_call 10; refine (head_any _).mono ?_; rintro e w' ⟨rfl, hb⟩)
          | (go_at_call 17; refine (ticks_any _ _).mono ?_; rintro e w' ⟨rfl, rfl⟩)
          | (go_at_call 18; refine (drift_any _ _).mono ?_; rintro e w' ⟨rfl, rfl⟩)
          | (go_at_call 11; refine (Shown_any _ _ _).mono ?_; rintro e w' ⟨rfl, rfl⟩)
          | (go_at_call 13; refine (Wait_any _ _).mono ?_; rintro e w' ⟨rfl, hb⟩)
          | (go_at_call 15; refine (Early_any _ _).mono ?_; rintro e w' ⟨rfl, hb⟩)
          | (go_at_call 12; refine (rShown_any _ _ _).mono ?_; rintro e w' ⟨rfl, rfl⟩)
          | (go_at_call 14; refine (rWait_any _ _).mono ?_; rintro e w' ⟨rfl, rfl⟩)
          | (go_at_call 16; refine (rEarly_any _ _).mono ?_; rintro e w' ⟨rfl, rfl⟩))
      go_ret
      exact ⟨rfl, by repeat (first | exact Below.refl _ _ | assumption | refine bt (by assumption) ?_)⟩
    · have kd' : drB d = false := by simpa using kd
      clear kd
      go_enter Try.func4, Try.ntmps4
      go_wp2_with (first
          | (go_at_call 10; refine (head_any _).mono ?_; rintro e w' ⟨rfl, hb⟩)
          | (go_at_call 17; refine (ticks_any _ _).mono ?_; rintro e w' ⟨rfl, rfl⟩)
          | (go_at_call 18; refine (drift_any _ _).mono ?_; rintro e w' ⟨rfl, rfl⟩)
          | (go_at_call 11; refine (Shown_any _ _ _).mono ?_; rintro e w' ⟨rfl, rfl⟩)
          | (go_at_call 13; refine (Wait_any _ _).mono ?_; rintro e w' ⟨rfl, hb⟩)
          | (go_at_call 15; refine (Early_any _ _).mono ?_; rintro e w' ⟨rfl, hb⟩)
          | (go_at_call 12; refine (rShown_any _ _ _).mono ?_; rintro e w' ⟨rfl, rfl⟩)
          | (go_at_call 14; refine (rWait_any _ _).mono ?_; rintro e w' ⟨rfl, rfl⟩)
          | (go_at_call 16; refine (rEarly_any _ _).mono ?_; rintro e w' ⟨rfl, rfl⟩))
      go_ret
      exact ⟨rfl, by repeat (first | exact Below.refl _ _ | assumption | refine bt (by assumption) ?_)⟩
  · have kn' : tkB n = false := by simpa using kn
    clear kn
    go_enter Try.func4, Try.ntmps4
    go_wp2_with (first
        | (go_at_call 10; refine (head_any _).mono ?_; rintro e w' ⟨rfl, hb⟩)
        | (go_at_call 17; refine (ticks_any _ _).mono ?_; rintro e w' ⟨rfl, rfl⟩)
        | (go_at_call 18; refine (drift_any _ _).mono ?_; rintro e w' ⟨rfl, rfl⟩)
        | (go_at_call 11; refine (Shown_any _ _ _).mono ?_; rintro e w' ⟨rfl, rfl⟩)
        | (go_at_call 13; refine (Wait_any _ _).mono ?_; rintro e w' ⟨rfl, hb⟩)
        | (go_at_call 15; refine (Early_any _ _).mono ?_; rintro e w' ⟨rfl, hb⟩)
        | (go_at_call 12; refine (rShown_any _ _ _).mono ?_; rintro e w' ⟨rfl, rfl⟩)
        | (go_at_call 14; refine (rWait_any _ _).mono ?_; rintro e w' ⟨rfl, rfl⟩)
        | (go_at_call 16; refine (rEarly_any _ _).mono ?_; rintro e w' ⟨rfl, rfl⟩))
    go_ret
    exact ⟨rfl, by repeat (first | exact Below.refl _ _ | assumption | refine bt (by assumption) ?_)⟩

set_option maxHeartbeats 1000000 in
theorem ClockWaiting_walk (n d : Int) (w : World) (hn0 : -9223372036854775808 ≤ n) (hn1 : n ≤ 9223372036854775807) (hd0 : -9223372036854775808 ≤ d) (hd1 : d ≤ 9223372036854775807) :
    Calls Try.prog 5 #[.int .i64 n, .int .i64 d] w fun e w' => e = .returned (.bool true) ∧ Below w.heap.size w w' := by
  by_cases kn : tkB n = true
  · have kn' := (tkB_iff n).1 kn
    obtain ⟨n0, n1⟩ := kn'
    by_cases kd : drB d = true
    · have kd' := (drB_iff d).1 kd
      obtain ⟨d0, d1⟩ := kd'
      obtain ⟨a1, a2, a3⟩ := tk_in n0 n1
      obtain ⟨b1, b2, b3⟩ := wait_bd n n0 n1
      clear a2
      have hw1 : n ≤ waitI n * 999800 / 1000000 := (wait_iff n (waitI n) n0 b1).2 (Int.le_refl _)
      have hw2 : 1 ≤ waitI n → (waitI n - 1) * 999800 / 1000000 < n := fun h => by
        have := (wait_iff n (waitI n - 1) n0 (by omega)).1
        omega
      have hz : n = 0 → waitI n = 0 := by rintro rfl; decide
      generalize waitI n = v at *
      by_cases hv : v ≤ 1000000
      · obtain ⟨e1, e2⟩ := sh_in b1 hv d0 d1
        obtain ⟨m1, m2, m3⟩ := mul_bd v d b1 hv d0 d1
        have q1 : n ≤ shownI v d := by unfold shownI; omega
        have q2 := shown_bd v d b1 hv d0 d1
        clear m1 m2 m3
        generalize shownI v d = s at *
        by_cases hv0 : v = 0
        · subst hv0
          obtain rfl : n = 0 := by omega
          obtain ⟨f1, f2⟩ := sh_out (t := 0 - 1) (d := -200) (by omega)
          clear hw2 hz hw1
          go_enter Try.func5, Try.ntmps5
          go_wp2_with (first
              | (go_at_call 10; refine (head_any _).mono ?_; rintro e w' ⟨rfl, hb⟩)
              | (go_at_call 17; refine (ticks_any _ _).mono ?_; rintro e w' ⟨rfl, rfl⟩)
              | (go_at_call 18; refine (drift_any _ _).mono ?_; rintro e w' ⟨rfl, rfl⟩)
              | (go_at_call 11; refine (Shown_any _ _ _).mono ?_; rintro e w' ⟨rfl, rfl⟩)
              | (go_at_call 13; refine (Wait_any _ _).mono ?_; rintro e w' ⟨rfl, hb⟩)
              | (go_at_call 15; refine (Early_any _ _).mono ?_; rintro e w' ⟨rfl, hb⟩)
              | (go_at_call 12; refine (rShown_any _ _ _).mono ?_; rintro e w' ⟨rfl, rfl⟩)
              | (go_at_call 14; refine (rWait_any _ _).mono ?_; rintro e w' ⟨rfl, rfl⟩)
              | (go_at_call 16; refine (rEarly_any _ _).mono ?_; rintro e w' ⟨rfl, rfl⟩))
          go_ret
          exact ⟨rfl, by repeat (first | exact Below.refl _ _ | assumption | refine bt (by assumption) ?_)⟩
        · obtain ⟨f1, f2⟩ := sh_in (t := v - 1) (d := -200) (by omega) (by omega) (by omega) (by omega)
          have r1 : shownI (v - 1) (-200) < n := by have := hw2 (by omega); unfold shownI; omega
          have r2 := shown_bd (v - 1) (-200) (by omega) (by omega) (by omega) (by omega)
          have c1 : (v == 0) = false := by simp [hv0]
          clear hw2 hz hw1 hv0
          generalize shownI (v - 1) (-200) = s2 at *
          go_enter Try.func5, Try.ntmps5
          go_wp2_with (first
              | (go_at_call 10; refine (head_any _).mono ?_; rintro e w' ⟨rfl, hb⟩)
              | (go_at_call 17; refine (ticks_any _ _).mono ?_; rintro e w' ⟨rfl, rfl⟩)
              | (go_at_call 18; refine (drift_any _ _).mono ?_; rintro e w' ⟨rfl, rfl⟩)
              | (go_at_call 11; refine (Shown_any _ _ _).mono ?_; rintro e w' ⟨rfl, rfl⟩)
              | (go_at_call 13; refine (Wait_any _ _).mono ?_; rintro e w' ⟨rfl, hb⟩)
              | (go_at_call 15; refine (Early_any _ _).mono ?_; rintro e w' ⟨rfl, hb⟩)
              | (go_at_call 12; refine (rShown_any _ _ _).mono ?_; rintro e w' ⟨rfl, rfl⟩)
              | (go_at_call 14; refine (rWait_any _ _).mono ?_; rintro e w' ⟨rfl, rfl⟩)
              | (go_at_call 16; refine (rEarly_any _ _).mono ?_; rintro e w' ⟨rfl, rfl⟩))
          go_ret
          exact ⟨rfl, by repeat (first | exact Below.refl _ _ | assumption | refine bt (by assumption) ?_)⟩
      · obtain ⟨e1, e2⟩ := sh_out (t := v) (d := d) (by omega)
        have c1 : (v == 0) = false := by simp; omega
        by_cases hv1 : v - 1 ≤ 1000000
        · obtain ⟨f1, f2⟩ := sh_in (t := v - 1) (d := -200) (by omega) (by omega) (by omega) (by omega)
          have r1 : shownI (v - 1) (-200) < n := by have := hw2 (by omega); unfold shownI; omega
          have r2 := shown_bd (v - 1) (-200) (by omega) (by omega) (by omega) (by omega)
          clear hw2 hz hw1
          generalize shownI (v - 1) (-200) = s2 at *
          go_enter Try.func5, Try.ntmps5
          go_wp2_with (first
              | (go_at_call 10; refine (head_any _).mono ?_; rintro e w' ⟨rfl, hb⟩)
              | (go_at_call 17; refine (ticks_any _ _).mono ?_; rintro e w' ⟨rfl, rfl⟩)
              | (go_at_call 18; refine (drift_any _ _).mono ?_; rintro e w' ⟨rfl, rfl⟩)
              | (go_at_call 11; refine (Shown_any _ _ _).mono ?_; rintro e w' ⟨rfl, rfl⟩)
              | (go_at_call 13; refine (Wait_any _ _).mono ?_; rintro e w' ⟨rfl, hb⟩)
              | (go_at_call 15; refine (Early_any _ _).mono ?_; rintro e w' ⟨rfl, hb⟩)
              | (go_at_call 12; refine (rShown_any _ _ _).mono ?_; rintro e w' ⟨rfl, rfl⟩)
              | (go_at_call 14; refine (rWait_any _ _).mono ?_; rintro e w' ⟨rfl, rfl⟩)
              | (go_at_call 16; refine (rEarly_any _ _).mono ?_; rintro e w' ⟨rfl, rfl⟩))
          go_ret
          exact ⟨rfl, by repeat (first | exact Below.refl _ _ | assumption | refine bt (by assumption) ?_)⟩
        · obtain ⟨f1, f2⟩ := sh_out (t := v - 1) (d := -200) (by omega)
          clear hw2 hz hw1
          go_enter Try.func5, Try.ntmps5
          go_wp2_with (first
              | (go_at_call 10; refine (head_any _).mono ?_; rintro e w' ⟨rfl, hb⟩)
              | (go_at_call 17; refine (ticks_any _ _).mono ?_; rintro e w' ⟨rfl, rfl⟩)
              | (go_at_call 18; refine (drift_any _ _).mono ?_; rintro e w' ⟨rfl, rfl⟩)
              | (go_at_call 11; refine (Shown_any _ _ _).mono ?_; rintro e w' ⟨rfl, rfl⟩)
              | (go_at_call 13; refine (Wait_any _ _).mono ?_; rintro e w' ⟨rfl, hb⟩)
              | (go_at_call 15; refine (Early_any _ _).mono ?_; rintro e w' ⟨rfl, hb⟩)
              | (go_at_call 12; refine (rShown_any _ _ _).mono ?_; rintro e w' ⟨rfl, rfl⟩)
              | (go_at_call 14; refine (rWait_any _ _).mono ?_; rintro e w' ⟨rfl, rfl⟩)
              | (go_at_call 16; refine (rEarly_any _ _).mono ?_; rintro e w' ⟨rfl, rfl⟩))
          go_ret
          exact ⟨rfl, by repeat (first | exact Below.refl _ _ | assumption | refine bt (by assumption) ?_)⟩
    · have kd' : drB d = false := by simpa using kd
      clear kd
      go_enter Try.func5, Try.ntmps5
      go_wp2_with (first
          | (go_at_call 10; refine (head_any _).mono ?_; rintro e w' ⟨rfl, hb⟩)
          | (go_at_call 17; refine (ticks_any _ _).mono ?_; rintro e w' ⟨rfl, rfl⟩)
          | (go_at_call 18; refine (drift_any _ _).mono ?_; rintro e w' ⟨rfl, rfl⟩)
          | (go_at_call 11; refine (Shown_any _ _ _).mono ?_; rintro e w' ⟨rfl, rfl⟩)
          | (go_at_call 13; refine (Wait_any _ _).mono ?_; rintro e w' ⟨rfl, hb⟩)
          | (go_at_call 15; refine (Early_any _ _).mono ?_; rintro e w' ⟨rfl, hb⟩)
          | (go_at_call 12; refine (rShown_any _ _ _).mono ?_; rintro e w' ⟨rfl, rfl⟩)
          | (go_at_call 14; refine (rWait_any _ _).mono ?_; rintro e w' ⟨rfl, rfl⟩)
          | (go_at_call 16; refine (rEarly_any _ _).mono ?_; rintro e w' ⟨rfl, rfl⟩))
      go_ret
      exact ⟨rfl, by repeat (first | exact Below.refl _ _ | assumption | refine bt (by assumption) ?_)⟩
  · have kn' : tkB n = false := by simpa using kn
    clear kn
    go_enter Try.func5, Try.ntmps5
    go_wp2_with (first
        | (go_at_call 10; refine (head_any _).mono ?_; rintro e w' ⟨rfl, hb⟩)
        | (go_at_call 17; refine (ticks_any _ _).mono ?_; rintro e w' ⟨rfl, rfl⟩)
        | (go_at_call 18; refine (drift_any _ _).mono ?_; rintro e w' ⟨rfl, rfl⟩)
        | (go_at_call 11; refine (Shown_any _ _ _).mono ?_; rintro e w' ⟨rfl, rfl⟩)
        | (go_at_call 13; refine (Wait_any _ _).mono ?_; rintro e w' ⟨rfl, hb⟩)
        | (go_at_call 15; refine (Early_any _ _).mono ?_; rintro e w' ⟨rfl, hb⟩)
        | (go_at_call 12; refine (rShown_any _ _ _).mono ?_; rintro e w' ⟨rfl, rfl⟩)
        | (go_at_call 14; refine (rWait_any _ _).mono ?_; rintro e w' ⟨rfl, rfl⟩)
        | (go_at_call 16; refine (rEarly_any _ _).mono ?_; rintro e w' ⟨rfl, rfl⟩))
    go_ret
    exact ⟨rfl, by repeat (first | exact Below.refl _ _ | assumption | refine bt (by assumption) ?_)⟩

set_option maxHeartbeats 2000000 in
theorem ClockEarly_walk (p d n : Int) (w : World) (hp0 : -9223372036854775808 ≤ p) (hp1 : p ≤ 9223372036854775807) (hd0 : -9223372036854775808 ≤ d) (hd1 : d ≤ 9223372036854775807) (hn0 : -9223372036854775808 ≤ n) (hn1 : n ≤ 9223372036854775807) :
    Calls Try.prog 6 #[.int .i64 p, .int .i64 d, .int .i64 n] w fun e w' => e = .returned (.bool true) ∧ Below w.heap.size w w' := by
  by_cases kp : tkB p = true
  · have kp' := (tkB_iff p).1 kp
    obtain ⟨p0, p1⟩ := kp'
    by_cases kd : drB d = true
    · have kd' := (drB_iff d).1 kd
      obtain ⟨d0, d1⟩ := kd'
      by_cases kn : tkB n = true
      · have kn' := (tkB_iff n).1 kn
        obtain ⟨n0, n1⟩ := kn'
        obtain ⟨e1, e2⟩ := sh_in p0 p1 d0 d1
        obtain ⟨m1, m2, m3⟩ := mul_bd p d p0 p1 d0 d1
        have q5 : 0 ≤ p * (1000000 + d) := by omega
        have q6 : p * (1000000 + d) ≤ 9000000000000 := by omega
        obtain ⟨a1, a2, a3⟩ := tk_in n0 n1
        clear a1
        obtain ⟨b1, b2, b3⟩ := early_bd n n0 n1
        have u1 : n ≤ (earlyI n * 1000200 + 999999) / 1000000 := (early_iff n (earlyI n) n0 b1).2 (Int.le_refl _)
        have u2 : 1 ≤ earlyI n → ((earlyI n - 1) * 1000200 + 999999) / 1000000 < n := fun h => by
          have := (early_iff n (earlyI n - 1) n0 (by omega)).1
          omega
        have s1 : shownI p d = p * (1000000 + d) / 1000000 := rfl
        have sb := shown_bd p d p0 p1 d0 d1
        generalize shownI p d = s at *
        generalize earlyI n = m at *
        by_cases hr : p * (1000000 + d) % 1000000 = 0
        · have hr' : ¬ (0 < p * (1000000 + d) % 1000000) := by omega
          by_cases hs : s ≤ 1000000
          · obtain ⟨f1, f2, f3⟩ := tk_in (t := s) (by omega) hs
            clear f1
            obtain ⟨g1, g2, g3⟩ := early_bd (s) (by omega) hs
            have g4 : earlyI (s) ≤ p := (early_iff (s) p (by omega) p0).1 (by omega)
            clear m1 m2 m3 hr s1
            generalize earlyI (s) = x at *
            by_cases hm : m = 0
            · have c1 : (m == 0) = true := by simp [hm]
              clear u2
              go_enter Try.func6, Try.ntmps6
              go_wp2_with (first
                  | (go_at_call 10; refine (head_any _).mono ?_; rintro e w' ⟨rfl, hb⟩)
                  | (go_at_call 17; refine (ticks_any _ _).mono ?_; rintro e w' ⟨rfl, rfl⟩)
                  | (go_at_call 18; refine (drift_any _ _).mono ?_; rintro e w' ⟨rfl, rfl⟩)
                  | (go_at_call 11; refine (Shown_any _ _ _).mono ?_; rintro e w' ⟨rfl, rfl⟩)
                  | (go_at_call 13; refine (Wait_any _ _).mono ?_; rintro e w' ⟨rfl, hb⟩)
                  | (go_at_call 15; refine (Early_any _ _).mono ?_; rintro e w' ⟨rfl, hb⟩)
                  | (go_at_call 12; refine (rShown_any _ _ _).mono ?_; rintro e w' ⟨rfl, rfl⟩)
                  | (go_at_call 14; refine (rWait_any _ _).mono ?_; rintro e w' ⟨rfl, rfl⟩)
                  | (go_at_call 16; refine (rEarly_any _ _).mono ?_; rintro e w' ⟨rfl, rfl⟩))
              go_ret
              exact ⟨rfl, by repeat (first | exact Below.refl _ _ | assumption | refine bt (by assumption) ?_)⟩
            · have c1 : (m == 0) = false := by simp [hm]
              have u3 := u2 (by omega)
              have m0 : 1 ≤ m := by omega
              clear u2 hm
              go_enter Try.func6, Try.ntmps6
              go_wp2_with (first
                  | (go_at_call 10; refine (head_any _).mono ?_; rintro e w' ⟨rfl, hb⟩)
                  | (go_at_call 17; refine (ticks_any _ _).mono ?_; rintro e w' ⟨rfl, rfl⟩)
                  | (go_at_call 18; refine (drift_any _ _).mono ?_; rintro e w' ⟨rfl, rfl⟩)
                  | (go_at_call 11; refine (Shown_any _ _ _).mono ?_; rintro e w' ⟨rfl, rfl⟩)
                  | (go_at_call 13; refine (Wait_any _ _).mono ?_; rintro e w' ⟨rfl, hb⟩)
                  | (go_at_call 15; refine (Early_any _ _).mono ?_; rintro e w' ⟨rfl, hb⟩)
                  | (go_at_call 12; refine (rShown_any _ _ _).mono ?_; rintro e w' ⟨rfl, rfl⟩)
                  | (go_at_call 14; refine (rWait_any _ _).mono ?_; rintro e w' ⟨rfl, rfl⟩)
                  | (go_at_call 16; refine (rEarly_any _ _).mono ?_; rintro e w' ⟨rfl, rfl⟩))
              go_ret
              exact ⟨rfl, by repeat (first | exact Below.refl _ _ | assumption | refine bt (by assumption) ?_)⟩
          · have hs' : 1000000 < s := by omega
            obtain ⟨f1, f2, f3⟩ := tk_in (t := 1000000) (by omega) (by omega)
            clear f1
            obtain ⟨g1, g2, g3⟩ := early_bd 1000000 (by omega) (by omega)
            have g4 : earlyI 1000000 ≤ p := (early_iff 1000000 p (by omega) p0).1 (by omega)
            clear m1 m2 m3 hr s1
            generalize earlyI 1000000 = x at *
            by_cases hm : m = 0
            · have c1 : (m == 0) = true := by simp [hm]
              clear u2
              go_enter Try.func6, Try.ntmps6
              go_wp2_with (first
                  | (go_at_call 10; refine (head_any _).mono ?_; rintro e w' ⟨rfl, hb⟩)
                  | (go_at_call 17; refine (ticks_any _ _).mono ?_; rintro e w' ⟨rfl, rfl⟩)
                  | (go_at_call 18; refine (drift_any _ _).mono ?_; rintro e w' ⟨rfl, rfl⟩)
                  | (go_at_call 11; refine (Shown_any _ _ _).mono ?_; rintro e w' ⟨rfl, rfl⟩)
                  | (go_at_call 13; refine (Wait_any _ _).mono ?_; rintro e w' ⟨rfl, hb⟩)
                  | (go_at_call 15; refine (Early_any _ _).mono ?_; rintro e w' ⟨rfl, hb⟩)
                  | (go_at_call 12; refine (rShown_any _ _ _).mono ?_; rintro e w' ⟨rfl, rfl⟩)
                  | (go_at_call 14; refine (rWait_any _ _).mono ?_; rintro e w' ⟨rfl, rfl⟩)
                  | (go_at_call 16; refine (rEarly_any _ _).mono ?_; rintro e w' ⟨rfl, rfl⟩))
              go_ret
              exact ⟨rfl, by repeat (first | exact Below.refl _ _ | assumption | refine bt (by assumption) ?_)⟩
            · have c1 : (m == 0) = false := by simp [hm]
              have u3 := u2 (by omega)
              have m0 : 1 ≤ m := by omega
              clear u2 hm
              go_enter Try.func6, Try.ntmps6
              go_wp2_with (first
                  | (go_at_call 10; refine (head_any _).mono ?_; rintro e w' ⟨rfl, hb⟩)
                  | (go_at_call 17; refine (ticks_any _ _).mono ?_; rintro e w' ⟨rfl, rfl⟩)
                  | (go_at_call 18; refine (drift_any _ _).mono ?_; rintro e w' ⟨rfl, rfl⟩)
                  | (go_at_call 11; refine (Shown_any _ _ _).mono ?_; rintro e w' ⟨rfl, rfl⟩)
                  | (go_at_call 13; refine (Wait_any _ _).mono ?_; rintro e w' ⟨rfl, hb⟩)
                  | (go_at_call 15; refine (Early_any _ _).mono ?_; rintro e w' ⟨rfl, hb⟩)
                  | (go_at_call 12; refine (rShown_any _ _ _).mono ?_; rintro e w' ⟨rfl, rfl⟩)
                  | (go_at_call 14; refine (rWait_any _ _).mono ?_; rintro e w' ⟨rfl, rfl⟩)
                  | (go_at_call 16; refine (rEarly_any _ _).mono ?_; rintro e w' ⟨rfl, rfl⟩))
              go_ret
              exact ⟨rfl, by repeat (first | exact Below.refl _ _ | assumption | refine bt (by assumption) ?_)⟩
        · have hr' : 0 < p * (1000000 + d) % 1000000 := by omega
          by_cases hs : s + 1 ≤ 1000000
          · obtain ⟨f1, f2, f3⟩ := tk_in (t := s + 1) (by omega) hs
            clear f1
            obtain ⟨g1, g2, g3⟩ := early_bd (s + 1) (by omega) hs
            have g4 : earlyI (s + 1) ≤ p := (early_iff (s + 1) p (by omega) p0).1 (by omega)
            clear m1 m2 m3 hr s1
            generalize earlyI (s + 1) = x at *
            by_cases hm : m = 0
            · have c1 : (m == 0) = true := by simp [hm]
              clear u2
              go_enter Try.func6, Try.ntmps6
              go_wp2_with (first
                  | (go_at_call 10; refine (head_any _).mono ?_; rintro e w' ⟨rfl, hb⟩)
                  | (go_at_call 17; refine (ticks_any _ _).mono ?_; rintro e w' ⟨rfl, rfl⟩)
                  | (go_at_call 18; refine (drift_any _ _).mono ?_; rintro e w' ⟨rfl, rfl⟩)
                  | (go_at_call 11; refine (Shown_any _ _ _).mono ?_; rintro e w' ⟨rfl, rfl⟩)
                  | (go_at_call 13; refine (Wait_any _ _).mono ?_; rintro e w' ⟨rfl, hb⟩)
                  | (go_at_call 15; refine (Early_any _ _).mono ?_; rintro e w' ⟨rfl, hb⟩)
                  | (go_at_call 12; refine (rShown_any _ _ _).mono ?_; rintro e w' ⟨rfl, rfl⟩)
                  | (go_at_call 14; refine (rWait_any _ _).mono ?_; rintro e w' ⟨rfl, rfl⟩)
                  | (go_at_call 16; refine (rEarly_any _ _).mono ?_; rintro e w' ⟨rfl, rfl⟩))
              go_ret
              exact ⟨rfl, by repeat (first | exact Below.refl _ _ | assumption | refine bt (by assumption) ?_)⟩
            · have c1 : (m == 0) = false := by simp [hm]
              have u3 := u2 (by omega)
              have m0 : 1 ≤ m := by omega
              clear u2 hm
              go_enter Try.func6, Try.ntmps6
              go_wp2_with (first
                  | (go_at_call 10; refine (head_any _).mono ?_; rintro e w' ⟨rfl, hb⟩)
                  | (go_at_call 17; refine (ticks_any _ _).mono ?_; rintro e w' ⟨rfl, rfl⟩)
                  | (go_at_call 18; refine (drift_any _ _).mono ?_; rintro e w' ⟨rfl, rfl⟩)
                  | (go_at_call 11; refine (Shown_any _ _ _).mono ?_; rintro e w' ⟨rfl, rfl⟩)
                  | (go_at_call 13; refine (Wait_any _ _).mono ?_; rintro e w' ⟨rfl, hb⟩)
                  | (go_at_call 15; refine (Early_any _ _).mono ?_; rintro e w' ⟨rfl, hb⟩)
                  | (go_at_call 12; refine (rShown_any _ _ _).mono ?_; rintro e w' ⟨rfl, rfl⟩)
                  | (go_at_call 14; refine (rWait_any _ _).mono ?_; rintro e w' ⟨rfl, rfl⟩)
                  | (go_at_call 16; refine (rEarly_any _ _).mono ?_; rintro e w' ⟨rfl, rfl⟩))
              go_ret
              exact ⟨rfl, by repeat (first | exact Below.refl _ _ | assumption | refine bt (by assumption) ?_)⟩
          · have hs' : 1000000 < s + 1 := by omega
            obtain ⟨f1, f2, f3⟩ := tk_in (t := 1000000) (by omega) (by omega)
            clear f1
            obtain ⟨g1, g2, g3⟩ := early_bd 1000000 (by omega) (by omega)
            have g4 : earlyI 1000000 ≤ p := (early_iff 1000000 p (by omega) p0).1 (by omega)
            clear m1 m2 m3 hr s1
            generalize earlyI 1000000 = x at *
            by_cases hm : m = 0
            · have c1 : (m == 0) = true := by simp [hm]
              clear u2
              go_enter Try.func6, Try.ntmps6
              go_wp2_with (first
                  | (go_at_call 10; refine (head_any _).mono ?_; rintro e w' ⟨rfl, hb⟩)
                  | (go_at_call 17; refine (ticks_any _ _).mono ?_; rintro e w' ⟨rfl, rfl⟩)
                  | (go_at_call 18; refine (drift_any _ _).mono ?_; rintro e w' ⟨rfl, rfl⟩)
                  | (go_at_call 11; refine (Shown_any _ _ _).mono ?_; rintro e w' ⟨rfl, rfl⟩)
                  | (go_at_call 13; refine (Wait_any _ _).mono ?_; rintro e w' ⟨rfl, hb⟩)
                  | (go_at_call 15; refine (Early_any _ _).mono ?_; rintro e w' ⟨rfl, hb⟩)
                  | (go_at_call 12; refine (rShown_any _ _ _).mono ?_; rintro e w' ⟨rfl, rfl⟩)
                  | (go_at_call 14; refine (rWait_any _ _).mono ?_; rintro e w' ⟨rfl, rfl⟩)
                  | (go_at_call 16; refine (rEarly_any _ _).mono ?_; rintro e w' ⟨rfl, rfl⟩))
              go_ret
              exact ⟨rfl, by repeat (first | exact Below.refl _ _ | assumption | refine bt (by assumption) ?_)⟩
            · have c1 : (m == 0) = false := by simp [hm]
              have u3 := u2 (by omega)
              have m0 : 1 ≤ m := by omega
              clear u2 hm
              go_enter Try.func6, Try.ntmps6
              go_wp2_with (first
                  | (go_at_call 10; refine (head_any _).mono ?_; rintro e w' ⟨rfl, hb⟩)
                  | (go_at_call 17; refine (ticks_any _ _).mono ?_; rintro e w' ⟨rfl, rfl⟩)
                  | (go_at_call 18; refine (drift_any _ _).mono ?_; rintro e w' ⟨rfl, rfl⟩)
                  | (go_at_call 11; refine (Shown_any _ _ _).mono ?_; rintro e w' ⟨rfl, rfl⟩)
                  | (go_at_call 13; refine (Wait_any _ _).mono ?_; rintro e w' ⟨rfl, hb⟩)
                  | (go_at_call 15; refine (Early_any _ _).mono ?_; rintro e w' ⟨rfl, hb⟩)
                  | (go_at_call 12; refine (rShown_any _ _ _).mono ?_; rintro e w' ⟨rfl, rfl⟩)
                  | (go_at_call 14; refine (rWait_any _ _).mono ?_; rintro e w' ⟨rfl, rfl⟩)
                  | (go_at_call 16; refine (rEarly_any _ _).mono ?_; rintro e w' ⟨rfl, rfl⟩))
              go_ret
              exact ⟨rfl, by repeat (first | exact Below.refl _ _ | assumption | refine bt (by assumption) ?_)⟩
      · have kn' : tkB n = false := by simpa using kn
        clear kn
        go_enter Try.func6, Try.ntmps6
        go_wp2_with (first
            | (go_at_call 10; refine (head_any _).mono ?_; rintro e w' ⟨rfl, hb⟩)
            | (go_at_call 17; refine (ticks_any _ _).mono ?_; rintro e w' ⟨rfl, rfl⟩)
            | (go_at_call 18; refine (drift_any _ _).mono ?_; rintro e w' ⟨rfl, rfl⟩)
            | (go_at_call 11; refine (Shown_any _ _ _).mono ?_; rintro e w' ⟨rfl, rfl⟩)
            | (go_at_call 13; refine (Wait_any _ _).mono ?_; rintro e w' ⟨rfl, hb⟩)
            | (go_at_call 15; refine (Early_any _ _).mono ?_; rintro e w' ⟨rfl, hb⟩)
            | (go_at_call 12; refine (rShown_any _ _ _).mono ?_; rintro e w' ⟨rfl, rfl⟩)
            | (go_at_call 14; refine (rWait_any _ _).mono ?_; rintro e w' ⟨rfl, rfl⟩)
            | (go_at_call 16; refine (rEarly_any _ _).mono ?_; rintro e w' ⟨rfl, rfl⟩))
        go_ret
        exact ⟨rfl, by repeat (first | exact Below.refl _ _ | assumption | refine bt (by assumption) ?_)⟩
    · have kd' : drB d = false := by simpa using kd
      clear kd
      go_enter Try.func6, Try.ntmps6
      go_wp2_with (first
          | (go_at_call 10; refine (head_any _).mono ?_; rintro e w' ⟨rfl, hb⟩)
          | (go_at_call 17; refine (ticks_any _ _).mono ?_; rintro e w' ⟨rfl, rfl⟩)
          | (go_at_call 18; refine (drift_any _ _).mono ?_; rintro e w' ⟨rfl, rfl⟩)
          | (go_at_call 11; refine (Shown_any _ _ _).mono ?_; rintro e w' ⟨rfl, rfl⟩)
          | (go_at_call 13; refine (Wait_any _ _).mono ?_; rintro e w' ⟨rfl, hb⟩)
          | (go_at_call 15; refine (Early_any _ _).mono ?_; rintro e w' ⟨rfl, hb⟩)
          | (go_at_call 12; refine (rShown_any _ _ _).mono ?_; rintro e w' ⟨rfl, rfl⟩)
          | (go_at_call 14; refine (rWait_any _ _).mono ?_; rintro e w' ⟨rfl, rfl⟩)
          | (go_at_call 16; refine (rEarly_any _ _).mono ?_; rintro e w' ⟨rfl, rfl⟩))
      go_ret
      exact ⟨rfl, by repeat (first | exact Below.refl _ _ | assumption | refine bt (by assumption) ?_)⟩
  · have kp' : tkB p = false := by simpa using kp
    clear kp
    go_enter Try.func6, Try.ntmps6
    go_wp2_with (first
        | (go_at_call 10; refine (head_any _).mono ?_; rintro e w' ⟨rfl, hb⟩)
        | (go_at_call 17; refine (ticks_any _ _).mono ?_; rintro e w' ⟨rfl, rfl⟩)
        | (go_at_call 18; refine (drift_any _ _).mono ?_; rintro e w' ⟨rfl, rfl⟩)
        | (go_at_call 11; refine (Shown_any _ _ _).mono ?_; rintro e w' ⟨rfl, rfl⟩)
        | (go_at_call 13; refine (Wait_any _ _).mono ?_; rintro e w' ⟨rfl, hb⟩)
        | (go_at_call 15; refine (Early_any _ _).mono ?_; rintro e w' ⟨rfl, hb⟩)
        | (go_at_call 12; refine (rShown_any _ _ _).mono ?_; rintro e w' ⟨rfl, rfl⟩)
        | (go_at_call 14; refine (rWait_any _ _).mono ?_; rintro e w' ⟨rfl, rfl⟩)
        | (go_at_call 16; refine (rEarly_any _ _).mono ?_; rintro e w' ⟨rfl, rfl⟩))
    go_ret
    exact ⟨rfl, by repeat (first | exact Below.refl _ _ | assumption | refine bt (by assumption) ?_)⟩

set_option maxHeartbeats 2000000 in
theorem ClockOrder_walk (n m d f : Int) (w : World) (hn0 : -9223372036854775808 ≤ n) (hn1 : n ≤ 9223372036854775807) (hm0 : -9223372036854775808 ≤ m) (hm1 : m ≤ 9223372036854775807) (hd0 : -9223372036854775808 ≤ d) (hd1 : d ≤ 9223372036854775807) (hf0 : -9223372036854775808 ≤ f) (hf1 : f ≤ 9223372036854775807) :
    Calls Try.prog 7 #[.int .i64 n, .int .i64 m, .int .i64 d, .int .i64 f] w fun e w' => e = .returned (.bool true) ∧ Below w.heap.size w w' := by
  by_cases kn : tkB n = true
  · have kn' := (tkB_iff n).1 kn
    obtain ⟨n0, n1⟩ := kn'
    by_cases km : tkB m = true
    · have km' := (tkB_iff m).1 km
      obtain ⟨m0, m1⟩ := km'
      by_cases ks : tkB (n + m) = true
      · have ks' := (tkB_iff (n + m)).1 ks
        obtain ⟨s0, s1⟩ := ks'
        by_cases kd : drB d = true
        · have kd' := (drB_iff d).1 kd
          obtain ⟨d0, d1⟩ := kd'
          by_cases kf : drB f = true
          · have kf' := (drB_iff f).1 kf
            obtain ⟨f0, f1⟩ := kf'
            by_cases hf : f < d
            · clear hm0 hm1 hn0 hn1 hf0 hf1 hd0 hd1
              go_enter Try.func7, Try.ntmps7
              go_wp2_with (first
                  | (go_at_call 10; refine (head_any _).mono ?_; rintro e w' ⟨rfl, hb⟩)
                  | (go_at_call 17; refine (ticks_any _ _).mono ?_; rintro e w' ⟨rfl, rfl⟩)
                  | (go_at_call 18; refine (drift_any _ _).mono ?_; rintro e w' ⟨rfl, rfl⟩)
                  | (go_at_call 11; refine (Shown_any _ _ _).mono ?_; rintro e w' ⟨rfl, rfl⟩)
                  | (go_at_call 13; refine (Wait_any _ _).mono ?_; rintro e w' ⟨rfl, hb⟩)
                  | (go_at_call 15; refine (Early_any _ _).mono ?_; rintro e w' ⟨rfl, hb⟩)
                  | (go_at_call 12; refine (rShown_any _ _ _).mono ?_; rintro e w' ⟨rfl, rfl⟩)
                  | (go_at_call 14; refine (rWait_any _ _).mono ?_; rintro e w' ⟨rfl, rfl⟩)
                  | (go_at_call 16; refine (rEarly_any _ _).mono ?_; rintro e w' ⟨rfl, rfl⟩))
              go_ret
              exact ⟨rfl, by repeat (first | exact Below.refl _ _ | assumption | refine bt (by assumption) ?_)⟩
            · obtain ⟨e1, e2⟩ := sh_in n0 n1 d0 d1
              obtain ⟨e3, e4⟩ := sh_in s0 s1 f0 f1
              obtain ⟨a1, a2, a3⟩ := tk_in n0 n1
              obtain ⟨a4, a5, a6⟩ := tk_in s0 s1
              have b1 : shownI n d ≤ shownI (n + m) f := by
                have x1 : n * (1000000 + d) ≤ (n + m) * (1000000 + f) := Int.mul_le_mul (by omega) (by omega) (by omega) (by omega)
                unfold shownI; omega
              have b2 : waitI n ≤ waitI (n + m) := by unfold waitI; omega
              have b3 : earlyI n ≤ earlyI (n + m) := by unfold earlyI; split <;> split <;> omega
              obtain ⟨_, _, b4⟩ := wait_bd n n0 n1
              obtain ⟨_, _, b5⟩ := early_bd n n0 n1
              clear hm0 hm1 hn0 hn1 hf0 hf1 hd0 hd1
              generalize shownI n d = x1 at *
              generalize shownI (n + m) f = x2 at *
              generalize waitI n = x3 at *
              generalize waitI (n + m) = x4 at *
              generalize earlyI n = x5 at *
              generalize earlyI (n + m) = x6 at *
              go_enter Try.func7, Try.ntmps7
              go_wp2_with (first
                  | (go_at_call 10; refine (head_any _).mono ?_; rintro e w' ⟨rfl, hb⟩)
                  | (go_at_call 17; refine (ticks_any _ _).mono ?_; rintro e w' ⟨rfl, rfl⟩)
                  | (go_at_call 18; refine (drift_any _ _).mono ?_; rintro e w' ⟨rfl, rfl⟩)
                  | (go_at_call 11; refine (Shown_any _ _ _).mono ?_; rintro e w' ⟨rfl, rfl⟩)
                  | (go_at_call 13; refine (Wait_any _ _).mono ?_; rintro e w' ⟨rfl, hb⟩)
                  | (go_at_call 15; refine (Early_any _ _).mono ?_; rintro e w' ⟨rfl, hb⟩)
                  | (go_at_call 12; refine (rShown_any _ _ _).mono ?_; rintro e w' ⟨rfl, rfl⟩)
                  | (go_at_call 14; refine (rWait_any _ _).mono ?_; rintro e w' ⟨rfl, rfl⟩)
                  | (go_at_call 16; refine (rEarly_any _ _).mono ?_; rintro e w' ⟨rfl, rfl⟩))
              go_ret
              exact ⟨rfl, by repeat (first | exact Below.refl _ _ | assumption | refine bt (by assumption) ?_)⟩
          · have kf' : drB f = false := by simpa using kf
            clear kf
            go_enter Try.func7, Try.ntmps7
            go_wp2_with (first
                | (go_at_call 10; refine (head_any _).mono ?_; rintro e w' ⟨rfl, hb⟩)
                | (go_at_call 17; refine (ticks_any _ _).mono ?_; rintro e w' ⟨rfl, rfl⟩)
                | (go_at_call 18; refine (drift_any _ _).mono ?_; rintro e w' ⟨rfl, rfl⟩)
                | (go_at_call 11; refine (Shown_any _ _ _).mono ?_; rintro e w' ⟨rfl, rfl⟩)
                | (go_at_call 13; refine (Wait_any _ _).mono ?_; rintro e w' ⟨rfl, hb⟩)
                | (go_at_call 15; refine (Early_any _ _).mono ?_; rintro e w' ⟨rfl, hb⟩)
                | (go_at_call 12; refine (rShown_any _ _ _).mono ?_; rintro e w' ⟨rfl, rfl⟩)
                | (go_at_call 14; refine (rWait_any _ _).mono ?_; rintro e w' ⟨rfl, rfl⟩)
                | (go_at_call 16; refine (rEarly_any _ _).mono ?_; rintro e w' ⟨rfl, rfl⟩))
            go_ret
            exact ⟨rfl, by repeat (first | exact Below.refl _ _ | assumption | refine bt (by assumption) ?_)⟩
        · have kd' : drB d = false := by simpa using kd
          clear kd
          go_enter Try.func7, Try.ntmps7
          go_wp2_with (first
              | (go_at_call 10; refine (head_any _).mono ?_; rintro e w' ⟨rfl, hb⟩)
              | (go_at_call 17; refine (ticks_any _ _).mono ?_; rintro e w' ⟨rfl, rfl⟩)
              | (go_at_call 18; refine (drift_any _ _).mono ?_; rintro e w' ⟨rfl, rfl⟩)
              | (go_at_call 11; refine (Shown_any _ _ _).mono ?_; rintro e w' ⟨rfl, rfl⟩)
              | (go_at_call 13; refine (Wait_any _ _).mono ?_; rintro e w' ⟨rfl, hb⟩)
              | (go_at_call 15; refine (Early_any _ _).mono ?_; rintro e w' ⟨rfl, hb⟩)
              | (go_at_call 12; refine (rShown_any _ _ _).mono ?_; rintro e w' ⟨rfl, rfl⟩)
              | (go_at_call 14; refine (rWait_any _ _).mono ?_; rintro e w' ⟨rfl, rfl⟩)
              | (go_at_call 16; refine (rEarly_any _ _).mono ?_; rintro e w' ⟨rfl, rfl⟩))
          go_ret
          exact ⟨rfl, by repeat (first | exact Below.refl _ _ | assumption | refine bt (by assumption) ?_)⟩
      · have ks' : tkB (n + m) = false := by simpa using ks
        clear ks
        go_enter Try.func7, Try.ntmps7
        go_wp2_with (first
            | (go_at_call 10; refine (head_any _).mono ?_; rintro e w' ⟨rfl, hb⟩)
            | (go_at_call 17; refine (ticks_any _ _).mono ?_; rintro e w' ⟨rfl, rfl⟩)
            | (go_at_call 18; refine (drift_any _ _).mono ?_; rintro e w' ⟨rfl, rfl⟩)
            | (go_at_call 11; refine (Shown_any _ _ _).mono ?_; rintro e w' ⟨rfl, rfl⟩)
            | (go_at_call 13; refine (Wait_any _ _).mono ?_; rintro e w' ⟨rfl, hb⟩)
            | (go_at_call 15; refine (Early_any _ _).mono ?_; rintro e w' ⟨rfl, hb⟩)
            | (go_at_call 12; refine (rShown_any _ _ _).mono ?_; rintro e w' ⟨rfl, rfl⟩)
            | (go_at_call 14; refine (rWait_any _ _).mono ?_; rintro e w' ⟨rfl, rfl⟩)
            | (go_at_call 16; refine (rEarly_any _ _).mono ?_; rintro e w' ⟨rfl, rfl⟩))
        go_ret
        exact ⟨rfl, by repeat (first | exact Below.refl _ _ | assumption | refine bt (by assumption) ?_)⟩
    · have km' : tkB m = false := by simpa using km
      clear km
      go_enter Try.func7, Try.ntmps7
      go_wp2_with (first
          | (go_at_call 10; refine (head_any _).mono ?_; rintro e w' ⟨rfl, hb⟩)
          | (go_at_call 17; refine (ticks_any _ _).mono ?_; rintro e w' ⟨rfl, rfl⟩)
          | (go_at_call 18; refine (drift_any _ _).mono ?_; rintro e w' ⟨rfl, rfl⟩)
          | (go_at_call 11; refine (Shown_any _ _ _).mono ?_; rintro e w' ⟨rfl, rfl⟩)
          | (go_at_call 13; refine (Wait_any _ _).mono ?_; rintro e w' ⟨rfl, hb⟩)
          | (go_at_call 15; refine (Early_any _ _).mono ?_; rintro e w' ⟨rfl, hb⟩)
          | (go_at_call 12; refine (rShown_any _ _ _).mono ?_; rintro e w' ⟨rfl, rfl⟩)
          | (go_at_call 14; refine (rWait_any _ _).mono ?_; rintro e w' ⟨rfl, rfl⟩)
          | (go_at_call 16; refine (rEarly_any _ _).mono ?_; rintro e w' ⟨rfl, rfl⟩))
      go_ret
      exact ⟨rfl, by repeat (first | exact Below.refl _ _ | assumption | refine bt (by assumption) ?_)⟩
  · have kn' : tkB n = false := by simpa using kn
    clear kn
    go_enter Try.func7, Try.ntmps7
    go_wp2_with (first
        | (go_at_call 10; refine (head_any _).mono ?_; rintro e w' ⟨rfl, hb⟩)
        | (go_at_call 17; refine (ticks_any _ _).mono ?_; rintro e w' ⟨rfl, rfl⟩)
        | (go_at_call 18; refine (drift_any _ _).mono ?_; rintro e w' ⟨rfl, rfl⟩)
        | (go_at_call 11; refine (Shown_any _ _ _).mono ?_; rintro e w' ⟨rfl, rfl⟩)
        | (go_at_call 13; refine (Wait_any _ _).mono ?_; rintro e w' ⟨rfl, hb⟩)
        | (go_at_call 15; refine (Early_any _ _).mono ?_; rintro e w' ⟨rfl, hb⟩)
        | (go_at_call 12; refine (rShown_any _ _ _).mono ?_; rintro e w' ⟨rfl, rfl⟩)
        | (go_at_call 14; refine (rWait_any _ _).mono ?_; rintro e w' ⟨rfl, rfl⟩)
        | (go_at_call 16; refine (rEarly_any _ _).mono ?_; rintro e w' ⟨rfl, rfl⟩))
    go_ret
    exact ⟨rfl, by repeat (first | exact Below.refl _ _ | assumption | refine bt (by assumption) ?_)⟩

set_option maxHeartbeats 2000000 in
theorem ClockParts_walk (n m d : Int) (w : World) (hn0 : -9223372036854775808 ≤ n) (hn1 : n ≤ 9223372036854775807) (hm0 : -9223372036854775808 ≤ m) (hm1 : m ≤ 9223372036854775807) (hd0 : -9223372036854775808 ≤ d) (hd1 : d ≤ 9223372036854775807) :
    Calls Try.prog 8 #[.int .i64 n, .int .i64 m, .int .i64 d] w fun e w' => e = .returned (.bool true) ∧ Below w.heap.size w w' := by
  by_cases kn : tkB n = true
  · have kn' := (tkB_iff n).1 kn
    obtain ⟨n0, n1⟩ := kn'
    by_cases km : tkB m = true
    · have km' := (tkB_iff m).1 km
      obtain ⟨m0, m1⟩ := km'
      by_cases ks : tkB (n + m) = true
      · have ks' := (tkB_iff (n + m)).1 ks
        obtain ⟨s0, s1⟩ := ks'
        by_cases kd : drB d = true
        · have kd' := (drB_iff d).1 kd
          obtain ⟨d0, d1⟩ := kd'
          obtain ⟨e1, e2⟩ := sh_in n0 n1 d0 d1
          obtain ⟨e3, e4⟩ := sh_in m0 m1 d0 d1
          obtain ⟨e5, e6⟩ := sh_in s0 s1 d0 d1
          obtain ⟨a1, _, a3⟩ := tk_in n0 n1
          obtain ⟨a4, _, a6⟩ := tk_in m0 m1
          obtain ⟨a7, _, a9⟩ := tk_in s0 s1
          have b1 : shownI n d + shownI m d ≤ shownI (n + m) d ∧ shownI (n + m) d ≤ shownI n d + shownI m d + 1 := by
            have x1 : (n + m) * (1000000 + d) = n * (1000000 + d) + m * (1000000 + d) := Int.add_mul _ _ _
            unfold shownI; rw [x1]; omega
          have b2 : waitI (n + m) ≤ waitI n + waitI m ∧ waitI n + waitI m ≤ waitI (n + m) + 1 := by unfold waitI; omega
          obtain ⟨c1, c2⟩ := b1
          obtain ⟨c3, c4⟩ := b2
          obtain ⟨g1, g2⟩ := shown_bd n d n0 n1 d0 d1
          obtain ⟨g3, g4⟩ := shown_bd m d m0 m1 d0 d1
          obtain ⟨g5, g6⟩ := shown_bd (n + m) d s0 s1 d0 d1
          obtain ⟨w1, w2, _⟩ := wait_bd n n0 n1
          obtain ⟨w3, w4, _⟩ := wait_bd m m0 m1
          obtain ⟨w5, w6, _⟩ := wait_bd (n + m) s0 s1
          clear hm0 hm1 hn0 hn1 hd0 hd1
          generalize shownI n d = x1 at *
          generalize shownI m d = x2 at *
          generalize shownI (n + m) d = x3 at *
          generalize waitI n = x4 at *
          generalize waitI m = x5 at *
          generalize waitI (n + m) = x6 at *
          have c5 : x4 + x5 - x6 ≤ 1 := by omega
          have c6 : 0 ≤ x4 + x5 - x6 := by omega
          have c7 : x3 - x1 - x2 ≤ 1 := by omega
          have c8 : 0 ≤ x3 - x1 - x2 := by omega
          go_enter Try.func8, Try.ntmps8
          go_wp2_with (first
              | (go_at_call 10; refine (head_any _).mono ?_; rintro e w' ⟨rfl, hb⟩)
              | (go_at_call 17; refine (ticks_any _ _).mono ?_; rintro e w' ⟨rfl, rfl⟩)
              | (go_at_call 18; refine (drift_any _ _).mono ?_; rintro e w' ⟨rfl, rfl⟩)
              | (go_at_call 11; refine (Shown_any _ _ _).mono ?_; rintro e w' ⟨rfl, rfl⟩)
              | (go_at_call 13; refine (Wait_any _ _).mono ?_; rintro e w' ⟨rfl, hb⟩)
              | (go_at_call 15; refine (Early_any _ _).mono ?_; rintro e w' ⟨rfl, hb⟩)
              | (go_at_call 12; refine (rShown_any _ _ _).mono ?_; rintro e w' ⟨rfl, rfl⟩)
              | (go_at_call 14; refine (rWait_any _ _).mono ?_; rintro e w' ⟨rfl, rfl⟩)
              | (go_at_call 16; refine (rEarly_any _ _).mono ?_; rintro e w' ⟨rfl, rfl⟩))
          go_ret
          exact ⟨rfl, by repeat (first | exact Below.refl _ _ | assumption | refine bt (by assumption) ?_)⟩
        · have kd' : drB d = false := by simpa using kd
          clear kd
          go_enter Try.func8, Try.ntmps8
          go_wp2_with (first
              | (go_at_call 10; refine (head_any _).mono ?_; rintro e w' ⟨rfl, hb⟩)
              | (go_at_call 17; refine (ticks_any _ _).mono ?_; rintro e w' ⟨rfl, rfl⟩)
              | (go_at_call 18; refine (drift_any _ _).mono ?_; rintro e w' ⟨rfl, rfl⟩)
              | (go_at_call 11; refine (Shown_any _ _ _).mono ?_; rintro e w' ⟨rfl, rfl⟩)
              | (go_at_call 13; refine (Wait_any _ _).mono ?_; rintro e w' ⟨rfl, hb⟩)
              | (go_at_call 15; refine (Early_any _ _).mono ?_; rintro e w' ⟨rfl, hb⟩)
              | (go_at_call 12; refine (rShown_any _ _ _).mono ?_; rintro e w' ⟨rfl, rfl⟩)
              | (go_at_call 14; refine (rWait_any _ _).mono ?_; rintro e w' ⟨rfl, rfl⟩)
              | (go_at_call 16; refine (rEarly_any _ _).mono ?_; rintro e w' ⟨rfl, rfl⟩))
          go_ret
          exact ⟨rfl, by repeat (first | exact Below.refl _ _ | assumption | refine bt (by assumption) ?_)⟩
      · have ks' : tkB (n + m) = false := by simpa using ks
        clear ks
        go_enter Try.func8, Try.ntmps8
        go_wp2_with (first
            | (go_at_call 10; refine (head_any _).mono ?_; rintro e w' ⟨rfl, hb⟩)
            | (go_at_call 17; refine (ticks_any _ _).mono ?_; rintro e w' ⟨rfl, rfl⟩)
            | (go_at_call 18; refine (drift_any _ _).mono ?_; rintro e w' ⟨rfl, rfl⟩)
            | (go_at_call 11; refine (Shown_any _ _ _).mono ?_; rintro e w' ⟨rfl, rfl⟩)
            | (go_at_call 13; refine (Wait_any _ _).mono ?_; rintro e w' ⟨rfl, hb⟩)
            | (go_at_call 15; refine (Early_any _ _).mono ?_; rintro e w' ⟨rfl, hb⟩)
            | (go_at_call 12; refine (rShown_any _ _ _).mono ?_; rintro e w' ⟨rfl, rfl⟩)
            | (go_at_call 14; refine (rWait_any _ _).mono ?_; rintro e w' ⟨rfl, rfl⟩)
            | (go_at_call 16; refine (rEarly_any _ _).mono ?_; rintro e w' ⟨rfl, rfl⟩))
        go_ret
        exact ⟨rfl, by repeat (first | exact Below.refl _ _ | assumption | refine bt (by assumption) ?_)⟩
    · have km' : tkB m = false := by simpa using km
      clear km
      go_enter Try.func8, Try.ntmps8
      go_wp2_with (first
          | (go_at_call 10; refine (head_any _).mono ?_; rintro e w' ⟨rfl, hb⟩)
          | (go_at_call 17; refine (ticks_any _ _).mono ?_; rintro e w' ⟨rfl, rfl⟩)
          | (go_at_call 18; refine (drift_any _ _).mono ?_; rintro e w' ⟨rfl, rfl⟩)
          | (go_at_call 11; refine (Shown_any _ _ _).mono ?_; rintro e w' ⟨rfl, rfl⟩)
          | (go_at_call 13; refine (Wait_any _ _).mono ?_; rintro e w' ⟨rfl, hb⟩)
          | (go_at_call 15; refine (Early_any _ _).mono ?_; rintro e w' ⟨rfl, hb⟩)
          | (go_at_call 12; refine (rShown_any _ _ _).mono ?_; rintro e w' ⟨rfl, rfl⟩)
          | (go_at_call 14; refine (rWait_any _ _).mono ?_; rintro e w' ⟨rfl, rfl⟩)
          | (go_at_call 16; refine (rEarly_any _ _).mono ?_; rintro e w' ⟨rfl, rfl⟩))
      go_ret
      exact ⟨rfl, by repeat (first | exact Below.refl _ _ | assumption | refine bt (by assumption) ?_)⟩
  · have kn' : tkB n = false := by simpa using kn
    clear kn
    go_enter Try.func8, Try.ntmps8
    go_wp2_with (first
        | (go_at_call 10; refine (head_any _).mono ?_; rintro e w' ⟨rfl, hb⟩)
        | (go_at_call 17; refine (ticks_any _ _).mono ?_; rintro e w' ⟨rfl, rfl⟩)
        | (go_at_call 18; refine (drift_any _ _).mono ?_; rintro e w' ⟨rfl, rfl⟩)
        | (go_at_call 11; refine (Shown_any _ _ _).mono ?_; rintro e w' ⟨rfl, rfl⟩)
        | (go_at_call 13; refine (Wait_any _ _).mono ?_; rintro e w' ⟨rfl, hb⟩)
        | (go_at_call 15; refine (Early_any _ _).mono ?_; rintro e w' ⟨rfl, hb⟩)
        | (go_at_call 12; refine (rShown_any _ _ _).mono ?_; rintro e w' ⟨rfl, rfl⟩)
        | (go_at_call 14; refine (rWait_any _ _).mono ?_; rintro e w' ⟨rfl, rfl⟩)
        | (go_at_call 16; refine (rEarly_any _ _).mono ?_; rintro e w' ⟨rfl, rfl⟩))
    go_ret
    exact ⟨rfl, by repeat (first | exact Below.refl _ _ | assumption | refine bt (by assumption) ?_)⟩

set_option maxHeartbeats 2000000 in
theorem ClockAgain_walk (n : Int) (w : World) (hn0 : -9223372036854775808 ≤ n) (hn1 : n ≤ 9223372036854775807) :
    Calls Try.prog 9 #[.int .i64 n] w fun e w' => e = .returned (.bool true) ∧ Below w.heap.size w w' := by
  by_cases kn : tkB n = true
  · have kn' := (tkB_iff n).1 kn
    obtain ⟨n0, n1⟩ := kn'
    obtain ⟨e1, e2⟩ := sh_in (t := n) (d := -200) n0 n1 (by omega) (by omega)
    have sb := shown_bd n (-200) n0 n1 (by omega) (by omega)
    have s1 : shownI n (-200) ≤ n := by unfold shownI; omega
    obtain ⟨a1, _, a3⟩ := tk_in (t := shownI n (-200)) (by omega) (by omega)
    obtain ⟨b1, _, b3⟩ := tk_in n0 n1
    have c1 : waitI (shownI n (-200)) ≤ n := by unfold shownI waitI; omega
    obtain ⟨w1, w2, w3⟩ := wait_bd n n0 n1
    by_cases hv : waitI n ≤ 1000000
    · obtain ⟨_, f2, f3⟩ := tk_in (t := waitI n) w1 hv
      have c2 : n ≤ earlyI (waitI n) := by unfold earlyI waitI; split <;> omega
      clear hn0 hn1
      generalize earlyI (waitI n) = y at *
      generalize waitI (shownI n (-200)) = z at *
      generalize waitI n = v at *
      generalize shownI n (-200) = s at *
      go_enter Try.func9, Try.ntmps9
      go_wp2_with (first
          | (go_at_call 10; refine (head_any _).mono ?_; rintro e w' ⟨rfl, hb⟩)
          | (go_at_call 17; refine (ticks_any _ _).mono ?_; rintro e w' ⟨rfl, rfl⟩)
          | (go_at_call 18; refine (drift_any _ _).mono ?_; rintro e w' ⟨rfl, rfl⟩)
          | (go_at_call 11; refine (Shown_any _ _ _).mono ?_; rintro e w' ⟨rfl, rfl⟩)
          | (go_at_call 13; refine (Wait_any _ _).mono ?_; rintro e w' ⟨rfl, hb⟩)
          | (go_at_call 15; refine (Early_any _ _).mono ?_; rintro e w' ⟨rfl, hb⟩)
          | (go_at_call 12; refine (rShown_any _ _ _).mono ?_; rintro e w' ⟨rfl, rfl⟩)
          | (go_at_call 14; refine (rWait_any _ _).mono ?_; rintro e w' ⟨rfl, rfl⟩)
          | (go_at_call 16; refine (rEarly_any _ _).mono ?_; rintro e w' ⟨rfl, rfl⟩))
      go_ret
      exact ⟨rfl, by repeat (first | exact Below.refl _ _ | assumption | refine bt (by assumption) ?_)⟩
    · obtain ⟨_, f2, f3⟩ := tk_in (t := 1000000) (by omega) (by omega)
      have hv' : 1000000 < waitI n := by omega
      clear hv hn0 hn1
      generalize earlyI 1000000 = y at *
      generalize waitI (shownI n (-200)) = z at *
      generalize waitI n = v at *
      generalize shownI n (-200) = s at *
      go_enter Try.func9, Try.ntmps9
      go_wp2_with (first
          | (go_at_call 10; refine (head_any _).mono ?_; rintro e w' ⟨rfl, hb⟩)
          | (go_at_call 17; refine (ticks_any _ _).mono ?_; rintro e w' ⟨rfl, rfl⟩)
          | (go_at_call 18; refine (drift_any _ _).mono ?_; rintro e w' ⟨rfl, rfl⟩)
          | (go_at_call 11; refine (Shown_any _ _ _).mono ?_; rintro e w' ⟨rfl, rfl⟩)
          | (go_at_call 13; refine (Wait_any _ _).mono ?_; rintro e w' ⟨rfl, hb⟩)
          | (go_at_call 15; refine (Early_any _ _).mono ?_; rintro e w' ⟨rfl, hb⟩)
          | (go_at_call 12; refine (rShown_any _ _ _).mono ?_; rintro e w' ⟨rfl, rfl⟩)
          | (go_at_call 14; refine (rWait_any _ _).mono ?_; rintro e w' ⟨rfl, rfl⟩)
          | (go_at_call 16; refine (rEarly_any _ _).mono ?_; rintro e w' ⟨rfl, rfl⟩))
      go_ret
      exact ⟨rfl, by repeat (first | exact Below.refl _ _ | assumption | refine bt (by assumption) ?_)⟩
  · have kn' : tkB n = false := by simpa using kn
    clear kn
    go_enter Try.func9, Try.ntmps9
    go_wp2_with (first
        | (go_at_call 10; refine (head_any _).mono ?_; rintro e w' ⟨rfl, hb⟩)
        | (go_at_call 17; refine (ticks_any _ _).mono ?_; rintro e w' ⟨rfl, rfl⟩)
        | (go_at_call 18; refine (drift_any _ _).mono ?_; rintro e w' ⟨rfl, rfl⟩)
        | (go_at_call 11; refine (Shown_any _ _ _).mono ?_; rintro e w' ⟨rfl, rfl⟩)
        | (go_at_call 13; refine (Wait_any _ _).mono ?_; rintro e w' ⟨rfl, hb⟩)
        | (go_at_call 15; refine (Early_any _ _).mono ?_; rintro e w' ⟨rfl, hb⟩)
        | (go_at_call 12; refine (rShown_any _ _ _).mono ?_; rintro e w' ⟨rfl, rfl⟩)
        | (go_at_call 14; refine (rWait_any _ _).mono ?_; rintro e w' ⟨rfl, rfl⟩)
        | (go_at_call 16; refine (rEarly_any _ _).mono ?_; rintro e w' ⟨rfl, rfl⟩))
    go_ret
    exact ⟨rfl, by repeat (first | exact Below.refl _ _ | assumption | refine bt (by assumption) ?_)⟩

end Go.Proofs.Ytfelfgglnhdkdaa
