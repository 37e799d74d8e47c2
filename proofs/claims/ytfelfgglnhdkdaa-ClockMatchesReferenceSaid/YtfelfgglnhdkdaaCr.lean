/- Contracts of the clock's reference and of the law's own helpers. -/
import Derived.Test.YtfelfgglnhdkdaaCl
set_option linter.unusedVariables false
namespace Go.Proofs.Ytfelfgglnhdkdaa
open Go.RowKit Ck

/-- two steps that keep what was there -/
theorem bt {a b c : World} (k : Below b.heap.size b c) (h : Below a.heap.size a b) : Below a.heap.size a c := h.trans (k.mono h.size)

theorem rTicks_any (n : Int) (w : World) : Calls Try.prog 22 #[.int .i64 n] w fun e w' => e = .returned (.bool (tkB n)) ∧ w = w' := by
  unfold tkB
  by_cases h : 0 ≤ n
  · by_cases h' : n ≤ 1000000 <;> (go_enter Try.func22, Try.ntmps22; go_wp2; go_ret; exact ⟨by simp [h, h'], rfl⟩)
  · go_enter Try.func22, Try.ntmps22
    go_wp2
    go_ret
    exact ⟨by simp; omega, rfl⟩
theorem ticks_any (n : Int) (w : World) : Calls Try.prog 17 #[.int .i64 n] w fun e w' => e = .returned (.bool (tkB n)) ∧ w = w' := by
  unfold tkB
  by_cases h : 0 ≤ n
  · by_cases h' : n ≤ 1000000 <;> (go_enter Try.func17, Try.ntmps17; go_wp2; go_ret; exact ⟨by simp [h, h'], rfl⟩)
  · go_enter Try.func17, Try.ntmps17
    go_wp2
    go_ret
    exact ⟨by simp; omega, rfl⟩
theorem drift_any (n : Int) (w : World) : Calls Try.prog 18 #[.int .i64 n] w fun e w' => e = .returned (.bool (drB n)) ∧ w = w' := by
  unfold drB
  by_cases h : -200 ≤ n
  · by_cases h' : n ≤ 200 <;> (go_enter Try.func18, Try.ntmps18; go_wp2; go_ret; exact ⟨by simp [h, h'], rfl⟩)
  · go_enter Try.func18, Try.ntmps18
    go_wp2
    go_ret
    exact ⟨by simp; omega, rfl⟩
theorem is_yes (n : Int) (w : World) : Calls Try.prog 19 #[.int .i64 n, .int .i64 0, .int .i64 n] w fun e w' => e = .returned (.bool true) ∧ w = w' := by
  go_enter Try.func19, Try.ntmps19
  go_wp2
  go_ret
  exact ⟨rfl, rfl⟩

theorem rShown_any (t d : Int) (w : World) : Calls Try.prog 12 #[.int .i64 t, .int .i64 d] w fun e w' => e = .returned (.tuple #[.int .i64 (shV t d), .int .i64 (shE t d)]) ∧ w = w' := by
  by_cases ht : 0 ≤ t ∧ t ≤ 1000000
  · have hk : tkB t = true := (tkB_iff t).2 ht
    obtain ⟨t0, t1⟩ := ht
    by_cases h1 : d < -200
    · rw [(sh_out (t := t) (d := d) (by omega)).1, (sh_out (t := t) (d := d) (by omega)).2]
      go_enter Try.func12, Try.ntmps12
      go_wp2_with (go_at_call 22; refine (rTicks_any _ _).mono ?_; rintro e w' ⟨rfl, rfl⟩)
      go_ret2
      exact ⟨rfl, rfl⟩
    by_cases h2 : 200 < d
    · rw [(sh_out (t := t) (d := d) (by omega)).1, (sh_out (t := t) (d := d) (by omega)).2]
      go_enter Try.func12, Try.ntmps12
      go_wp2_with (go_at_call 22; refine (rTicks_any _ _).mono ?_; rintro e w' ⟨rfl, rfl⟩)
      go_ret2
      exact ⟨rfl, rfl⟩
    · rw [(sh_in t0 t1 (d := d) (by omega) (by omega)).1, (sh_in t0 t1 (d := d) (by omega) (by omega)).2]
      obtain ⟨e, a, b⟩ := mul_bd t d t0 t1 (by omega) (by omega)
      have p0 : 0 ≤ t * (1000000 + d) := by omega
      have p1 : t * (1000000 + d) ≤ 9000000000000 := by omega
      clear e a b
      unfold shownI
      go_enter Try.func12, Try.ntmps12
      go_wp2_with (go_at_call 22; refine (rTicks_any _ _).mono ?_; rintro e w' ⟨rfl, rfl⟩)
      go_ret2
      exact ⟨rfl, rfl⟩
  · have ht' : t < 0 ∨ 1000000 < t := by omega
    have hk : tkB t = false := (tkB_no t).2 ht'
    rw [(sh_out (t := t) (d := d) (by omega)).1, (sh_out (t := t) (d := d) (by omega)).2]
    clear ht ht'
    go_enter Try.func12, Try.ntmps12
    go_wp2_with (go_at_call 22; refine (rTicks_any _ _).mono ?_; rintro e w' ⟨rfl, rfl⟩)
    go_ret2
    exact ⟨rfl, rfl⟩
theorem rWait_any (t : Int) (w : World) : Calls Try.prog 14 #[.int .i64 t] w fun e w' => e = .returned (.tuple #[.int .i64 (wtV t), .int .i64 (tkE t)]) ∧ w = w' := by
  by_cases ht : 0 ≤ t ∧ t ≤ 1000000
  · have hk : tkB t = true := (tkB_iff t).2 ht
    obtain ⟨t0, t1⟩ := ht
    rw [(tk_in t0 t1).1, (tk_in t0 t1).2.2]
    unfold waitI
    go_enter Try.func14, Try.ntmps14
    go_wp2_with (go_at_call 22; refine (rTicks_any _ _).mono ?_; rintro e w' ⟨rfl, rfl⟩)
    go_ret2
    exact ⟨rfl, rfl⟩
  · have ht' : t < 0 ∨ 1000000 < t := by omega
    have hk : tkB t = false := (tkB_no t).2 ht'
    rw [(tk_out ht').1, (tk_out ht').2.2]
    clear ht ht'
    go_enter Try.func14, Try.ntmps14
    go_wp2_with (go_at_call 22; refine (rTicks_any _ _).mono ?_; rintro e w' ⟨rfl, rfl⟩)
    go_ret2
    exact ⟨rfl, rfl⟩
theorem rEarly_any (t : Int) (w : World) : Calls Try.prog 16 #[.int .i64 t] w fun e w' => e = .returned (.tuple #[.int .i64 (erV t), .int .i64 (tkE t)]) ∧ w = w' := by
  by_cases ht : 0 ≤ t ∧ t ≤ 1000000
  · have hk : tkB t = true := (tkB_iff t).2 ht
    obtain ⟨t0, t1⟩ := ht
    rw [(tk_in t0 t1).2.1, (tk_in t0 t1).2.2]
    unfold earlyI
    by_cases hz : t = 0
    · subst hz
      go_enter Try.func16, Try.ntmps16
      go_wp2_with (go_at_call 22; refine (rTicks_any _ _).mono ?_; rintro e w' ⟨rfl, rfl⟩)
      go_ret2
      exact ⟨rfl, rfl⟩
    · rw [if_neg hz]
      have hz' : (t == 0) = false := by simp [hz]
      have hz2 : 1 ≤ t := by omega
      clear hz
      go_enter Try.func16, Try.ntmps16
      go_wp2_with (go_at_call 22; refine (rTicks_any _ _).mono ?_; rintro e w' ⟨rfl, rfl⟩)
      go_ret2
      exact ⟨rfl, rfl⟩
  · have ht' : t < 0 ∨ 1000000 < t := by omega
    have hk : tkB t = false := (tkB_no t).2 ht'
    rw [(tk_out ht').2.1, (tk_out ht').2.2]
    clear ht ht'
    go_enter Try.func16, Try.ntmps16
    go_wp2_with (go_at_call 22; refine (rTicks_any _ _).mono ?_; rintro e w' ⟨rfl, rfl⟩)
    go_ret2
    exact ⟨rfl, rfl⟩

/-- the fixed examples -/
theorem head_any (w : World) : Calls Try.prog 10 #[] w fun e w' => e = .returned (.bool true) ∧ Below w.heap.size w w' := by
  have s1 : shV 5000 200 = 5001 := by decide
  have s2 : shE 5000 200 = 0 := by decide
  have s3 : shV 5000 (-1) = 4999 := by decide
  have s4 : shE 5000 (-1) = 0 := by decide
  have s5 : wtV 1 = 2 := by decide
  have s6 : tkE 1 = 0 := by decide
  have s7 : wtV 5000 = 5002 := by decide
  have s8 : tkE 5000 = 0 := by decide
  have s9 : erV 5002 = 5001 := by decide
  have s10 : tkE 5002 = 0 := by decide
  have s11 : erV 5003 = 5001 := by decide
  have s12 : tkE 5003 = 0 := by decide
  have s13 : shE (-1) 0 = 1 := by decide
  go_enter Try.func10, Try.ntmps10
  go_wp2_with (first
    | (go_at_call 11; refine (Shown_any _ _ _).mono ?_; rintro e w' ⟨rfl, rfl⟩)
    | (go_at_call 13; refine (Wait_any _ _).mono ?_; rintro e w' ⟨rfl, hb⟩)
    | (go_at_call 15; refine (Early_any _ _).mono ?_; rintro e w' ⟨rfl, hb⟩)
    | (go_at_call 19; refine (is_yes _ _).mono ?_; rintro e w' ⟨rfl, rfl⟩))
  go_ret
  exact ⟨rfl, by repeat (first | exact Below.refl _ _ | assumption | refine bt (by assumption) ?_)⟩
end Go.Proofs.Ytfelfgglnhdkdaa
