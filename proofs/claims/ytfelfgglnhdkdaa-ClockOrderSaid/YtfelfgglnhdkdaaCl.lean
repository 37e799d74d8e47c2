/- Contracts of Shown, Wait and Early (the program's and the reference's), and of the law's own helpers. -/
import Derived.Test.YtfelfgglnhdkdaaCk
set_option linter.unusedVariables false
namespace Go.Proofs.Ytfelfgglnhdkdaa
open Go.RowKit Ck

theorem reach_down (t : Int) (h0 : 0 ≤ t) (h1 : t ≤ 1000000) (w : World) :
    Calls Try.prog 23 #[.int .i64 999800, .func (.func 21) #[] #[], .int .i64 t] w fun e w' => e = .returned (.int .i64 (waitI t)) ∧ Below w.heap.size w w' := by
  obtain ⟨b0, b1, b2⟩ := wait_bd t h0 h1
  go_enter Try.func23, Try.ntmps23
  go_wp2_with fail
  refine (least_any (waitI t) _ b0 (by omega) (by omega) _ _ _ _ (fun n k hn hn1 => ?_)).mono ?_
  · refine pred_down n t hn hn1 h0 _ _ _ _ ?_ ?_ ?_ <;> simp [go_sem]
  · rintro e w' ⟨rfl, k, rfl⟩
    go_wp2
    go_ret
    refine ⟨rfl, Below.drewN' ?_ k⟩
    exact (((Below.refl _ _).alloc (Nat.le_refl _) _).alloc (by simp) _).alloc (by simp; omega) _
theorem reach_up (t : Int) (h0 : 0 ≤ t) (h1 : t ≤ 1000000) (w : World) :
    Calls Try.prog 23 #[.int .i64 1000200, .func (.func 24) #[] #[], .int .i64 t] w fun e w' => e = .returned (.int .i64 (earlyI t)) ∧ Below w.heap.size w w' := by
  obtain ⟨b0, b1, b2⟩ := early_bd t h0 h1
  go_enter Try.func23, Try.ntmps23
  go_wp2_with fail
  refine (least_any (earlyI t) _ b0 (by omega) (by omega) _ _ _ _ (fun n k hn hn1 => ?_)).mono ?_
  · refine pred_up n t hn hn1 h0 _ _ _ _ ?_ ?_ ?_ <;> simp [go_sem]
  · rintro e w' ⟨rfl, k, rfl⟩
    go_wp2
    go_ret
    refine ⟨rfl, Below.drewN' ?_ k⟩
    exact (((Below.refl _ _).alloc (Nat.le_refl _) _).alloc (by simp) _).alloc (by simp; omega) _

/-! ### Wait, Early, Shown -/
theorem Wait_yes (t : Int) (h0 : 0 ≤ t) (h1 : t ≤ 1000000) (w : World) :
    Calls Try.prog 13 #[.int .i64 t] w fun e w' => e = .returned (.tuple #[.int .i64 (waitI t), .int .i64 0]) ∧ Below w.heap.size w w' := by
  go_enter Try.func13, Try.ntmps13
  go_wp2_with (first
    | (go_at_call 20; refine (isTicks_yes _ (by omega) (by omega) _).mono ?_; rintro e w' ⟨rfl, rfl⟩)
    | (go_at_call 23; refine (reach_down _ (by omega) (by omega) _).mono ?_; rintro e w' ⟨rfl, hb⟩))
  go_ret2
  exact ⟨rfl, hb⟩
theorem Wait_no (t : Int) (h : t < 0 ∨ 1000000 < t) (w : World) :
    Calls Try.prog 13 #[.int .i64 t] w fun e w' => e = .returned (.tuple #[.int .i64 0, .int .i64 1]) ∧ Below w.heap.size w w' := by
  have H := Lib.hid h
  clear h
  go_enter Try.func13, Try.ntmps13
  go_wp2_with (go_at_call 20; refine (isTicks_no _ H.out _).mono ?_; rintro e w' ⟨rfl, rfl⟩)
  go_ret2
  exact ⟨rfl, Below.refl _ _⟩
theorem Early_yes (t : Int) (h0 : 0 ≤ t) (h1 : t ≤ 1000000) (w : World) :
    Calls Try.prog 15 #[.int .i64 t] w fun e w' => e = .returned (.tuple #[.int .i64 (earlyI t), .int .i64 0]) ∧ Below w.heap.size w w' := by
  go_enter Try.func15, Try.ntmps15
  go_wp2_with (first
    | (go_at_call 20; refine (isTicks_yes _ (by omega) (by omega) _).mono ?_; rintro e w' ⟨rfl, rfl⟩)
    | (go_at_call 23; refine (reach_up _ (by omega) (by omega) _).mono ?_; rintro e w' ⟨rfl, hb⟩))
  go_ret2
  exact ⟨rfl, hb⟩
theorem Early_no (t : Int) (h : t < 0 ∨ 1000000 < t) (w : World) :
    Calls Try.prog 15 #[.int .i64 t] w fun e w' => e = .returned (.tuple #[.int .i64 0, .int .i64 1]) ∧ Below w.heap.size w w' := by
  have H := Lib.hid h
  clear h
  go_enter Try.func15, Try.ntmps15
  go_wp2_with (go_at_call 20; refine (isTicks_no _ H.out _).mono ?_; rintro e w' ⟨rfl, rfl⟩)
  go_ret2
  exact ⟨rfl, Below.refl _ _⟩
theorem Shown_yes (t d : Int) (h0 : 0 ≤ t) (h1 : t ≤ 1000000) (d0 : -200 ≤ d) (d1 : d ≤ 200) (w : World) :
    Calls Try.prog 11 #[.int .i64 t, .int .i64 d] w fun e w' => e = .returned (.tuple #[.int .i64 (shownI t d), .int .i64 0]) ∧ w = w' := by
  obtain ⟨e, a, b⟩ := mul_bd t d h0 h1 d0 d1
  have p0 : 0 ≤ t * (1000000 + d) := by omega
  have p1 : t * (1000000 + d) ≤ 9000000000000 := by omega
  clear e
  unfold shownI
  go_enter Try.func11, Try.ntmps11
  go_wp2_with (first
    | (go_at_call 20; refine (isTicks_yes _ (by omega) (by omega) _).mono ?_; rintro e w' ⟨rfl, rfl⟩)
    | (go_at_call 21; refine (down_any _ _ (by omega) (by omega) _).mono ?_; rintro e w' ⟨rfl, rfl⟩))
  go_ret2
  exact ⟨rfl, rfl⟩
theorem Shown_no (t d : Int) (h : t < 0 ∨ 1000000 < t ∨ d < -200 ∨ 200 < d) (w : World) :
    Calls Try.prog 11 #[.int .i64 t, .int .i64 d] w fun e w' => e = .returned (.tuple #[.int .i64 0, .int .i64 1]) ∧ w = w' := by
  by_cases ht : 0 ≤ t ∧ t ≤ 1000000
  · obtain ⟨t0, t1⟩ := ht
    by_cases hd : d < -200
    · clear h
      go_enter Try.func11, Try.ntmps11
      go_wp2_with (go_at_call 20; refine (isTicks_yes _ (by omega) (by omega) _).mono ?_; rintro e w' ⟨rfl, rfl⟩)
      go_ret2
      exact ⟨rfl, rfl⟩
    · have hd2 : 200 < d := by omega
      clear h
      go_enter Try.func11, Try.ntmps11
      go_wp2_with (go_at_call 20; refine (isTicks_yes _ (by omega) (by omega) _).mono ?_; rintro e w' ⟨rfl, rfl⟩)
      go_ret2
      exact ⟨rfl, rfl⟩
  · have H : Hid (t < 0 ∨ 1000000 < t) := by show t < 0 ∨ 1000000 < t; omega
    clear h ht
    go_enter Try.func11, Try.ntmps11
    go_wp2_with (go_at_call 20; refine (isTicks_no _ H.out _).mono ?_; rintro e w' ⟨rfl, rfl⟩)
    go_ret2
    exact ⟨rfl, rfl⟩

/-! ### at every argument -/
theorem Shown_any (t d : Int) (w : World) : Calls Try.prog 11 #[.int .i64 t, .int .i64 d] w fun e w' => e = .returned (.tuple #[.int .i64 (shV t d), .int .i64 (shE t d)]) ∧ w = w' := by
  by_cases h : (0 ≤ t ∧ t ≤ 1000000) ∧ (-200 ≤ d ∧ d ≤ 200)
  · rw [(sh_in h.1.1 h.1.2 h.2.1 h.2.2).1, (sh_in h.1.1 h.1.2 h.2.1 h.2.2).2]
    exact Shown_yes t d h.1.1 h.1.2 h.2.1 h.2.2 w
  · have h' : t < 0 ∨ 1000000 < t ∨ d < -200 ∨ 200 < d := by omega
    rw [(sh_out h').1, (sh_out h').2]
    exact Shown_no t d h' w
theorem Wait_any (t : Int) (w : World) : Calls Try.prog 13 #[.int .i64 t] w fun e w' => e = .returned (.tuple #[.int .i64 (wtV t), .int .i64 (tkE t)]) ∧ Below w.heap.size w w' := by
  by_cases h : 0 ≤ t ∧ t ≤ 1000000
  · rw [(tk_in h.1 h.2).1, (tk_in h.1 h.2).2.2]
    exact Wait_yes t h.1 h.2 w
  · have h' : t < 0 ∨ 1000000 < t := by omega
    rw [(tk_out h').1, (tk_out h').2.2]
    exact Wait_no t h' w
theorem Early_any (t : Int) (w : World) : Calls Try.prog 15 #[.int .i64 t] w fun e w' => e = .returned (.tuple #[.int .i64 (erV t), .int .i64 (tkE t)]) ∧ Below w.heap.size w w' := by
  by_cases h : 0 ≤ t ∧ t ≤ 1000000
  · rw [(tk_in h.1 h.2).2.1, (tk_in h.1 h.2).2.2]
    exact Early_yes t h.1 h.2 w
  · have h' : t < 0 ∨ 1000000 < t := by omega
    rw [(tk_out h').2.1, (tk_out h').2.2]
    exact Early_no t h' w
end Go.Proofs.Ytfelfgglnhdkdaa
