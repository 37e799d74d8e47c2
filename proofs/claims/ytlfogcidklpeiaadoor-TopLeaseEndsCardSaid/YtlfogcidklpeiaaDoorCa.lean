/- Contracts of clock.Wait, clock.Shown and of the reference's Wait: each returns the closed form and leaves the memory that was there as it was. -/
import Derived.Test.YtlfogcidklpeiaaDoorProg
import Derived.Test.YtlfogcidklpeiaaDoorCMath
import Derived.WalkKit
import Derived.Deep.QuietTactic
import Derived.BigQuiet
import Derived.Lib.Hide
set_option linter.unusedVariables false
namespace Go.Proofs.YtlfogcidklpeiaaDoor
open Go.RowKit Ck

theorem quietL {P : Program} {f : FuncId} {args : Array Value} {w : World} {n : Nat} {v : Value}
    (h : Calls P f args (w.drewN n) fun e w' => e = .returned v ∧ w.drewN n = w') : Calls P f args (w.drewN n) fun e w'' => e = .returned v ∧ ∃ m, w'' = w.drewN m :=
  h.mono fun _ _ ⟨he, hm⟩ => ⟨he, n, hm.symm⟩
theorem Below.drewN' {B : Nat} {a w : World} (h : Below B a w) (n : Nat) : Below B a (w.drewN n) := ⟨h.os, h.tape, h.output, h.size, h.block⟩
theorem isTicks_yes (n : Int) (h0 : 0 ≤ n) (h1 : n ≤ 1000000) (w : World) :
    Calls Tryd.prog 15 #[.int .i64 n] w fun e w' => e = .returned (.bool true) ∧ w = w' := by
  go_enter Tryd.func15, Tryd.ntmps15
  go_wp2
  go_ret
  exact ⟨rfl, rfl⟩
theorem isTicks_no (n : Int) (h : n < 0 ∨ 1000000 < n) (w : World) :
    Calls Tryd.prog 15 #[.int .i64 n] w fun e w' => e = .returned (.bool false) ∧ w = w' := by
  rcases h with h | h
  · have h' : ¬ 0 ≤ n := by omega
    go_enter Tryd.func15, Tryd.ntmps15
    go_wp2
    go_ret
    exact ⟨rfl, rfl⟩
  · have h' : 0 ≤ n := by omega
    have h'' : ¬ n ≤ 1000000 := by omega
    go_enter Tryd.func15, Tryd.ntmps15
    go_wp2
    go_ret
    exact ⟨rfl, rfl⟩
theorem ret_int {k : IntKind} {a b : Int} (h : a = b) : Ending.returned (.int k a) = .returned (.int k b) := by rw [h]
theorem down_any (r t : Int) (h0 : 0 ≤ t * r) (h1 : t * r ≤ 9000000000000) (w : World) :
    Calls Tryd.prog 16 #[.int .i64 r, .int .i64 t] w fun e w' => e = .returned (.int .i64 (t * r / 1000000)) ∧ w = w' := by
  go_enter Tryd.func16, Tryd.ntmps16
  go_wp2
  go_ret
  exact ⟨rfl, rfl⟩
/-- the predicate that Wait searches with -/
theorem pred_down (n t : Int) (hn : 0 ≤ n) (hn1 : n ≤ 3000000) (ht : 0 ≤ t) (b1 b2 b3 : Nat) (w : World)
    (c1 : w.cell? ⟨b1, 0, none⟩ = some (.func (.func 16) #[] #[])) (c2 : w.cell? ⟨b2, 0, none⟩ = some (.int .i64 999800)) (c3 : w.cell? ⟨b3, 0, none⟩ = some (.int .i64 t)) :
    Calls Tryd.prog 35 #[.int .i64 n, .pointer (some ⟨b1, 0, none⟩), .pointer (some ⟨b2, 0, none⟩), .pointer (some ⟨b3, 0, none⟩)] w fun e w' => e = .returned (.bool (decide (waitI t ≤ n))) ∧ ∃ k, w' = w.drewN k := by
  have hi := wait_iff t n ht hn
  have H : decide (t ≤ n * 999800 / 1000000) = decide (waitI t ≤ n) := by simp only [hi]
  rw [← H]
  clear hi H
  go_enter Tryd.func35, Tryd.ntmps35
  go_wp2
  go_quiet ((go_at_call 16; exact quietL (down_any _ _ (by omega) (by omega) _)))
  go_wp2
  go_ret
  exact ⟨rfl, _, rfl⟩
/-- the search: what the predicate says is 'at least m' -/
theorem least_any (m hi : Int) (h0 : 0 ≤ m) (h1 : m ≤ hi) (h2 : hi ≤ 3000000) (a1 a2 a3 : Value) (w : World)
    (hp : ∀ (n : Int) (k : Nat), 0 ≤ n → n ≤ 3000000 → Calls Tryd.prog 35 #[.int .i64 n, a1, a2, a3] (w.drewN k) fun e w' => e = .returned (.bool (decide (m ≤ n))) ∧ ∃ j, w' = (w.drewN k).drewN j) :
    Calls Tryd.prog 34 #[.int .i64 0, .int .i64 hi, .func (.func 35) #[] #[a1, a2, a3]] w fun e w' => e = .returned (.int .i64 m) ∧ ∃ k, w' = w.drewN k := by
  have HP := Lib.hid hp
  clear hp
  go_enter Tryd.func34, Tryd.ntmps34
  go_wp2
  go_loopw [0, 1] (fun l h wr => ∃ (a b : Int) (k : Nat), l = .int .i64 a ∧ h = .int .i64 b ∧ 0 ≤ a ∧ a ≤ m ∧ m ≤ b ∧ b ≤ 3000000 ∧ wr = w.drewN k) (fun l h _ => (intOf h - intOf l).toNat)
  case atStart => exact ⟨0, hi, 0, rfl, rfl, by omega, by omega, by omega, by omega, rfl⟩
  case round =>
    obtain ⟨a, b, k, rfl, rfl, ha, ham, hmb, hb, rfl⟩ := hrel
    by_cases hlt : a < b
    · by_cases hm : m ≤ a + (b - a) / 2
      · go_wp2_with (go_at_call 35; refine (HP.out _ _ (by omega) (by omega)).mono ?_; rintro e w' ⟨rfl, j, rfl⟩)
        go_roundw
        case rel => exact ⟨a, _, _, rfl, rfl, by omega, by omega, by omega, by omega, rfl⟩
        case measure => simp [intOf]; omega
      · go_wp2_with (go_at_call 35; refine (HP.out _ _ (by omega) (by omega)).mono ?_; rintro e w' ⟨rfl, j, rfl⟩)
        go_roundw
        case rel => exact ⟨_, b, _, rfl, rfl, by omega, by omega, by omega, by omega, rfl⟩
        case measure => simp [intOf]; omega
    · obtain rfl : a = m := by omega
      obtain rfl : b = a := by omega
      go_wp2
      go_ret
      exact ⟨rfl, _, rfl⟩
theorem reach_down (t : Int) (h0 : 0 ≤ t) (h1 : t ≤ 1000000) (w : World) :
    Calls Tryd.prog 33 #[.int .i64 999800, .func (.func 16) #[] #[], .int .i64 t] w fun e w' => e = .returned (.int .i64 (waitI t)) ∧ Below w.heap.size w w' := by
  obtain ⟨b0, b1, b2⟩ := wait_bd t h0 h1
  go_enter Tryd.func33, Tryd.ntmps33
  go_wp2_with fail
  refine (least_any (waitI t) _ b0 (by omega) (by omega) _ _ _ _ (fun n k hn hn1 => ?_)).mono ?_
  · refine pred_down n t hn hn1 h0 _ _ _ _ ?_ ?_ ?_ <;> simp [go_sem]
  · rintro e w' ⟨rfl, k, rfl⟩
    go_wp2
    go_ret
    refine ⟨rfl, Below.drewN' ?_ k⟩
    exact (((Below.refl _ _).alloc (Nat.le_refl _) _).alloc (by simp) _).alloc (by simp; omega) _
/-! ### Wait, Early, Shown -/
theorem Wait_yes (t : Int) (h0 : 0 ≤ t) (h1 : t ≤ 1000000) (w : World) :
    Calls Tryd.prog 32 #[.int .i64 t] w fun e w' => e = .returned (.tuple #[.int .i64 (waitI t), .int .i64 0]) ∧ Below w.heap.size w w' := by
  go_enter Tryd.func32, Tryd.ntmps32
  go_wp2_with (first
    | (go_at_call 15; refine (isTicks_yes _ (by omega) (by omega) _).mono ?_; rintro e w' ⟨rfl, rfl⟩)
    | (go_at_call 33; refine (reach_down _ (by omega) (by omega) _).mono ?_; rintro e w' ⟨rfl, hb⟩))
  go_ret2
  exact ⟨rfl, hb⟩
theorem Wait_no (t : Int) (h : t < 0 ∨ 1000000 < t) (w : World) :
    Calls Tryd.prog 32 #[.int .i64 t] w fun e w' => e = .returned (.tuple #[.int .i64 0, .int .i64 1]) ∧ Below w.heap.size w w' := by
  have H := Lib.hid h
  clear h
  go_enter Tryd.func32, Tryd.ntmps32
  go_wp2_with (go_at_call 15; refine (isTicks_no _ H.out _).mono ?_; rintro e w' ⟨rfl, rfl⟩)
  go_ret2
  exact ⟨rfl, Below.refl _ _⟩
theorem Wait_any (t : Int) (w : World) : Calls Tryd.prog 32 #[.int .i64 t] w fun e w' => e = .returned (.tuple #[.int .i64 (wtV t), .int .i64 (tkE t)]) ∧ Below w.heap.size w w' := by
  by_cases h : 0 ≤ t ∧ t ≤ 1000000
  · rw [(tk_in h.1 h.2).1, (tk_in h.1 h.2).2.2]
    exact Wait_yes t h.1 h.2 w
  · have h' : t < 0 ∨ 1000000 < t := by omega
    rw [(tk_out h').1, (tk_out h').2.2]
    exact Wait_no t h' w
theorem Shown_yes (t d : Int) (h0 : 0 ≤ t) (h1 : t ≤ 1000000) (d0 : -200 ≤ d) (d1 : d ≤ 200) (w : World) :
    Calls Tryd.prog 7 #[.int .i64 t, .int .i64 d] w fun e w' => e = .returned (.tuple #[.int .i64 (shownI t d), .int .i64 0]) ∧ w = w' := by
  obtain ⟨e, a, b⟩ := mul_bd t d h0 h1 d0 d1
  have p0 : 0 ≤ t * (1000000 + d) := by omega
  have p1 : t * (1000000 + d) ≤ 9000000000000 := by omega
  clear e
  unfold shownI
  go_enter Tryd.func7, Tryd.ntmps7
  go_wp2_with (first
    | (go_at_call 15; refine (isTicks_yes _ (by omega) (by omega) _).mono ?_; rintro e w' ⟨rfl, rfl⟩)
    | (go_at_call 16; refine (down_any _ _ (by omega) (by omega) _).mono ?_; rintro e w' ⟨rfl, rfl⟩))
  go_ret2
  exact ⟨rfl, rfl⟩
theorem Shown_no (t d : Int) (h : t < 0 ∨ 1000000 < t ∨ d < -200 ∨ 200 < d) (w : World) :
    Calls Tryd.prog 7 #[.int .i64 t, .int .i64 d] w fun e w' => e = .returned (.tuple #[.int .i64 0, .int .i64 1]) ∧ w = w' := by
  by_cases ht : 0 ≤ t ∧ t ≤ 1000000
  · obtain ⟨t0, t1⟩ := ht
    by_cases hd : d < -200
    · clear h
      go_enter Tryd.func7, Tryd.ntmps7
      go_wp2_with (go_at_call 15; refine (isTicks_yes _ (by omega) (by omega) _).mono ?_; rintro e w' ⟨rfl, rfl⟩)
      go_ret2
      exact ⟨rfl, rfl⟩
    · have hd2 : 200 < d := by omega
      clear h
      go_enter Tryd.func7, Tryd.ntmps7
      go_wp2_with (go_at_call 15; refine (isTicks_yes _ (by omega) (by omega) _).mono ?_; rintro e w' ⟨rfl, rfl⟩)
      go_ret2
      exact ⟨rfl, rfl⟩
  · have H : Hid (t < 0 ∨ 1000000 < t) := by show t < 0 ∨ 1000000 < t; omega
    clear h ht
    go_enter Tryd.func7, Tryd.ntmps7
    go_wp2_with (go_at_call 15; refine (isTicks_no _ H.out _).mono ?_; rintro e w' ⟨rfl, rfl⟩)
    go_ret2
    exact ⟨rfl, rfl⟩
/-! ### at every argument -/
theorem Shown_any (t d : Int) (w : World) : Calls Tryd.prog 7 #[.int .i64 t, .int .i64 d] w fun e w' => e = .returned (.tuple #[.int .i64 (shV t d), .int .i64 (shE t d)]) ∧ w = w' := by
  by_cases h : (0 ≤ t ∧ t ≤ 1000000) ∧ (-200 ≤ d ∧ d ≤ 200)
  · rw [(sh_in h.1.1 h.1.2 h.2.1 h.2.2).1, (sh_in h.1.1 h.1.2 h.2.1 h.2.2).2]
    exact Shown_yes t d h.1.1 h.1.2 h.2.1 h.2.2 w
  · have h' : t < 0 ∨ 1000000 < t ∨ d < -200 ∨ 200 < d := by omega
    rw [(sh_out h').1, (sh_out h').2]
    exact Shown_no t d h' w
end Go.Proofs.YtlfogcidklpeiaaDoor
