/- Contracts of clock.Wait, clock.Shown and of the reference's Wait: each returns the closed form and leaves the memory that was there as it was. -/
import Derived.Test.YthebojaminploaaGreatDoorProg
import Derived.Test.YthebojaminploaaGreatDoorKLM
import Derived.WalkKit
import Derived.Deep.QuietTactic
import Derived.BigQuiet
import Derived.Lib.Hide
set_option linter.unusedVariables false
namespace Go.Proofs.YthebojaminploaaGreatDoor.Ls
open Go.RowKit Ck

theorem quietL {P : Program} {f : FuncId} {args : Array Value} {w : World} {n : Nat} {v : Value}
    (h : Calls P f args (w.drewN n) fun e w' => e = .returned v ∧ w.drewN n = w') : Calls P f args (w.drewN n) fun e w'' => e = .returned v ∧ ∃ m, w'' = w.drewN m :=
  h.mono fun _ _ ⟨he, hm⟩ => ⟨he, n, hm.symm⟩
theorem Below.drewN' {B : Nat} {a w : World} (h : Below B a w) (n : Nat) : Below B a (w.drewN n) := ⟨h.os, h.tape, h.output, h.size, h.block⟩
theorem isTicks_yes (n : Int) (h0 : 0 ≤ n) (h1 : n ≤ 1000000) (w : World) :
    Calls Tryz.prog 92 #[.int .i64 n] w fun e w' => e = .returned (.bool true) ∧ w = w' := by
  go_enter Tryz.func92, Tryz.ntmps92
  go_wp2
  go_ret
  exact ⟨rfl, rfl⟩
theorem isTicks_no (n : Int) (h : n < 0 ∨ 1000000 < n) (w : World) :
    Calls Tryz.prog 92 #[.int .i64 n] w fun e w' => e = .returned (.bool false) ∧ w = w' := by
  rcases h with h | h
  · have h' : ¬ 0 ≤ n := by omega
    go_enter Tryz.func92, Tryz.ntmps92
    go_wp2
    go_ret
    exact ⟨rfl, rfl⟩
  · have h' : 0 ≤ n := by omega
    have h'' : ¬ n ≤ 1000000 := by omega
    go_enter Tryz.func92, Tryz.ntmps92
    go_wp2
    go_ret
    exact ⟨rfl, rfl⟩
theorem ret_int {k : IntKind} {a b : Int} (h : a = b) : Ending.returned (.int k a) = .returned (.int k b) := by rw [h]
theorem down_any (r t : Int) (h0 : 0 ≤ t * r) (h1 : t * r ≤ 9000000000000) (w : World) :
    Calls Tryz.prog 94 #[.int .i64 r, .int .i64 t] w fun e w' => e = .returned (.int .i64 (t * r / 1000000)) ∧ w = w' := by
  go_enter Tryz.func94, Tryz.ntmps94
  go_wp2
  go_ret
  exact ⟨rfl, rfl⟩
/-- the predicate that Wait searches with -/
theorem pred_down (n t : Int) (hn : 0 ≤ n) (hn1 : n ≤ 3000000) (ht : 0 ≤ t) (b1 b2 b3 : Nat) (w : World)
    (c1 : w.cell? ⟨b1, 0, none⟩ = some (.func (.func 94) #[] #[])) (c2 : w.cell? ⟨b2, 0, none⟩ = some (.int .i64 999800)) (c3 : w.cell? ⟨b3, 0, none⟩ = some (.int .i64 t)) :
    Calls Tryz.prog 97 #[.int .i64 n, .pointer (some ⟨b1, 0, none⟩), .pointer (some ⟨b2, 0, none⟩), .pointer (some ⟨b3, 0, none⟩)] w fun e w' => e = .returned (.bool (decide (waitI t ≤ n))) ∧ ∃ k, w' = w.drewN k := by
  have hi := wait_iff t n ht hn
  have H : decide (t ≤ n * 999800 / 1000000) = decide (waitI t ≤ n) := by simp only [hi]
  rw [← H]
  clear hi H
  go_enter Tryz.func97, Tryz.ntmps97
  go_wp2
  go_quiet ((go_at_call 94; exact quietL (down_any _ _ (by omega) (by omega) _)))
  go_wp2
  go_ret
  exact ⟨rfl, _, rfl⟩
/-- the search: what the predicate says is 'at least m' -/
theorem least_any (m hi : Int) (h0 : 0 ≤ m) (h1 : m ≤ hi) (h2 : hi ≤ 3000000) (a1 a2 a3 : Value) (w : World)
    (hp : ∀ (n : Int) (k : Nat), 0 ≤ n → n ≤ 3000000 → Calls Tryz.prog 97 #[.int .i64 n, a1, a2, a3] (w.drewN k) fun e w' => e = .returned (.bool (decide (m ≤ n))) ∧ ∃ j, w' = (w.drewN k).drewN j) :
    Calls Tryz.prog 96 #[.int .i64 0, .int .i64 hi, .func (.func 97) #[] #[a1, a2, a3]] w fun e w' => e = .returned (.int .i64 m) ∧ ∃ k, w' = w.drewN k := by
  have HP := Lib.hid hp
  clear hp
  go_enter Tryz.func96, Tryz.ntmps96
  go_wp2
  go_loopw [0, 1] (fun l h wr => ∃ (a b : Int) (k : Nat), l = .int .i64 a ∧ h = .int .i64 b ∧ 0 ≤ a ∧ a ≤ m ∧ m ≤ b ∧ b ≤ 3000000 ∧ wr = w.drewN k) (fun l h _ => (intOf h - intOf l).toNat)
  case atStart => exact ⟨0, hi, 0, rfl, rfl, by omega, by omega, by omega, by omega, rfl⟩
  case round =>
    obtain ⟨a, b, k, rfl, rfl, ha, ham, hmb, hb, rfl⟩ := hrel
    by_cases hlt : a < b
    · by_cases hm : m ≤ a + (b - a) / 2
      · go_wp2_with (go_at_call 97; refine (HP.out _ _ (by omega) (by omega)).mono ?_; rintro e w' ⟨rfl, j, rfl⟩)
        go_roundw
        case rel => exact ⟨a, _, _, rfl, rfl, by omega, by omega, by omega, by omega, rfl⟩
        case measure => simp [intOf]; omega
      · go_wp2_with (go_at_call 97; refine (HP.out _ _ (by omega) (by omega)).mono ?_; rintro e w' ⟨rfl, j, rfl⟩)
        go_roundw
        case rel => exact ⟨_, b, _, rfl, rfl, by omega, by omega, by omega, by omega, rfl⟩
        case measure => simp [intOf]; omega
    · obtain rfl : a = m := by omega
      obtain rfl : b = a := by omega
      go_wp2
      go_ret
      exact ⟨rfl, _, rfl⟩
theorem reach_down (t : Int) (h0 : 0 ≤ t) (h1 : t ≤ 1000000) (w : World) :
    Calls Tryz.prog 93 #[.int .i64 999800, .func (.func 94) #[] #[], .int .i64 t] w fun e w' => e = .returned (.int .i64 (waitI t)) ∧ Below w.heap.size w w' := by
  obtain ⟨b0, b1, b2⟩ := wait_bd t h0 h1
  go_enter Tryz.func93, Tryz.ntmps93
  go_wp2_with fail
  refine (least_any (waitI t) _ b0 (by omega) (by omega) _ _ _ _ (fun n k hn hn1 => ?_)).mono ?_
  · refine pred_down n t hn hn1 h0 _ _ _ _ ?_ ?_ ?_ <;> simp [go_sem]
  · rintro e w' ⟨rfl, k, rfl⟩
    go_wp2
    go_ret
    refine ⟨rfl, Below.drewN' ?_ k⟩
    exact (((Below.refl _ _).alloc (Nat.le_refl _) _).alloc (by simp) _).alloc (by simp; omega) _
/-! ### Wait, Early, Shown -/
theorem Wait_yes (t : Int) (h0 : 0 ≤ t) (h1 : t ≤ 1000000) (w : World) :
    Calls Tryz.prog 87 #[.int .i64 t] w fun e w' => e = .returned (.tuple #[.int .i64 (waitI t), .int .i64 0]) ∧ Below w.heap.size w w' := by
  go_enter Tryz.func87, Tryz.ntmps87
  go_wp2_with (first
    | (go_at_call 92; refine (isTicks_yes _ (by omega) (by omega) _).mono ?_; rintro e w' ⟨rfl, rfl⟩)
    | (go_at_call 93; refine (reach_down _ (by omega) (by omega) _).mono ?_; rintro e w' ⟨rfl, hb⟩))
  go_ret2
  exact ⟨rfl, hb⟩
theorem Wait_no (t : Int) (h : t < 0 ∨ 1000000 < t) (w : World) :
    Calls Tryz.prog 87 #[.int .i64 t] w fun e w' => e = .returned (.tuple #[.int .i64 0, .int .i64 1]) ∧ Below w.heap.size w w' := by
  have H := Lib.hid h
  clear h
  go_enter Tryz.func87, Tryz.ntmps87
  go_wp2_with (go_at_call 92; refine (isTicks_no _ H.out _).mono ?_; rintro e w' ⟨rfl, rfl⟩)
  go_ret2
  exact ⟨rfl, Below.refl _ _⟩
theorem rTicks_any (n : Int) (w : World) : Calls Tryz.prog 95 #[.int .i64 n] w fun e w' => e = .returned (.bool (tkB n)) ∧ w = w' := by
  unfold tkB
  by_cases h : 0 ≤ n
  · by_cases h' : n ≤ 1000000 <;> (go_enter Tryz.func95, Tryz.ntmps95; go_wp2; go_ret; exact ⟨by simp [h, h'], rfl⟩)
  · go_enter Tryz.func95, Tryz.ntmps95
    go_wp2
    go_ret
    exact ⟨by simp; omega, rfl⟩
theorem rWait_any (t : Int) (w : World) : Calls Tryz.prog 89 #[.int .i64 t] w fun e w' => e = .returned (.tuple #[.int .i64 (wtV t), .int .i64 (tkE t)]) ∧ w = w' := by
  by_cases ht : 0 ≤ t ∧ t ≤ 1000000
  · have hk : tkB t = true := (tkB_iff t).2 ht
    obtain ⟨t0, t1⟩ := ht
    rw [(tk_in t0 t1).1, (tk_in t0 t1).2.2]
    unfold waitI
    go_enter Tryz.func89, Tryz.ntmps89
    go_wp2_with (go_at_call 95; refine (rTicks_any _ _).mono ?_; rintro e w' ⟨rfl, rfl⟩)
    go_ret2
    exact ⟨rfl, rfl⟩
  · have ht' : t < 0 ∨ 1000000 < t := by omega
    have hk : tkB t = false := (tkB_no t).2 ht'
    rw [(tk_out ht').1, (tk_out ht').2.2]
    clear ht ht'
    go_enter Tryz.func89, Tryz.ntmps89
    go_wp2_with (go_at_call 95; refine (rTicks_any _ _).mono ?_; rintro e w' ⟨rfl, rfl⟩)
    go_ret2
    exact ⟨rfl, rfl⟩
end Go.Proofs.YthebojaminploaaGreatDoor.Ls
