/- Contracts of clock.Wait, clock.Shown and of the reference's Wait: each returns the closed form and leaves the memory that was there as it was. -/
import Derived.Test.YtcnhmgcingmphaaDoorProg
import Derived.Test.YtcnhmgcingmphaaDoorKLM
import Derived.WalkKit
import Derived.Deep.QuietTactic
import Derived.BigQuiet
import Derived.Lib.Hide
set_option linter.unusedVariables false
namespace Go.Proofs.YtcnhmgcingmphaaDoor.Ls
open Go.RowKit Ck

theorem quietL {P : Program} {f : FuncId} {args : Array Value} {w : World} {n : Nat} {v : Value}
    (h : Calls P f args (w.drewN n) fun e w' => e = .returned v ∧ w.drewN n = w') : Calls P f args (w.drewN n) fun e w'' => e = .returned v ∧ ∃ m, w'' = w.drewN m :=
  h.mono fun _ _ ⟨he, hm⟩ => ⟨he, n, hm.symm⟩
theorem Below.drewN' {B : Nat} {a w : World} (h : Below B a w) (n : Nat) : Below B a (w.drewN n) := ⟨h.os, h.tape, h.output, h.size, h.block⟩
theorem isTicks_yes (n : Int) (h0 : 0 ≤ n) (h1 : n ≤ 1000000) (w : World) :
    Calls Tryd.prog 62 #[.int .i64 n] w fun e w' => e = .returned (.bool true) ∧ w = w' := by
  go_enter Tryd.func62, Tryd.ntmps62
  go_wp2
  go_ret
  exact ⟨rfl, rfl⟩
theorem isTicks_no (n : Int) (h : n < 0 ∨ 1000000 < n) (w : World) :
    Calls Tryd.prog 62 #[.int .i64 n] w fun e w' => e = .returned (.bool false) ∧ w = w' := by
  rcases h with h | h
  · have h' : ¬ 0 ≤ n := by omega
    go_enter Tryd.func62, Tryd.ntmps62
    go_wp2
    go_ret
    exact ⟨rfl, rfl⟩
  · have h' : 0 ≤ n := by omega
    have h'' : ¬ n ≤ 1000000 := by omega
    go_enter Tryd.func62, Tryd.ntmps62
    go_wp2
    go_ret
    exact ⟨rfl, rfl⟩
theorem ret_int {k : IntKind} {a b : Int} (h : a = b) : Ending.returned (.int k a) = .returned (.int k b) := by rw [h]
theorem down_any (r t : Int) (h0 : 0 ≤ t * r) (h1 : t * r ≤ 9000000000000) (w : World) :
    Calls Tryd.prog 64 #[.int .i64 r, .int .i64 t] w fun e w' => e = .returned (.int .i64 (t * r / 1000000)) ∧ w = w' := by
  go_enter Tryd.func64, Tryd.ntmps64
  go_wp2
  go_ret
  exact ⟨rfl, rfl⟩
/-- the predicate that Wait searches with -/
theorem pred_down (n t : Int) (hn : 0 ≤ n) (hn1 : n ≤ 3000000) (ht : 0 ≤ t) (b1 b2 b3 : Nat) (w : World)
    (c1 : w.cell? ⟨b1, 0, none⟩ = some (.func (.func 64) #[] #[])) (c2 : w.cell? ⟨b2, 0, none⟩ = some (.int .i64 999800)) (c3 : w.cell? ⟨b3, 0, none⟩ = some (.int .i64 t)) :
    Calls Tryd.prog 73 #[.int .i64 n, .pointer (some ⟨b1, 0, none⟩), .pointer (some ⟨b2, 0, none⟩), .pointer (some ⟨b3, 0, none⟩)] w fun e w' => e = .returned (.bool (decide (waitI t ≤ n))) ∧ ∃ k, w' = w.drewN k := by
  have hi := wait_iff t n ht hn
  have H : decide (t ≤ n * 999800 / 1000000) = decide (waitI t ≤ n) := by simp only [hi]
  rw [← H]
  clear hi H
  go_enter Tryd.func73, Tryd.ntmps73
  go_wp2
  go_quiet ((go_at_call 64; exact quietL (down_any _ _ (by omega) (by omega) _)))
  go_wp2
  go_ret
  exact ⟨rfl, _, rfl⟩
/-- the search: what the predicate says is 'at least m' -/
theorem least_any (m hi : Int) (h0 : 0 ≤ m) (h1 : m ≤ hi) (h2 : hi ≤ 3000000) (a1 a2 a3 : Value) (w : World)
    (hp : ∀ (n : Int) (k : Nat), 0 ≤ n → n ≤ 3000000 → Calls Tryd.prog 73 #[.int .i64 n, a1, a2, a3] (w.drewN k) fun e w' => e = .returned (.bool (decide (m ≤ n))) ∧ ∃ j, w' = (w.drewN k).drewN j) :
    Calls Tryd.prog 72 #[.int .i64 0, .int .i64 hi, .func (.func 73) #[] #[a1, a2, a3]] w fun e w' => e = .returned (.int .i64 m) ∧ ∃ k, w' = w.drewN k := by
  have HP := Lib.hid hp
  clear hp
  go_enter Tryd.func72, Tryd.ntmps72
  go_wp2
  go_loopw [0, 1] (fun l h wr => ∃ (a b : Int) (k : Nat), l = .int .i64 a ∧ h = .int .i64 b ∧ 0 ≤ a ∧ a ≤ m ∧ m ≤ b ∧ b ≤ 3000000 ∧ wr = w.drewN k) (fun l h _ => (intOf h - intOf l).toNat)
  case atStart => exact ⟨0, hi, 0, rfl, rfl, by omega, by omega, by omega, by omega, rfl⟩
  case round =>
    obtain ⟨a, b, k, rfl, rfl, ha, ham, hmb, hb, rfl⟩ := hrel
    by_cases hlt : a < b
    · by_cases hm : m ≤ a + (b - a) / 2
      · go_wp2_with (go_at_call 73; refine (HP.out _ _ (by omega) (by omega)).mono ?_; rintro e w' ⟨rfl, j, rfl⟩)
        go_roundw
        case rel => exact ⟨a, _, _, rfl, rfl, by omega, by omega, by omega, by omega, rfl⟩
        case measure => simp [intOf]; omega
      · go_wp2_with (go_at_call 73; refine (HP.out _ _ (by omega) (by omega)).mono ?_; rintro e w' ⟨rfl, j, rfl⟩)
        go_roundw
        case rel => exact ⟨_, b, _, rfl, rfl, by omega, by omega, by omega, by omega, rfl⟩
        case measure => simp [intOf]; omega
    · obtain rfl : a = m := by omega
      obtain rfl : b = a := by omega
      go_wp2
      go_ret
      exact ⟨rfl, _, rfl⟩
theorem reach_down (t : Int) (h0 : 0 ≤ t) (h1 : t ≤ 1000000) (w : World) :
    Calls Tryd.prog 63 #[.int .i64 999800, .func (.func 64) #[] #[], .int .i64 t] w fun e w' => e = .returned (.int .i64 (waitI t)) ∧ Below w.heap.size w w' := by
  obtain ⟨b0, b1, b2⟩ := wait_bd t h0 h1
  go_enter Tryd.func63, Tryd.ntmps63
  go_wp2_with fail
  refine (least_any (waitI t) _ b0 (by omega) (by omega) _ _ _ _ (fun n k hn hn1 => ?_)).mono ?_
  · refine pred_down n t hn hn1 h0 _ _ _ _ ?_ ?_ ?_ <;> simp [go_sem]
  · rintro e w' ⟨rfl, k, rfl⟩
    go_wp2
    go_ret
    refine ⟨rfl, Below.drewN' ?_ k⟩
    exact (((Below.refl _ _).alloc (Nat.le_refl _) _).alloc (by simp) _).alloc (by simp; omega) _
/-! ### Wait, Early, Shown -/
theorem Wait_yes (t : Int) (h0 : 0 ≤ t) (h1 : t ≤ 1000000) (w : World) :
    Calls Tryd.prog 49 #[.int .i64 t] w fun e w' => e = .returned (.tuple #[.int .i64 (waitI t), .int .i64 0]) ∧ Below w.heap.size w w' := by
  go_enter Tryd.func49, Tryd.ntmps49
  go_wp2_with (first
    | (go_at_call 62; refine (isTicks_yes _ (by omega) (by omega) _).mono ?_; rintro e w' ⟨rfl, rfl⟩)
    | (go_at_call 63; refine (reach_down _ (by omega) (by omega) _).mono ?_; rintro e w' ⟨rfl, hb⟩))
  go_ret2
  exact ⟨rfl, hb⟩
theorem Wait_no (t : Int) (h : t < 0 ∨ 1000000 < t) (w : World) :
    Calls Tryd.prog 49 #[.int .i64 t] w fun e w' => e = .returned (.tuple #[.int .i64 0, .int .i64 1]) ∧ Below w.heap.size w w' := by
  have H := Lib.hid h
  clear h
  go_enter Tryd.func49, Tryd.ntmps49
  go_wp2_with (go_at_call 62; refine (isTicks_no _ H.out _).mono ?_; rintro e w' ⟨rfl, rfl⟩)
  go_ret2
  exact ⟨rfl, Below.refl _ _⟩
end Go.Proofs.YtcnhmgcingmphaaDoor.Ls
