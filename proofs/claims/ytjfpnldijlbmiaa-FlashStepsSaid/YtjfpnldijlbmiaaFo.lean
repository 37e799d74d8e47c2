/- The laws' helper one: how many bytes differ, and where. -/
import Derived.Test.YtjfpnldijlbmiaaFn
import Derived.Test.YtjfpnldijlbmiaaFl
set_option linter.unusedVariables false
set_option linter.unusedSimpArgs false
namespace Go.Proofs.Ytjfpnldijlbmiaa
open Go.RowKit

set_option maxHeartbeats 1000000 in
theorem one_same (a : List UInt8) (A1 A2 : Option Addr) (c1 c2 : Nat) (w : World) (h1 : RdB w w.heap.size A1 a) (h2 : RdB w w.heap.size A2 a) (n1 : a.length ≤ 1000000000) :
    Calls Try.prog 21 #[.slice A1 a.length c1, .slice A2 a.length c2] w fun e w' => e = .returned (.tuple #[.int .i64 0, .int .i64 (-1)]) ∧ Below w.heap.size w w' := by
  have H1 := Lib.hid h1
  have H2 := Lib.hid h2
  clear h1 h2
  go_enter Try.func21, Try.ntmps21
  go_wp2
  go_loopw [6, 7, 11] (fun x y i wr => x = .int .i64 0 ∧ y = .int .i64 (-1) ∧ ∃ j n : Nat, i = .int .i64 j ∧ j ≤ a.length ∧ wr = w.drewN n) (fun _ _ i _ => a.length - (intOf i).toNat)
  case atStart => exact ⟨rfl, rfl, 0, 0, rfl, Nat.zero_le _, rfl⟩
  case round =>
    obtain ⟨rfl, rfl, j, n, rfl, hj, rfl⟩ := hrel
    by_cases hlt : j < a.length
    · obtain ⟨a1, o1, rfl, g1, q1⟩ := H1.out.at_ hlt
      obtain ⟨a2, o2, rfl, g2, q2⟩ := H2.out.at_ hlt
      go_wp2
      go_quiet (fail)
      go_wp2
      go_roundw
      case rel => exact ⟨rfl, rfl, j + 1, _, by go_num, by omega, rfl⟩
      case measure => simp [intOf]; omega
    · go_wp2
      refine bodyPost_ret (v := .tuple #[.int .i64 0, .int .i64 (-1)]) (by simp [results, Try.results21, go_sem]) rfl ⟨rfl, belowDrew (Below.refl _ _) _⟩

set_option maxHeartbeats 1000000 in
theorem one_at (a b : List UInt8) (q : Nat) (A1 A2 : Option Addr) (c1 c2 : Nat) (w : World) (h1 : RdB w w.heap.size A1 a) (h2 : RdB w w.heap.size A2 b) (n1 : a.length ≤ 1000000000) (hl : b.length = a.length)
    (hq : q < a.length) (hd : ∀ j (h : j < a.length) (h' : j < b.length), j ≠ q → a[j] = b[j]) (hne : ∀ (h : q < a.length) (h' : q < b.length), a[q] ≠ b[q]) :
    Calls Try.prog 21 #[.slice A1 a.length c1, .slice A2 b.length c2] w fun e w' => e = .returned (.tuple #[.int .i64 1, .int .i64 (q : Int)]) ∧ Below w.heap.size w w' := by
  have H1 := Lib.hid h1
  have H2 := Lib.hid h2
  have HD := Lib.hid hd
  have HN := Lib.hid hne
  have HL := Lib.hid hl
  clear h1 h2 hd hne hl
  go_enter Try.func21, Try.ntmps21
  go_wp2
  go_loopw [6, 7, 11] (fun x y i wr => ∃ j n : Nat, i = .int .i64 j ∧ j ≤ a.length ∧ wr = w.drewN n ∧ ((j ≤ q ∧ x = .int .i64 0 ∧ y = .int .i64 (-1)) ∨ (q < j ∧ x = .int .i64 1 ∧ y = .int .i64 (q : Int)))) (fun _ _ i _ => a.length - (intOf i).toNat)
  case atStart => exact ⟨0, 0, rfl, Nat.zero_le _, rfl, Or.inl ⟨Nat.zero_le _, rfl, rfl⟩⟩
  case round =>
    obtain ⟨j, n, rfl, hj, rfl, hc⟩ := hrel
    by_cases hlt : j < a.length
    · have hlt2 : j < b.length := by have := HL.out; omega
      obtain ⟨a1, o1, rfl, g1, q1⟩ := H1.out.at_ hlt
      obtain ⟨a2, o2, rfl, g2, q2⟩ := H2.out.at_ hlt2
      by_cases hjq : j = q
      · subst hjq
        have he' := getElem_byte_ne (HN.out hlt hlt2)
        obtain ⟨_, rfl, rfl⟩ | ⟨h, _, _⟩ := hc
        · go_wp2
          go_quiet (fail)
          go_wp2
          go_roundw
          case rel => exact ⟨j + 1, _, by go_num, by omega, rfl, Or.inr ⟨by omega, rfl, rfl⟩⟩
          case measure => simp [intOf]; omega
        · omega
      · have he' := getElem_byte_eq (HD.out j hlt hlt2 hjq)
        obtain ⟨h, rfl, rfl⟩ | ⟨h, rfl, rfl⟩ := hc
        · go_wp2
          go_quiet (fail)
          go_wp2
          go_roundw
          case rel => exact ⟨j + 1, _, by go_num, by omega, rfl, Or.inl ⟨by omega, rfl, rfl⟩⟩
          case measure => simp [intOf]; omega
        · go_wp2
          go_quiet (fail)
          go_wp2
          go_roundw
          case rel => exact ⟨j + 1, _, by go_num, by omega, rfl, Or.inr ⟨by omega, rfl, rfl⟩⟩
          case measure => simp [intOf]; omega
    · obtain ⟨h, rfl, rfl⟩ | ⟨h, rfl, rfl⟩ := hc
      · omega
      · go_wp2
        refine bodyPost_ret (v := .tuple #[.int .i64 1, .int .i64 (q : Int)]) (by simp [results, Try.results21, go_sem]) rfl ⟨rfl, belowDrew (Below.refl _ _) _⟩
end Go.Proofs.Ytjfpnldijlbmiaa
