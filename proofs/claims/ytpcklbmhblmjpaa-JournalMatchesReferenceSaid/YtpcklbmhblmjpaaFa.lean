/- Contracts of package flash and of its reference, the functions that only read: Valid, Same, SameList. -/
import Derived.Test.YtpcklbmhblmjpaaProg
import Derived.Test.YtpcklbmhblmjpaaMem
import Derived.WalkKit
import Derived.Deep.QuietTactic
import Derived.BigQuiet
import Derived.Lib.Hide
import Derived.Outline
import Derived.StillTailTactics
import Derived.Deep.RegionHeld3
set_option linter.unusedVariables false
namespace Go.Proofs.Ytpcklbmhblmjpaa
open Go.RowKit

/-- is a memory of n bytes with sectors of s bytes valid? -/
def validB (s : Int) (n : Nat) : Bool := decide (1 ≤ s) && decide (s ≤ 512) && decide (s ≤ n) && decide (n ≤ 4096) && decide ((n : Int) % s = 0)

theorem Valid_any (s : Int) (A : Option Addr) (n c : Nat) (w : World) :
    Calls Try.prog 43 #[.agg #[.int .i64 s, .slice A n c]] w fun e w' => e = .returned (.bool (validB s n)) ∧ Below w.heap.size w w' := by
  have hb : ∀ o, Below w.heap.size w (w.alloc o) := fun o => (Below.refl _ _).alloc (Nat.le_refl _) _
  have HB := Lib.hid hb
  clear hb
  by_cases h1 : 1 ≤ s
  · by_cases h2 : s ≤ 512
    · by_cases h3 : s ≤ (n : Int)
      · by_cases h4 : (n : Int) ≤ 4096
        · have h4' : n ≤ 4096 := by omega
          by_cases h5 : (n : Int) % s = 0
          · have h5' : ((n : Int) % s == 0) = true := by simp [h5]
            have hv : validB s n = true := by simp [validB]; omega
            rw [hv]; clear hv
            go_enter Try.func43, Try.ntmps43
            go_wp2
            go_ret
            exact ⟨rfl, HB.out _⟩
          · have h5' : ((n : Int) % s == 0) = false := by simp [h5]
            have hv : validB s n = false := by simp [validB]; omega
            rw [hv]; clear hv
            go_enter Try.func43, Try.ntmps43
            go_wp2
            go_ret
            exact ⟨rfl, HB.out _⟩
        · have h4' : ¬ n ≤ 4096 := by omega
          have hv : validB s n = false := by simp [validB]; omega
          rw [hv]; clear hv
          go_enter Try.func43, Try.ntmps43
          go_wp2
          go_ret
          exact ⟨rfl, HB.out _⟩
      · have hv : validB s n = false := by simp [validB]; omega
        rw [hv]; clear hv
        go_enter Try.func43, Try.ntmps43
        go_wp2
        go_ret
        exact ⟨rfl, HB.out _⟩
    · have hv : validB s n = false := by simp [validB]; omega
      rw [hv]; clear hv
      go_enter Try.func43, Try.ntmps43
      go_wp2
      go_ret
      exact ⟨rfl, HB.out _⟩
  · have hv : validB s n = false := by simp [validB]; omega
    rw [hv]; clear hv
    go_enter Try.func43, Try.ntmps43
    go_wp2
    go_ret
    exact ⟨rfl, HB.out _⟩

theorem rValid_any (s : Int) (A : Option Addr) (n c : Nat) (w : World) :
    Calls Try.prog 44 #[.agg #[.int .i64 s, .slice A n c]] w fun e w' => e = .returned (.bool (validB s n)) ∧ Below w.heap.size w w' := by
  have hb : ∀ o, Below w.heap.size w (w.alloc o) := fun o => (Below.refl _ _).alloc (Nat.le_refl _) _
  have HB := Lib.hid hb
  clear hb
  by_cases h1 : 1 ≤ s
  · by_cases h2 : s ≤ 512
    · by_cases h3 : s ≤ (n : Int)
      · by_cases h4 : (n : Int) ≤ 4096
        · have h4' : n ≤ 4096 := by omega
          by_cases h5 : (n : Int) % s = 0
          · have h5' : ((n : Int) % s == 0) = true := by simp [h5]
            have hv : validB s n = true := by simp [validB]; omega
            rw [hv]; clear hv
            go_enter Try.func44, Try.ntmps44
            go_wp2
            go_ret
            exact ⟨rfl, HB.out _⟩
          · have h5' : ((n : Int) % s == 0) = false := by simp [h5]
            have hv : validB s n = false := by simp [validB]; omega
            rw [hv]; clear hv
            go_enter Try.func44, Try.ntmps44
            go_wp2
            go_ret
            exact ⟨rfl, HB.out _⟩
        · have h4' : ¬ n ≤ 4096 := by omega
          have hv : validB s n = false := by simp [validB]; omega
          rw [hv]; clear hv
          go_enter Try.func44, Try.ntmps44
          go_wp2
          go_ret
          exact ⟨rfl, HB.out _⟩
      · have hv : validB s n = false := by simp [validB]; omega
        rw [hv]; clear hv
        go_enter Try.func44, Try.ntmps44
        go_wp2
        go_ret
        exact ⟨rfl, HB.out _⟩
    · have hv : validB s n = false := by simp [validB]; omega
      rw [hv]; clear hv
      go_enter Try.func44, Try.ntmps44
      go_wp2
      go_ret
      exact ⟨rfl, HB.out _⟩
  · have hv : validB s n = false := by simp [validB]; omega
    rw [hv]; clear hv
    go_enter Try.func44, Try.ntmps44
    go_wp2
    go_ret
    exact ⟨rfl, HB.out _⟩


def eqM (a b : Mem) : Bool := decide (a = b)
def eqMs (a b : List Mem) : Bool := decide (a = b)
theorem ret_bool {a b : Bool} (h : a = b) : Ending.returned (.bool a) = .returned (.bool b) := by rw [h]
theorem getElem_byte_ne {a b : UInt8} (h : a ≠ b) : ((a.toNat : Int) != (b.toNat : Int)) = true := by
  simp only [bne_iff_ne, ne_eq, Int.natCast_inj]
  exact fun e => h (UInt8.toNat_inj.1 e)
theorem getElem_byte_eq {a b : UInt8} (h : a = b) : ((a.toNat : Int) != (b.toNat : Int)) = false := by subst h; simp

set_option maxHeartbeats 800000 in
theorem Same_any (m1 m2 : Mem) (A1 A2 : Option Addr) (c1 c2 : Nat) (w : World) (h1 : RdB w w.heap.size A1 m1.2) (h2 : RdB w w.heap.size A2 m2.2) (n1 : m1.2.length ≤ 1000000000) (n2 : m2.2.length ≤ 1000000000) :
    Calls Try.prog 7 #[.agg #[.int .i64 m1.1, .slice A1 m1.2.length c1], .agg #[.int .i64 m2.1, .slice A2 m2.2.length c2]] w fun e w' => e = .returned (.bool (eqM m1 m2)) ∧ Below w.heap.size w w' := by
  obtain ⟨s1, bs1⟩ := m1
  obtain ⟨s2, bs2⟩ := m2
  dsimp only at *
  have hb : ∀ o1 o2, Below w.heap.size w ((w.alloc o1).alloc o2) := fun o1 o2 => ((Below.refl _ _).alloc (Nat.le_refl _) _).alloc (by simp) _
  have HB := Lib.hid hb
  clear hb
  by_cases hs : s1 = s2
  · subst hs
    by_cases hl : bs1.length = bs2.length
    · have hl' : ((bs1.length : Int) != (bs2.length : Int)) = false := by simp [hl]
      have HL := Lib.hid hl
      clear hl
      have H1 := Lib.hid h1
      have H2 := Lib.hid h2
      clear h1 h2
      go_enter Try.func7, Try.ntmps7
      go_wp2
      go_loopw [5] (fun i wr => ∃ k j : Nat, i = .int .i64 k ∧ k ≤ bs1.length ∧ bs1.take k = bs2.take k ∧ wr = ((w.alloc (.cells #[.int .i64 s1, .slice A1 bs1.length c1] 24)).alloc (.cells #[.int .i64 s1, .slice A2 bs2.length c2] 24)).drewN j) (fun i _ => bs1.length - (intOf i).toNat)
      case atStart => exact ⟨0, 0, rfl, Nat.zero_le _, rfl, rfl⟩
      case round =>
        obtain ⟨k, j, rfl, hk, heq, rfl⟩ := hrel
        have HEQ := Lib.hid heq
        clear heq
        by_cases hlt : k < bs1.length
        · have hlt2 : k < bs2.length := by have := HL.out; omega
          obtain ⟨a1, o1, rfl, b1, r1⟩ := H1.out.at_ hlt
          obtain ⟨a2, o2, rfl, b2, r2⟩ := H2.out.at_ hlt2
          have hb' := Below.refl w.heap.size w |>.alloc (Nat.le_refl _) (.cells #[.int .i64 s1, .slice (some ⟨a1, o1, none⟩) bs1.length c1] 24) |>.alloc (by simp) (.cells #[.int .i64 s1, .slice (some ⟨a2, o2, none⟩) bs2.length c2] 24)
          have q3 := (hb'.cell (p := ⟨a1, o1 + k, none⟩) b1).trans r1
          have q4 := (hb'.cell (p := ⟨a2, o2 + k, none⟩) b2).trans r2
          clear r1 r2 hb'
          by_cases he : bs1[k] = bs2[k]
          · have he' := getElem_byte_eq he
            go_wp2
            go_quiet (fail)
            go_wp2
            go_roundw
            case rel => exact ⟨k + 1, _, by go_num, by omega, by rw [List.take_succ_eq_append_getElem hlt, List.take_succ_eq_append_getElem hlt2, HEQ.out, he], rfl⟩
            case measure => simp [intOf]; omega
          · have he' := getElem_byte_ne he
            have hne : Hid (eqM (s1, bs1) (s1, bs2) = false) := by
              show _ = false
              simp only [eqM, decide_eq_false_iff_not, Prod.mk.injEq, true_and]
              rintro rfl
              exact he rfl
            clear he
            go_wp2
            go_quiet (fail)
            go_wp2
            go_ret
            exact ⟨ret_bool hne.out.symm, belowDrew (belowDrew (HB.out _ _) _) _⟩
        · have hfin : Hid (eqM (s1, bs1) (s1, bs2) = true) := by
            show _ = true
            have e := HEQ.out
            have e2 := HL.out
            rw [List.take_of_length_le (by omega), List.take_of_length_le (by omega)] at e
            simp [eqM, e]
          go_wp2
          go_ret
          exact ⟨ret_bool hfin.out.symm, belowDrew (HB.out _ _) _⟩
    · have hl' : ((bs1.length : Int) != (bs2.length : Int)) = true := by simp; omega
      have hne : Hid (eqM (s1, bs1) (s1, bs2) = false) := by
        show _ = false
        simp only [eqM, decide_eq_false_iff_not, Prod.mk.injEq, true_and]
        rintro rfl
        exact hl rfl
      clear hl h1 h2
      go_enter Try.func7, Try.ntmps7
      go_wp2
      go_ret
      exact ⟨ret_bool hne.out.symm, HB.out _ _⟩
  · have hs' : (s1 != s2) = true := by simp [hs]
    have hne : Hid (eqM (s1, bs1) (s2, bs2) = false) := by
      show _ = false
      simp [eqM, hs]
    clear hs h1 h2
    go_enter Try.func7, Try.ntmps7
    go_wp2
    go_ret
    exact ⟨ret_bool hne.out.symm, HB.out _ _⟩

set_option maxHeartbeats 800000 in
theorem SameList_any (l1 l2 : List Mem) (A1 A2 : Option Addr) (c1 c2 : Nat) (w : World) (h1 : RdFs w w.heap.size A1 l1) (h2 : RdFs w w.heap.size A2 l2) (n1 : l1.length ≤ 1000000000) (n2 : l2.length ≤ 1000000000)
    (k1 : ∀ m ∈ l1, m.2.length ≤ 1000000000) (k2 : ∀ m ∈ l2, m.2.length ≤ 1000000000) :
    Calls Try.prog 17 #[.slice A1 l1.length c1, .slice A2 l2.length c2] w fun e w' => e = .returned (.bool (eqMs l1 l2)) ∧ Below w.heap.size w w' := by
  have H1 := Lib.hid h1
  have H2 := Lib.hid h2
  have K1 := Lib.hid k1
  have K2 := Lib.hid k2
  clear h1 h2 k1 k2
  by_cases hl : l1.length = l2.length
  · have hl' : ((l1.length : Int) != (l2.length : Int)) = false := by simp [hl]
    have HL := Lib.hid hl
    clear hl
    go_enter Try.func17, Try.ntmps17
    go_wp2
    go_loopw [5] (fun i wr => ∃ k : Nat, i = .int .i64 k ∧ k ≤ l1.length ∧ l1.take k = l2.take k ∧ Below w.heap.size w wr) (fun i _ => l1.length - (intOf i).toNat)
    case atStart => exact ⟨0, rfl, Nat.zero_le _, rfl, Below.refl _ _⟩
    case round =>
      obtain ⟨k, rfl, hk, heq, hb⟩ := hrel
      have HEQ := Lib.hid heq
      clear heq
      by_cases hlt : k < l1.length
      · have hlt2 : k < l2.length := by have := HL.out; omega
        obtain ⟨a1, o1, A1', x1, rfl, b1, r1, r2, r3, r4⟩ := (H1.out.next hb).at_ hlt
        obtain ⟨a2, o2, A2', x2, rfl, b2, t1, t2, t3, t4⟩ := (H2.out.next hb).at_ hlt2
        have m1 := K1.out _ (List.getElem_mem hlt)
        have m2 := K2.out _ (List.getElem_mem hlt2)
        obtain ⟨⟨s1, bs1⟩, hy1⟩ : ∃ y, y = l1[k] := ⟨_, rfl⟩
        obtain ⟨⟨s2, bs2⟩, hy2⟩ : ∃ y, y = l2[k] := ⟨_, rfl⟩
        rw [← hy1] at r1 r2 r3 r4 m1
        rw [← hy2] at t1 t2 t3 t4 m2
        dsimp only at r1 r2 r3 r4 m1 t1 t2 t3 t4 m2
        by_cases he : (s1, bs1) = (s2, bs2)
        · have HE : Hid (l1[k] = l2[k]) := by show _ = _; rw [← hy1, ← hy2, he]
          have hd : eqM (s1, bs1) (s2, bs2) = true := by simp [eqM, he]
          clear hy1 hy2 he
          go_wp2
          go_region_held3 (fun w' => w'.cell? ⟨a1, o1 + k * 2, none⟩ = some (.int .i64 s1) ∧ w'.cell? ⟨a1, o1 + k * 2 + 1, none⟩ = some (.slice A1' bs1.length x1) ∧ w'.cell? ⟨a2, o2 + k * 2, none⟩ = some (.int .i64 s2) ∧ w'.cell? ⟨a2, o2 + k * 2 + 1, none⟩ = some (.slice A2' bs2.length x2))
            (first | exact ⟨r1, r2, t1, t2⟩ | exact ⟨(hb2.cell (p := ⟨a1, _, none⟩) b1).trans r1, (hb2.cell (p := ⟨a1, _, none⟩) b1).trans r2, (hb2.cell (p := ⟨a2, _, none⟩) b2).trans t1, (hb2.cell (p := ⟨a2, _, none⟩) b2).trans t2⟩)
            (first | (go_at_call 7; refine (Same_any (s1, bs1) (s2, bs2) A1' A2' x1 x2 _ (by exact r4) (by exact t4) m1 m2).mono ?_; rintro e w' ⟨rfl, hb2⟩))
          go_wp2
          go_roundw
          case rel => exact ⟨k + 1, by go_num, by omega, by rw [List.take_succ_eq_append_getElem hlt, List.take_succ_eq_append_getElem hlt2, HEQ.out, HE.out], bt hb2 hb.drew⟩
          case measure => simp [intOf]; omega
        · have hne : Hid (eqMs l1 l2 = false) := by
            show _ = false
            simp only [eqMs, decide_eq_false_iff_not]
            rintro rfl
            exact he (by rw [hy1, hy2])
          have hd : eqM (s1, bs1) (s2, bs2) = false := by simp only [eqM, decide_eq_false_iff_not]; exact he
          clear hy1 hy2 he
          go_wp2
          go_region_held3 (fun w' => w'.cell? ⟨a1, o1 + k * 2, none⟩ = some (.int .i64 s1) ∧ w'.cell? ⟨a1, o1 + k * 2 + 1, none⟩ = some (.slice A1' bs1.length x1) ∧ w'.cell? ⟨a2, o2 + k * 2, none⟩ = some (.int .i64 s2) ∧ w'.cell? ⟨a2, o2 + k * 2 + 1, none⟩ = some (.slice A2' bs2.length x2))
            (first | exact ⟨r1, r2, t1, t2⟩ | exact ⟨(hb2.cell (p := ⟨a1, _, none⟩) b1).trans r1, (hb2.cell (p := ⟨a1, _, none⟩) b1).trans r2, (hb2.cell (p := ⟨a2, _, none⟩) b2).trans t1, (hb2.cell (p := ⟨a2, _, none⟩) b2).trans t2⟩)
            (first | (go_at_call 7; refine (Same_any (s1, bs1) (s2, bs2) A1' A2' x1 x2 _ (by exact r4) (by exact t4) m1 m2).mono ?_; rintro e w' ⟨rfl, hb2⟩))
          go_wp2
          go_ret
          exact ⟨ret_bool hne.out.symm, bt hb2 hb.drew⟩
      · have hfin : Hid (eqMs l1 l2 = true) := by
          show _ = true
          have e := HEQ.out
          have e2 := HL.out
          rw [List.take_of_length_le (by omega), List.take_of_length_le (by omega)] at e
          simp [eqMs, e]
        go_wp2
        go_ret
        exact ⟨ret_bool hfin.out.symm, hb⟩
  · have hl' : ((l1.length : Int) != (l2.length : Int)) = true := by simp; omega
    have hne : Hid (eqMs l1 l2 = false) := by
      show _ = false
      simp only [eqMs, decide_eq_false_iff_not]
      rintro rfl
      exact hl rfl
    clear hl
    go_enter Try.func17, Try.ntmps17
    go_wp2
    go_ret
    exact ⟨ret_bool hne.out.symm, Below.refl _ _⟩
end Go.Proofs.Ytpcklbmhblmjpaa
