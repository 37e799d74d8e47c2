/- Contracts of package flash and of its reference, the functions that only read: Valid, Same, SameList. -/
import Derived.Test.YthebojaminploaaGreatDoorProg
import Derived.Test.YthebojaminploaaGreatDoorKMem
import Derived.WalkKit
import Derived.Deep.QuietTactic
import Derived.BigQuiet
import Derived.Lib.Hide
import Derived.Outline
import Derived.StillTailTactics
import Derived.Deep.RegionHeld3
import Derived.Laws.MakeOwn
import Derived.Laws.CopyOwn
import Derived.RegionTactic
import Derived.BigRegion
import Derived.OwnWalk
set_option linter.unusedVariables false
namespace Go.Proofs.YthebojaminploaaGreatDoor
open Go.RowKit

/-- is a memory of n bytes with sectors of s bytes valid? -/
def validB (s : Int) (n : Nat) : Bool := decide (1 ≤ s) && decide (s ≤ 512) && decide (s ≤ n) && decide (n ≤ 4096) && decide ((n : Int) % s = 0)

theorem Valid_any (s : Int) (A : Option Addr) (n c : Nat) (w : World) :
    Calls Tryz.prog 80 #[.agg #[.int .i64 s, .slice A n c]] w fun e w' => e = .returned (.bool (validB s n)) ∧ Below w.heap.size w w' := by
  have hb : ∀ o, Below w.heap.size w (w.alloc o) := fun o => (Below.refl _ _).alloc (Nat.le_refl _) _
  have HB := Lib.hid hb
  clear hb
  by_cases h1 : 1 ≤ s
  · by_cases h2 : s ≤ 512
    · by_cases h3 : s ≤ (n : Int)
      · by_cases h4 : (n : Int) ≤ 4096
        · have h4' : n ≤ 4096 := by omega
          by_cases h5 : (n : Int) % s = 0
          · have h5' : ((n : Int) % s == 0) = true := by simp [h5]
            have hv : validB s n = true := by simp [validB]; omega
            rw [hv]; clear hv
            go_enter Tryz.func80, Tryz.ntmps80
            go_wp2
            go_ret
            exact ⟨rfl, HB.out _⟩
          · have h5' : ((n : Int) % s == 0) = false := by simp [h5]
            have hv : validB s n = false := by simp [validB]; omega
            rw [hv]; clear hv
            go_enter Tryz.func80, Tryz.ntmps80
            go_wp2
            go_ret
            exact ⟨rfl, HB.out _⟩
        · have h4' : ¬ n ≤ 4096 := by omega
          have hv : validB s n = false := by simp [validB]; omega
          rw [hv]; clear hv
          go_enter Tryz.func80, Tryz.ntmps80
          go_wp2
          go_ret
          exact ⟨rfl, HB.out _⟩
      · have hv : validB s n = false := by simp [validB]; omega
        rw [hv]; clear hv
        go_enter Tryz.func80, Tryz.ntmps80
        go_wp2
        go_ret
        exact ⟨rfl, HB.out _⟩
    · have hv : validB s n = false := by simp [validB]; omega
      rw [hv]; clear hv
      go_enter Tryz.func80, Tryz.ntmps80
      go_wp2
      go_ret
      exact ⟨rfl, HB.out _⟩
  · have hv : validB s n = false := by simp [validB]; omega
    rw [hv]; clear hv
    go_enter Tryz.func80, Tryz.ntmps80
    go_wp2
    go_ret
    exact ⟨rfl, HB.out _⟩

theorem rValid_any (s : Int) (A : Option Addr) (n c : Nat) (w : World) :
    Calls Tryz.prog 78 #[.agg #[.int .i64 s, .slice A n c]] w fun e w' => e = .returned (.bool (validB s n)) ∧ Below w.heap.size w w' := by
  have hb : ∀ o, Below w.heap.size w (w.alloc o) := fun o => (Below.refl _ _).alloc (Nat.le_refl _) _
  have HB := Lib.hid hb
  clear hb
  by_cases h1 : 1 ≤ s
  · by_cases h2 : s ≤ 512
    · by_cases h3 : s ≤ (n : Int)
      · by_cases h4 : (n : Int) ≤ 4096
        · have h4' : n ≤ 4096 := by omega
          by_cases h5 : (n : Int) % s = 0
          · have h5' : ((n : Int) % s == 0) = true := by simp [h5]
            have hv : validB s n = true := by simp [validB]; omega
            rw [hv]; clear hv
            go_enter Tryz.func78, Tryz.ntmps78
            go_wp2
            go_ret
            exact ⟨rfl, HB.out _⟩
          · have h5' : ((n : Int) % s == 0) = false := by simp [h5]
            have hv : validB s n = false := by simp [validB]; omega
            rw [hv]; clear hv
            go_enter Tryz.func78, Tryz.ntmps78
            go_wp2
            go_ret
            exact ⟨rfl, HB.out _⟩
        · have h4' : ¬ n ≤ 4096 := by omega
          have hv : validB s n = false := by simp [validB]; omega
          rw [hv]; clear hv
          go_enter Tryz.func78, Tryz.ntmps78
          go_wp2
          go_ret
          exact ⟨rfl, HB.out _⟩
      · have hv : validB s n = false := by simp [validB]; omega
        rw [hv]; clear hv
        go_enter Tryz.func78, Tryz.ntmps78
        go_wp2
        go_ret
        exact ⟨rfl, HB.out _⟩
    · have hv : validB s n = false := by simp [validB]; omega
      rw [hv]; clear hv
      go_enter Tryz.func78, Tryz.ntmps78
      go_wp2
      go_ret
      exact ⟨rfl, HB.out _⟩
  · have hv : validB s n = false := by simp [validB]; omega
    rw [hv]; clear hv
    go_enter Tryz.func78, Tryz.ntmps78
    go_wp2
    go_ret
    exact ⟨rfl, HB.out _⟩


def eqM (a b : Mem) : Bool := decide (a = b)
def eqMs (a b : List Mem) : Bool := decide (a = b)
theorem ret_bool {a b : Bool} (h : a = b) : Ending.returned (.bool a) = .returned (.bool b) := by rw [h]
theorem getElem_byte_ne {a b : UInt8} (h : a ≠ b) : ((a.toNat : Int) != (b.toNat : Int)) = true := by
  simp only [bne_iff_ne, ne_eq, Int.natCast_inj]
  exact fun e => h (UInt8.toNat_inj.1 e)
theorem getElem_byte_eq {a b : UInt8} (h : a = b) : ((a.toNat : Int) != (b.toNat : Int)) = false := by subst h; simp

set_option maxHeartbeats 800000 in
theorem Same_any (m1 m2 : Mem) (A1 A2 : Option Addr) (c1 c2 : Nat) (w : World) (h1 : RdB w w.heap.size A1 m1.2) (h2 : RdB w w.heap.size A2 m2.2) (n1 : m1.2.length ≤ 1000000000) (n2 : m2.2.length ≤ 1000000000) :
    Calls Tryz.prog 15 #[.agg #[.int .i64 m1.1, .slice A1 m1.2.length c1], .agg #[.int .i64 m2.1, .slice A2 m2.2.length c2]] w fun e w' => e = .returned (.bool (eqM m1 m2)) ∧ Below w.heap.size w w' := by
  obtain ⟨s1, bs1⟩ := m1
  obtain ⟨s2, bs2⟩ := m2
  dsimp only at *
  have hb : ∀ o1 o2, Below w.heap.size w ((w.alloc o1).alloc o2) := fun o1 o2 => ((Below.refl _ _).alloc (Nat.le_refl _) _).alloc (by simp) _
  have HB := Lib.hid hb
  clear hb
  by_cases hs : s1 = s2
  · subst hs
    by_cases hl : bs1.length = bs2.length
    · have hl' : ((bs1.length : Int) != (bs2.length : Int)) = false := by simp [hl]
      have HL := Lib.hid hl
      clear hl
      have H1 := Lib.hid h1
      have H2 := Lib.hid h2
      clear h1 h2
      go_enter Tryz.func15, Tryz.ntmps15
      go_wp2
      go_loopw [5] (fun i wr => ∃ k j : Nat, i = .int .i64 k ∧ k ≤ bs1.length ∧ bs1.take k = bs2.take k ∧ wr = ((w.alloc (.cells #[.int .i64 s1, .slice A1 bs1.length c1] 24)).alloc (.cells #[.int .i64 s1, .slice A2 bs2.length c2] 24)).drewN j) (fun i _ => bs1.length - (intOf i).toNat)
      case atStart => exact ⟨0, 0, rfl, Nat.zero_le _, rfl, rfl⟩
      case round =>
        obtain ⟨k, j, rfl, hk, heq, rfl⟩ := hrel
        have HEQ := Lib.hid heq
        clear heq
        by_cases hlt : k < bs1.length
        · have hlt2 : k < bs2.length := by have := HL.out; omega
          obtain ⟨a1, o1, rfl, b1, r1⟩ := H1.out.at_ hlt
          obtain ⟨a2, o2, rfl, b2, r2⟩ := H2.out.at_ hlt2
          have hb' := Below.refl w.heap.size w |>.alloc (Nat.le_refl _) (.cells #[.int .i64 s1, .slice (some ⟨a1, o1, none⟩) bs1.length c1] 24) |>.alloc (by simp) (.cells #[.int .i64 s1, .slice (some ⟨a2, o2, none⟩) bs2.length c2] 24)
          have q3 := (hb'.cell (p := ⟨a1, o1 + k, none⟩) b1).trans r1
          have q4 := (hb'.cell (p := ⟨a2, o2 + k, none⟩) b2).trans r2
          clear r1 r2 hb'
          by_cases he : bs1[k] = bs2[k]
          · have he' := getElem_byte_eq he
            go_wp2
            go_quiet (fail)
            go_wp2
            go_roundw
            case rel => exact ⟨k + 1, _, by go_num, by omega, by rw [List.take_succ_eq_append_getElem hlt, List.take_succ_eq_append_getElem hlt2, HEQ.out, he], rfl⟩
            case measure => simp [intOf]; omega
          · have he' := getElem_byte_ne he
            have hne : Hid (eqM (s1, bs1) (s1, bs2) = false) := by
              show _ = false
              simp only [eqM, decide_eq_false_iff_not, Prod.mk.injEq, true_and]
              rintro rfl
              exact he rfl
            clear he
            go_wp2
            go_quiet (fail)
            go_wp2
            go_ret
            exact ⟨ret_bool hne.out.symm, belowDrew (belowDrew (HB.out _ _) _) _⟩
        · have hfin : Hid (eqM (s1, bs1) (s1, bs2) = true) := by
            show _ = true
            have e := HEQ.out
            have e2 := HL.out
            rw [List.take_of_length_le (by omega), List.take_of_length_le (by omega)] at e
            simp [eqM, e]
          go_wp2
          go_ret
          exact ⟨ret_bool hfin.out.symm, belowDrew (HB.out _ _) _⟩
    · have hl' : ((bs1.length : Int) != (bs2.length : Int)) = true := by simp; omega
      have hne : Hid (eqM (s1, bs1) (s1, bs2) = false) := by
        show _ = false
        simp only [eqM, decide_eq_false_iff_not, Prod.mk.injEq, true_and]
        rintro rfl
        exact hl rfl
      clear hl h1 h2
      go_enter Tryz.func15, Tryz.ntmps15
      go_wp2
      go_ret
      exact ⟨ret_bool hne.out.symm, HB.out _ _⟩
  · have hs' : (s1 != s2) = true := by simp [hs]
    have hne : Hid (eqM (s1, bs1) (s2, bs2) = false) := by
      show _ = false
      simp [eqM, hs]
    clear hs h1 h2
    go_enter Tryz.func15, Tryz.ntmps15
    go_wp2
    go_ret
    exact ⟨ret_bool hne.out.symm, HB.out _ _⟩

set_option maxHeartbeats 800000 in
theorem SameList_any (l1 l2 : List Mem) (A1 A2 : Option Addr) (c1 c2 : Nat) (w : World) (h1 : RdFs w w.heap.size A1 l1) (h2 : RdFs w w.heap.size A2 l2) (n1 : l1.length ≤ 1000000000) (n2 : l2.length ≤ 1000000000)
    (k1 : ∀ m ∈ l1, m.2.length ≤ 1000000000) (k2 : ∀ m ∈ l2, m.2.length ≤ 1000000000) :
    Calls Tryz.prog 13 #[.slice A1 l1.length c1, .slice A2 l2.length c2] w fun e w' => e = .returned (.bool (eqMs l1 l2)) ∧ Below w.heap.size w w' := by
  have H1 := Lib.hid h1
  have H2 := Lib.hid h2
  have K1 := Lib.hid k1
  have K2 := Lib.hid k2
  clear h1 h2 k1 k2
  by_cases hl : l1.length = l2.length
  · have hl' : ((l1.length : Int) != (l2.length : Int)) = false := by simp [hl]
    have HL := Lib.hid hl
    clear hl
    go_enter Tryz.func13, Tryz.ntmps13
    go_wp2
    go_loopw [5] (fun i wr => ∃ k : Nat, i = .int .i64 k ∧ k ≤ l1.length ∧ l1.take k = l2.take k ∧ Below w.heap.size w wr) (fun i _ => l1.length - (intOf i).toNat)
    case atStart => exact ⟨0, rfl, Nat.zero_le _, rfl, Below.refl _ _⟩
    case round =>
      obtain ⟨k, rfl, hk, heq, hb⟩ := hrel
      have HEQ := Lib.hid heq
      clear heq
      by_cases hlt : k < l1.length
      · have hlt2 : k < l2.length := by have := HL.out; omega
        obtain ⟨a1, o1, A1', x1, rfl, b1, r1, r2, r3, r4⟩ := (H1.out.next hb).at_ hlt
        obtain ⟨a2, o2, A2', x2, rfl, b2, t1, t2, t3, t4⟩ := (H2.out.next hb).at_ hlt2
        have m1 := K1.out _ (List.getElem_mem hlt)
        have m2 := K2.out _ (List.getElem_mem hlt2)
        obtain ⟨⟨s1, bs1⟩, hy1⟩ : ∃ y, y = l1[k] := ⟨_, rfl⟩
        obtain ⟨⟨s2, bs2⟩, hy2⟩ : ∃ y, y = l2[k] := ⟨_, rfl⟩
        rw [← hy1] at r1 r2 r3 r4 m1
        rw [← hy2] at t1 t2 t3 t4 m2
        dsimp only at r1 r2 r3 r4 m1 t1 t2 t3 t4 m2
        by_cases he : (s1, bs1) = (s2, bs2)
        · have HE : Hid (l1[k] = l2[k]) := by show _ = _; rw [← hy1, ← hy2, he]
          have hd : eqM (s1, bs1) (s2, bs2) = true := by simp [eqM, he]
          clear hy1 hy2 he
          go_wp2
          go_region_held3 (fun w' => w'.cell? ⟨a1, o1 + k * 2, none⟩ = some (.int .i64 s1) ∧ w'.cell? ⟨a1, o1 + k * 2 + 1, none⟩ = some (.slice A1' bs1.length x1) ∧ w'.cell? ⟨a2, o2 + k * 2, none⟩ = some (.int .i64 s2) ∧ w'.cell? ⟨a2, o2 + k * 2 + 1, none⟩ = some (.slice A2' bs2.length x2))
            (first | exact ⟨r1, r2, t1, t2⟩ | exact ⟨(hb2.cell (p := ⟨a1, _, none⟩) b1).trans r1, (hb2.cell (p := ⟨a1, _, none⟩) b1).trans r2, (hb2.cell (p := ⟨a2, _, none⟩) b2).trans t1, (hb2.cell (p := ⟨a2, _, none⟩) b2).trans t2⟩)
            (first | (go_at_call 15; refine (Same_any (s1, bs1) (s2, bs2) A1' A2' x1 x2 _ (by exact r4) (by exact t4) m1 m2).mono ?_; rintro e w' ⟨rfl, hb2⟩))
          go_wp2
          go_roundw
          case rel => exact ⟨k + 1, by go_num, by omega, by rw [List.take_succ_eq_append_getElem hlt, List.take_succ_eq_append_getElem hlt2, HEQ.out, HE.out], bt hb2 hb.drew⟩
          case measure => simp [intOf]; omega
        · have hne : Hid (eqMs l1 l2 = false) := by
            show _ = false
            simp only [eqMs, decide_eq_false_iff_not]
            rintro rfl
            exact he (by rw [hy1, hy2])
          have hd : eqM (s1, bs1) (s2, bs2) = false := by simp only [eqM, decide_eq_false_iff_not]; exact he
          clear hy1 hy2 he
          go_wp2
          go_region_held3 (fun w' => w'.cell? ⟨a1, o1 + k * 2, none⟩ = some (.int .i64 s1) ∧ w'.cell? ⟨a1, o1 + k * 2 + 1, none⟩ = some (.slice A1' bs1.length x1) ∧ w'.cell? ⟨a2, o2 + k * 2, none⟩ = some (.int .i64 s2) ∧ w'.cell? ⟨a2, o2 + k * 2 + 1, none⟩ = some (.slice A2' bs2.length x2))
            (first | exact ⟨r1, r2, t1, t2⟩ | exact ⟨(hb2.cell (p := ⟨a1, _, none⟩) b1).trans r1, (hb2.cell (p := ⟨a1, _, none⟩) b1).trans r2, (hb2.cell (p := ⟨a2, _, none⟩) b2).trans t1, (hb2.cell (p := ⟨a2, _, none⟩) b2).trans t2⟩)
            (first | (go_at_call 15; refine (Same_any (s1, bs1) (s2, bs2) A1' A2' x1 x2 _ (by exact r4) (by exact t4) m1 m2).mono ?_; rintro e w' ⟨rfl, hb2⟩))
          go_wp2
          go_ret
          exact ⟨ret_bool hne.out.symm, bt hb2 hb.drew⟩
      · have hfin : Hid (eqMs l1 l2 = true) := by
          show _ = true
          have e := HEQ.out
          have e2 := HL.out
          rw [List.take_of_length_le (by omega), List.take_of_length_le (by omega)] at e
          simp [eqMs, e]
        go_wp2
        go_ret
        exact ⟨ret_bool hfin.out.symm, hb⟩
  · have hl' : ((l1.length : Int) != (l2.length : Int)) = true := by simp; omega
    have hne : Hid (eqMs l1 l2 = false) := by
      show _ = false
      simp only [eqMs, decide_eq_false_iff_not]
      rintro rfl
      exact hl rfl
    clear hl
    go_enter Tryz.func13, Tryz.ntmps13
    go_wp2
    go_ret
    exact ⟨ret_bool hne.out.symm, Below.refl _ _⟩
end Go.Proofs.YthebojaminploaaGreatDoor

/- Contracts of flash.duplicate, flash.New and of the reference's New and With: the functions that make a memory. -/
set_option maxRecDepth 100000
set_option linter.unusedVariables false
namespace Go.Proofs.YthebojaminploaaGreatDoor
open Go.RowKit

theorem info_u8 : (Tryz.prog.info? 5).map (fun i => (i.zero, i.size, i.bytes)) = some (some (.int .u8 0), 1, 1) := by kernel_rfl
/-- a new array of bytes, all 0 -/
def zeros (n : Nat) : Array Value := (List.replicate n (Value.int .u8 0)).toArray

theorem run_make_u8 (n : Nat) (hn : n ≤ 1000000000) (w : World) :
    (Instr.makeSlice 22 (.int .i64 (n : Int)) (.int .i64 (n : Int))).run Tryz.prog w = .ok (.slice (some ⟨w.heap.size, 0, none⟩) n n) (w.alloc (.cells (zeros n) 5)) := by
  obtain ⟨i0, hi, hz0, hz1, hz2⟩ := info_parts info_u8
  have hr := run_make (P := Tryz.prog) w 22 5 i0 _ Tryz.underlying22 hi hz0 .i64 .i64 n n (by omega) (by omega) (by rw [hz2]; omega) (by omega)
  rw [hr, hz1]
  simp only [Int.toNat_natCast, Nat.mul_one]
  have e : madeCells (Value.int .u8 0).cells n = zeros n := by
    apply Array.ext'
    rw [show (Value.int .u8 0).cells = #[.int .u8 0] from rfl, toList_madeCells_one]
    simp [zeros]
  rw [e]

theorem u8s_one (bs : List UInt8) : ∀ v ∈ u8s bs, v.oneCell' = true := by
  intro v hv
  simp only [u8s, List.mem_map] at hv
  obtain ⟨b, _, rfl⟩ := hv
  rfl

/-- copy into an array of just as many bytes that the call itself made -/
theorem copy_u8 (W : World) (g : Nat) (bs : List UInt8) (cur : Array Value) (A : Option Addr) (c B : Nat) (ty : TypeId) (hg : Bk W g 5 cur) (hc : cur.size = bs.length) (hA : RdB W B A bs) :
    ∃ W', (Builtin.copy_ #[22, 22] ty #[.slice (some ⟨g, 0, none⟩) bs.length bs.length, .slice A bs.length c]).run Tryz.prog W = .ok (.int .i64 (bs.length : Int)) W' ∧
      Bk W' g 5 (u8s bs).toArray ∧ W.grownBy W' (some g) ∧ W'.heap.size = W.heap.size := by
  have hs : (Tryz.prog.info? 5).map (·.size) = some 1 := by kernel_rfl
  by_cases h0 : 0 < bs.length
  · obtain ⟨b, o, rfl, hb, hcell⟩ := hA.2 h0
    have hr := run_copy_row (P := Tryz.prog) W 22 22 ty 5 g 0 bs.length bs.length ⟨b, o, none⟩ bs.length c cur 5 (u8s bs) Tryz.underlying22 hs hg (by simp)
      (fun j v hj => by rw [add_mk]; exact hcell j v hj) (by simp [hc]) (u8s_one bs)
    have e : (cur.toList.take 0 ++ u8s bs ++ cur.toList.drop (0 + (u8s bs).length)).toArray = (u8s bs).toArray := by
      rw [List.drop_of_length_le (by simp [hc])]; simp
    rw [e] at hr
    refine ⟨_, hr.trans (by simp [goInt]), setRow_heap W g cur _ _ _ hg, ⟨rfl, rfl, rfl, by simp, fun k _ hk => setRow_other W g k _ (fun e => hk (by rw [e]))⟩, by simp⟩
  · have hz : bs = [] := by cases bs with | nil => rfl | cons x l => simp at h0
    subst hz
    refine ⟨W, ?_, ?_, World.grownBy.refl _ _, rfl⟩
    · cases hq : Tryz.prog.info? 5 with
      | none => simp [hq] at hs
      | some i =>
        have hi : i.size = 1 := by simpa [hq] using hs
        rcases A with _ | ad <;> simp [Builtin.copy_, run_underlying Tryz.underlying22, Builtin.lenOf, Builtin.firstCells, sizeOf, typeInfo, hq, loadCells, loadCellsFrom, storeCells, goInt]
    · have : cur = #[] := Array.eq_empty_of_size_eq_zero (by simpa using hc)
      subst this
      exact hg

theorem upon_copy_u8 {o : Oper} {a : Act} {K : Act → World → Prop} {Q : Exit → Act → World → Prop} {f : Value → World → Result Next} (W : World) (g : Nat) (bs : List UInt8) (cur : Array Value) (A : Option Addr) (c B : Nat) (ty : TypeId) (hg : Bk W g 5 cur) (hc : cur.size = bs.length) (hA : RdB W B A bs)
    (h : ∀ W', Bk W' g 5 (u8s bs).toArray → W.grownBy W' (some g) → W'.heap.size = W.heap.size → Oper.upon Tryz.prog o a K Q (f (.int .i64 (bs.length : Int)) W')) :
    Oper.upon Tryz.prog o a K Q (((Builtin.copy_ #[22, 22] ty #[.slice (some ⟨g, 0, none⟩) bs.length bs.length, .slice A bs.length c]).run Tryz.prog W).andThen f) := by
  obtain ⟨W', hrun, hk, hgr, hsz⟩ := copy_u8 W g bs cur A c B ty hg hc hA
  rw [hrun]
  exact h W' hk hgr hsz

theorem zeros_size (n : Nat) : (zeros n).size = n := by simp [zeros]

set_option maxHeartbeats 1600000 in
theorem duplicate_any (s : Int) (bs : List UInt8) (A : Option Addr) (c : Nat) (w : World) (h1 : RdB w w.heap.size A bs) (n1 : bs.length ≤ 1000000000) :
    Calls Tryz.prog 91 #[.agg #[.int .i64 s, .slice A bs.length c]] w fun e w' => ∃ g, e = .returned (.agg #[.int .i64 s, .slice (some ⟨g, 0, none⟩) bs.length bs.length]) ∧ w.heap.size ≤ g ∧ Bk w' g 5 (u8s bs).toArray ∧ Below w.heap.size w w' := by
  have H1 := Lib.hid h1
  clear h1
  have hmk := run_make_u8 bs.length n1
  go_enter Tryz.func91, Tryz.ntmps91
  go_wp2
  go_region
  · go_wp2_with fail
    have hB : ∀ o1 o2 o3 o4, Below w.heap.size w ((((w.alloc o1).alloc o2).alloc o3).alloc o4).drew := fun o1 o2 o3 o4 => ((((Below.refl _ w).alloc (Nat.le_refl _) _).alloc (by simp) _).alloc (by simp; omega) _ |>.alloc (by simp; omega) _).drew
    refine upon_copy_u8 _ (w.heap.size + 1 + 1) bs (zeros bs.length) A c w.heap.size 3 ?_ (zeros_size _) (H1.out.below (hB _ _ _ _)) ?_
    · exact bkOf (by simp [at?_alloc, at?_drew])
    · intro W2 hk hgr hsz
      have q1 : Bk W2 (w.heap.size + 1 + 1 + 1) 24 #[.int .i64 s, .slice (some ⟨w.heap.size + 1 + 1, 0, none⟩) bs.length bs.length] := Bk.grown (bkOf (by simp [at?_alloc, at?_drew])) hgr (by simp)
      have q2 : Bk W2 (w.heap.size + 1) 24 #[.int .i64 0, .slice none 0 0] := Bk.grown (bkOf (by simp [at?_alloc, at?_drew])) hgr (by simp)
      have r0 := q1.cell 0
      have r1 := q1.cell 1
      have t0 := q2.cell 0
      have t1 := q2.cell 1
      have f0 := q2.frozen 0
      have f1 := q2.frozen 1
      simp only [List.getElem?_toArray, List.getElem?_cons_zero, List.getElem?_cons_succ] at r0 r1 t0 t1
      go_wp2
      refine bodyPost_ret (v := .agg #[.int .i64 s, .slice (some ⟨w.heap.size + 1 + 1, 0, none⟩) bs.length bs.length]) (by simp [results, Tryz.results91, go_sem, t0, t1]) rfl ⟨w.heap.size + 1 + 1, rfl, by omega, ?_, ?_⟩
      · exact (hk.far (p := ⟨w.heap.size + 1, 0, none⟩) (by show (_ : Nat) ≠ w.heap.size + 1; omega) _).far (p := ⟨w.heap.size + 1, 1, none⟩) (by show (_ : Nat) ≠ w.heap.size + 1; omega) _
      · exact (((hB _ _ _ _).grown hgr (by simp; omega) (by simp; omega)).setCell (p := ⟨w.heap.size + 1, 0, none⟩) (by simp) _).setCell (p := ⟨w.heap.size + 1, 1, none⟩) (by simp) _
  · go_wp2_with fail
    have hB : ∀ o1 o2 o3 o4, Below w.heap.size w ((((w.alloc o1).alloc o2).alloc o3).alloc o4).drew := fun o1 o2 o3 o4 => ((((Below.refl _ w).alloc (Nat.le_refl _) _).alloc (by simp) _).alloc (by simp; omega) _ |>.alloc (by simp; omega) _).drew
    refine upon_copy_u8 _ (w.heap.size + 1 + 1 + 1) bs (zeros bs.length) A c w.heap.size 3 ?_ (zeros_size _) (H1.out.below (hB _ _ _ _)) ?_
    · exact bkOf (by simp [at?_alloc, at?_drew])
    · intro W2 hk hgr hsz
      have q1 : Bk W2 (w.heap.size + 1 + 1) 24 #[.int .i64 s, .slice (some ⟨w.heap.size + 1 + 1 + 1, 0, none⟩) bs.length bs.length] := Bk.grown (bkOf (by simp [at?_alloc, at?_drew])) hgr (by simp)
      have q2 : Bk W2 (w.heap.size + 1) 24 #[.int .i64 0, .slice none 0 0] := Bk.grown (bkOf (by simp [at?_alloc, at?_drew])) hgr (by simp)
      have r0 := q1.cell 0
      have r1 := q1.cell 1
      have t0 := q2.cell 0
      have t1 := q2.cell 1
      have f0 := q2.frozen 0
      have f1 := q2.frozen 1
      simp only [List.getElem?_toArray, List.getElem?_cons_zero, List.getElem?_cons_succ] at r0 r1 t0 t1
      go_wp2
      refine bodyPost_ret (v := .agg #[.int .i64 s, .slice (some ⟨w.heap.size + 1 + 1 + 1, 0, none⟩) bs.length bs.length]) (by simp [results, Tryz.results91, go_sem, t0, t1]) rfl ⟨w.heap.size + 1 + 1 + 1, rfl, by omega, ?_, ?_⟩
      · exact (hk.far (p := ⟨w.heap.size + 1, 0, none⟩) (by show (_ : Nat) ≠ w.heap.size + 1; omega) _).far (p := ⟨w.heap.size + 1, 1, none⟩) (by show (_ : Nat) ≠ w.heap.size + 1; omega) _
      · exact (((hB _ _ _ _).grown hgr (by simp; omega) (by simp; omega)).setCell (p := ⟨w.heap.size + 1, 0, none⟩) (by simp) _).setCell (p := ⟨w.heap.size + 1, 1, none⟩) (by simp) _
end Go.Proofs.YthebojaminploaaGreatDoor

/- What programming and erasing do to the bytes of a memory, as plain lists. No program. -/
set_option linter.unusedVariables false
namespace Go.Proofs.YthebojaminploaaGreatDoor

/-- the bytes after i changes from place p on: change j makes f j (old byte) of a byte -/
def memo (f : Nat → UInt8 → UInt8) (bs : List UInt8) (p : Nat) : Nat → List UInt8
  | 0 => bs
  | i + 1 => (memo f bs p i).set (p + i) (f i ((memo f bs p i).getD (p + i) 0))
/-- all memories of n changes -/
def memos (f : Nat → UInt8 → UInt8) (bs : List UInt8) (p n : Nat) : List (List UInt8) := (List.range (n + 1)).map (memo f bs p)
/-- programming -/
def andF (ds : List UInt8) : Nat → UInt8 → UInt8 := fun i old => old &&& ds.getD i 0
/-- erasing -/
def eraF : Nat → UInt8 → UInt8 := fun _ _ => 255

theorem memo_length (f : Nat → UInt8 → UInt8) (bs : List UInt8) (p i : Nat) : (memo f bs p i).length = bs.length := by
  induction i with
  | zero => rfl
  | succ i ih => simp [memo, ih]
theorem memos_length (f : Nat → UInt8 → UInt8) (bs : List UInt8) (p n : Nat) : (memos f bs p n).length = n + 1 := by simp [memos]
theorem memos_succ (f : Nat → UInt8 → UInt8) (bs : List UInt8) (p n : Nat) : memos f bs p (n + 1) = memos f bs p n ++ [memo f bs p (n + 1)] := by
  simp [memos, List.range_succ]
theorem memos_get (f : Nat → UInt8 → UInt8) (bs : List UInt8) (p n i : Nat) (h : i < n + 1) : (memos f bs p n)[i]? = some (memo f bs p i) := by
  simp [memos, h]
/-- each byte by itself -/
theorem memo_get (f : Nat → UInt8 → UInt8) (bs : List UInt8) (p i j : Nat) (hj : j < bs.length) :
    (memo f bs p i).getD j 0 = if p ≤ j ∧ j < p + i then f (j - p) (bs.getD j 0) else bs.getD j 0 := by
  induction i with
  | zero => rw [if_neg (by omega)]; rfl
  | succ i ih =>
    simp only [memo]
    by_cases e : j = p + i
    · subst e
      rw [if_pos (by omega)]
      rw [List.getD_eq_getElem?_getD, List.getElem?_set_self (by rw [memo_length]; exact hj)]
      simp only [Option.getD_some]
      rw [ih, if_neg (by omega), Nat.add_sub_cancel_left]
    · rw [List.getD_eq_getElem?_getD, List.getElem?_set_ne (by omega), ← List.getD_eq_getElem?_getD, ih]
      by_cases h : p ≤ j ∧ j < p + i
      · rw [if_pos h, if_pos (by omega)]
      · rw [if_neg h, if_neg (by omega)]
end Go.Proofs.YthebojaminploaaGreatDoor
