/- plate: Valid, replace. -/
import Derived.Test.YthmipmdpdfdlaaaDoorTk
import Derived.Test.YthmipmdpdfdlaaaDoorTa
import Derived.Test.YthmipmdpdfdlaaaDoorMem
import Derived.Test.YthmipmdpdfdlaaaDoorReg
import Derived.WalkKit
import Derived.Deep.QuietTactic
import Derived.BigQuiet
import Derived.Lib.Hide
import Derived.Outline
import Derived.Laws.RangeString
import Derived.Lib.OthersKept
set_option maxRecDepth 100000
set_option linter.unusedVariables false
set_option linter.unusedSimpArgs false
namespace Go.Proofs.YthmipmdpdfdlaaaDoor
open Go.RowKit

/-- a sign of a plate -/
def sgB (b : UInt8) : Bool := decide ((65 ≤ b.toNat ∧ b.toNat ≤ 90) ∨ (48 ≤ b.toNat ∧ b.toNat ≤ 57))
def plB (s : ByteArray) : Bool := decide (1 ≤ s.size ∧ s.size ≤ 10) && s.data.toList.all sgB
theorem plB_iff (s : ByteArray) : plB s = true ↔ (1 ≤ s.size ∧ s.size ≤ 10) ∧ ∀ i (h : i < s.size), sgB (s[i]'h) = true := by
  simp only [plB, Bool.and_eq_true, decide_eq_true_iff, List.all_eq_true]
  constructor
  · rintro ⟨h1, h2⟩
    exact ⟨h1, fun i h => h2 _ (by
      have : (s[i]'h) = s.data.toList[i]'(by simpa using h) := rfl
      rw [this]; exact List.getElem_mem _)⟩
  · rintro ⟨h1, h2⟩
    refine ⟨h1, fun x hx => ?_⟩
    obtain ⟨i, hi, rfl⟩ := List.mem_iff_getElem.1 hx
    exact h2 i (by simpa using hi)
theorem iter_below (w : World) (s : ByteArray) (pos : Nat) : Below w.heap.size w (w.iter s pos) := by
  have := (Below.refl w.heap.size w).alloc (Nat.le_refl _) (.stringIter s pos)
  exact this
set_option maxHeartbeats 1000000 in
theorem PValid_any (s : ByteArray) (w : World) (hs : s.size ≤ 9223372036854775807) :
    Calls Tryd.prog 11 #[.string s] w fun e w' => e = .returned (.bool (plB s)) ∧ Below w.heap.size w w' := by
  by_cases h1 : s.size < 1
  · have hv : plB s = false := by simp [plB]; omega
    rw [hv]
    clear hv
    go_enter Tryd.func11, Tryd.ntmps11
    go_wp2
    go_ret
    exact ⟨rfl, Below.refl _ _⟩
  · by_cases h10 : 10 < s.size
    · have hv : plB s = false := by simp [plB]; omega
      rw [hv]
      clear hv
      go_enter Tryd.func11, Tryd.ntmps11
      go_wp2
      go_ret
      exact ⟨rfl, Below.refl _ _⟩
    · have HB : Hid (1 ≤ s.size ∧ s.size ≤ 10) := by show _ ∧ _; omega
      go_enter Tryd.func11, Tryd.ntmps11
      go_wp2
      go_loopw [4] (fun _ w' => ∃ pos : Nat, w' = w.iter s pos ∧ pos ≤ s.size ∧ ∀ i, i < pos → (h : i < s.size) → sgB (s[i]'h) = true) (fun _ w' => s.size - w'.iterPos w.heap.size)
      case atStart => exact ⟨0, rfl, Nat.zero_le _, fun i h => absurd h (by omega)⟩
      case round =>
        obtain ⟨pos, rfl, hps, hall⟩ := hrel
        have HA := Lib.hid hall
        clear hall
        by_cases hp : pos < s.size
        · by_cases ha : (s[pos]'hp).toNat < 128
          · obtain ⟨r, hr⟩ : ∃ r : Nat, (s[pos]'hp).toNat = r := ⟨_, rfl⟩
            have hnx : ∀ ty, (Instr.next (.pointer (some ⟨w.heap.size, 0, none⟩)) true ty).run Tryd.prog (w.iter s pos) = .ok (.tuple #[.bool true, .int .i64 pos, .int .i32 (r : Int)]) (w.iter s (pos + 1)) := fun ty => by rw [run_next_ascii w s pos ty hp ha, hr]
            by_cases h65 : 65 ≤ r
            · by_cases h90 : r ≤ 90
              · have HS : Hid (sgB (s[pos]'hp) = true) := by show _ = true; simp [sgB, hr]; omega
                clear hr
                have g65 : (65 : Int) ≤ r := by omega
                have g90 : (r : Int) ≤ 90 := by omega
                clear h65 h90 ha
                go_wp2
                go_roundw
                case rel => exact ⟨pos + 1, rfl, by omega, fun i hi hi2 => by
                  rcases Nat.lt_or_ge i pos with h | h
                  · exact HA.out i h hi2
                  · obtain rfl : i = pos := by omega
                    exact HS.out⟩
                case measure => simp; omega
              · have hv : plB s = false := by
                  rw [Bool.eq_false_iff]; intro h9; have := ((plB_iff s).1 h9).2 pos hp; simp [sgB, hr] at this; omega
                have HV := Lib.hid hv
                clear hv hr
                have g65 : (65 : Int) ≤ r := by omega
                have g90 : ¬ (r : Int) ≤ 90 := by omega
                have g48 : (48 : Int) ≤ r := by omega
                have g57 : ¬ (r : Int) ≤ 57 := by omega
                clear h65 h90 ha
                go_wp2
                go_ret
                exact ⟨by rw [HV.out]; rfl, iter_below _ _ _⟩
            · by_cases h48 : 48 ≤ r
              · by_cases h57 : r ≤ 57
                · have HS : Hid (sgB (s[pos]'hp) = true) := by show _ = true; simp [sgB, hr]; omega
                  clear hr
                  have g65 : ¬ (65 : Int) ≤ r := by omega
                  have g48 : (48 : Int) ≤ r := by omega
                  have g57 : (r : Int) ≤ 57 := by omega
                  clear h65 h48 h57 ha
                  go_wp2
                  go_roundw
                  case rel => exact ⟨pos + 1, rfl, by omega, fun i hi hi2 => by
                    rcases Nat.lt_or_ge i pos with h | h
                    · exact HA.out i h hi2
                    · obtain rfl : i = pos := by omega
                      exact HS.out⟩
                  case measure => simp; omega
                · have hv : plB s = false := by
                    rw [Bool.eq_false_iff]; intro h9; have := ((plB_iff s).1 h9).2 pos hp; simp [sgB, hr] at this; omega
                  have HV := Lib.hid hv
                  clear hv hr
                  have g65 : ¬ (65 : Int) ≤ r := by omega
                  have g48 : (48 : Int) ≤ r := by omega
                  have g57 : ¬ (r : Int) ≤ 57 := by omega
                  clear h65 h48 h57 ha
                  go_wp2
                  go_ret
                  exact ⟨by rw [HV.out]; rfl, iter_below _ _ _⟩
              · have hv : plB s = false := by
                  rw [Bool.eq_false_iff]; intro h9; have := ((plB_iff s).1 h9).2 pos hp; simp [sgB, hr] at this; omega
                have HV := Lib.hid hv
                clear hv hr
                have g65 : ¬ (65 : Int) ≤ r := by omega
                have g48 : ¬ (48 : Int) ≤ r := by omega
                clear h65 h48 ha
                go_wp2
                go_ret
                exact ⟨by rw [HV.out]; rfl, iter_below _ _ _⟩
          · have hge : 128 ≤ (s[pos]'hp).toNat := by omega
            obtain ⟨d1, d2⟩ := decode_high s pos hp hge
            have hv : plB s = false := by
              rw [Bool.eq_false_iff]; intro h9; have := ((plB_iff s).1 h9).2 pos hp; simp [sgB] at this; omega
            have HV := Lib.hid hv
            clear hv hge ha
            obtain ⟨r, hr⟩ : ∃ r, (Utf8.decode s pos).1 = r := ⟨_, rfl⟩
            obtain ⟨n, hn⟩ : ∃ n, (Utf8.decode s pos).2 = n := ⟨_, rfl⟩
            rw [hr] at d1
            have hnx : ∀ ty, (Instr.next (.pointer (some ⟨w.heap.size, 0, none⟩)) true ty).run Tryd.prog (w.iter s pos) = .ok (.tuple #[.bool true, .int .i64 pos, .int .i32 (r : Int)]) (w.iter s (pos + n)) := fun ty => by rw [run_next_any w s pos ty hp, hr, hn]
            clear d2 hr hn
            have g65 : (65 : Int) ≤ r := by omega
            have g90 : ¬ (r : Int) ≤ 90 := by omega
            have g48 : (48 : Int) ≤ r := by omega
            have g57 : ¬ (r : Int) ≤ 57 := by omega
            clear d1
            go_wp2
            go_ret
            exact ⟨by rw [HV.out]; rfl, iter_below _ _ _⟩
        · have hnx : ∀ ty, (Instr.next (.pointer (some ⟨w.heap.size, 0, none⟩)) true ty).run Tryd.prog (w.iter s pos) = .ok (.tuple #[.bool false]) (w.iter s pos) := fun ty => run_next_end w s pos ty hp
          have hv : plB s = true := (plB_iff s).2 ⟨HB.out, fun i hi => HA.out i (by omega) hi⟩
          have HV := Lib.hid hv
          clear hv hp
          go_wp2
          go_ret
          exact ⟨by rw [HV.out]; rfl, iter_below _ _ _⟩

/-! ### replace -/
/-- the variable confusable -/
def Cf (w : World) : Prop := 0 < w.heap.size ∧ w.cell? ⟨0, 0, none⟩ = some (.int .i32 79) ∧ w.cell? ⟨0, 1, none⟩ = some (.int .i32 48) ∧ w.cell? ⟨0, 2, none⟩ = some (.int .i32 73) ∧ w.cell? ⟨0, 3, none⟩ = some (.int .i32 49) ∧ w.cell? ⟨0, 4, none⟩ = some (.int .i32 66) ∧ w.cell? ⟨0, 5, none⟩ = some (.int .i32 56) ∧ w.cell? ⟨0, 6, none⟩ = some (.int .i32 83) ∧ w.cell? ⟨0, 7, none⟩ = some (.int .i32 53) ∧ w.cell? ⟨0, 8, none⟩ = some (.int .i32 90) ∧ w.cell? ⟨0, 9, none⟩ = some (.int .i32 50)
theorem Cf.next {w w' : World} (h : Cf w) (hb : Below w.heap.size w w') : Cf w' := by
  obtain ⟨h0, a, b, c, d, e, f, g, i, j, k⟩ := h
  have hk : ∀ o, w'.cell? ⟨0, o, none⟩ = w.cell? ⟨0, o, none⟩ := fun o => hb.cell (p := ⟨0, o, none⟩) h0
  exact ⟨Nat.lt_of_lt_of_le h0 hb.size, (hk _).trans a, (hk _).trans b, (hk _).trans c, (hk _).trans d, (hk _).trans e, (hk _).trans f, (hk _).trans g, (hk _).trans i, (hk _).trans j, (hk _).trans k⟩
theorem ixc_0 (W : World) : Sem.run Tryd.prog (Instr.index 62 (.agg #[.int .i32 79, .int .i32 48, .int .i32 73, .int .i32 49, .int .i32 66, .int .i32 56, .int .i32 83, .int .i32 53, .int .i32 90, .int .i32 50]) (.int .i64 0)) W = .ok (.agg #[.int .i32 79, .int .i32 48]) W := by kernel_rfl
theorem ixc_1 (W : World) : Sem.run Tryd.prog (Instr.index 62 (.agg #[.int .i32 79, .int .i32 48, .int .i32 73, .int .i32 49, .int .i32 66, .int .i32 56, .int .i32 83, .int .i32 53, .int .i32 90, .int .i32 50]) (.int .i64 1)) W = .ok (.agg #[.int .i32 73, .int .i32 49]) W := by kernel_rfl
theorem ixc_2 (W : World) : Sem.run Tryd.prog (Instr.index 62 (.agg #[.int .i32 79, .int .i32 48, .int .i32 73, .int .i32 49, .int .i32 66, .int .i32 56, .int .i32 83, .int .i32 53, .int .i32 90, .int .i32 50]) (.int .i64 2)) W = .ok (.agg #[.int .i32 66, .int .i32 56]) W := by kernel_rfl
theorem ixc_3 (W : World) : Sem.run Tryd.prog (Instr.index 62 (.agg #[.int .i32 79, .int .i32 48, .int .i32 73, .int .i32 49, .int .i32 66, .int .i32 56, .int .i32 83, .int .i32 53, .int .i32 90, .int .i32 50]) (.int .i64 3)) W = .ok (.agg #[.int .i32 83, .int .i32 53]) W := by kernel_rfl
theorem ixc_4 (W : World) : Sem.run Tryd.prog (Instr.index 62 (.agg #[.int .i32 79, .int .i32 48, .int .i32 73, .int .i32 49, .int .i32 66, .int .i32 56, .int .i32 83, .int .i32 53, .int .i32 90, .int .i32 50]) (.int .i64 4)) W = .ok (.agg #[.int .i32 90, .int .i32 50]) W := by kernel_rfl
/-- is it one of the first k pairs? -/
def cfN (a b : UInt8) : Nat → Prop
  | 0 => False
  | 1 => (a = 79 ∧ b = 48) ∨ (a = 48 ∧ b = 79)
  | 2 => (a = 79 ∧ b = 48) ∨ (a = 48 ∧ b = 79) ∨ (a = 73 ∧ b = 49) ∨ (a = 49 ∧ b = 73)
  | 3 => (a = 79 ∧ b = 48) ∨ (a = 48 ∧ b = 79) ∨ (a = 73 ∧ b = 49) ∨ (a = 49 ∧ b = 73) ∨ (a = 66 ∧ b = 56) ∨ (a = 56 ∧ b = 66)
  | 4 => (a = 79 ∧ b = 48) ∨ (a = 48 ∧ b = 79) ∨ (a = 73 ∧ b = 49) ∨ (a = 49 ∧ b = 73) ∨ (a = 66 ∧ b = 56) ∨ (a = 56 ∧ b = 66) ∨ (a = 83 ∧ b = 53) ∨ (a = 53 ∧ b = 83)
  | 5 => (a = 79 ∧ b = 48) ∨ (a = 48 ∧ b = 79) ∨ (a = 73 ∧ b = 49) ∨ (a = 49 ∧ b = 73) ∨ (a = 66 ∧ b = 56) ∨ (a = 56 ∧ b = 66) ∨ (a = 83 ∧ b = 53) ∨ (a = 53 ∧ b = 83) ∨ (a = 90 ∧ b = 50) ∨ (a = 50 ∧ b = 90)
  | _ => False
theorem cfN_all (a b : UInt8) : cfN a b 5 ↔ (cfB a b || cfB b a) = true := by
  rw [cf_iff]; simp only [cfN]
theorem u8i (a : UInt8) (n : Nat) (hn : n < 256) : ((n : Int) = (a.toNat : Int)) ↔ a = UInt8.ofNat n := by
  constructor
  · intro h
    apply UInt8.toNat_inj.1
    rw [UInt8.toNat_ofNat']; omega
  · rintro rfl
    rw [UInt8.toNat_ofNat']; omega
set_option maxHeartbeats 1000000 in
theorem replace_any (a b : UInt8) (w : World) (hC : Cf w) :
    Calls Tryd.prog 12 #[.int .i32 (a.toNat : Int), .int .i32 (b.toNat : Int)] w fun e w' => e = .returned (.int .i64 (repl a b)) ∧ Below w.heap.size w w' := by
  have HC := Lib.hid hC
  clear hC
  have ha := a.toNat_lt
  have hb := b.toNat_lt
  by_cases hab : a = b
  · have hv : repl a b = 0 := by rw [repl, if_pos hab]
    rw [hv]
    subst hab
    go_enter Tryd.func12, Tryd.ntmps12
    go_wp2
    go_ret
    exact ⟨rfl, Below.refl _ _⟩
  · have HAB := Lib.hid hab
    have q0 : ((a.toNat : Int) == (b.toNat : Int)) = false := by
      rw [beq_eq_false_iff_ne]; intro h9; exact hab (UInt8.toNat_inj.1 (by omega))
    clear hab
    obtain ⟨hw0, c0, c1, c2, c3, c4, c5, c6, c7, c8, c9⟩ := HC.out
    go_enter Tryd.func12, Tryd.ntmps12
    go_wp2
    clear c0 c1 c2 c3 c4 c5 c6 c7 c8 c9 q0
    go_loopw [11] (fun i wr => ∃ k : Nat, i = .int .i64 (k : Int) ∧ k ≤ 5 ∧ ¬ cfN a b k ∧ Below w.heap.size w wr) (fun i _ => 5 - (intOf i).toNat)
    case atStart => exact ⟨0, rfl, by omega, by simp [cfN], Below.refl _ _⟩
    case round =>
      obtain ⟨k, rfl, hk, hN, hb⟩ := hrel
      have HN := Lib.hid hN
      have HBW := Lib.hid hb
      have hsz := hb.size
      clear hN hb
      rcases (by omega : k = 0 ∨ k = 1 ∨ k = 2 ∨ k = 3 ∨ k = 4 ∨ k = 5) with h0 | h0 | h0 | h0 | h0 | h0
      · obtain rfl : k = 0 := h0
        clear hk
        rw [show ((0 : Nat) : Int) = 0 from rfl]
        have ix := ixc_0
        by_cases hm : a = 79 ∧ b = 48
        · have q1 : ∀ W, (binOp .eql 61 (.agg #[.int .i32 79, .int .i32 48]) (.agg #[.int .i32 (a.toNat : Int), .int .i32 (b.toNat : Int)])).run Tryd.prog W = .ok (.bool true) W := fun W => by rw [eql_signs W (by omega) (by omega) (by omega) (by omega) (by omega) (by omega) (by omega) (by omega)]; exact congrArg (fun z => Result.ok (Value.bool z) W) (decide_eq_true ⟨(u8i a 79 (by decide)).2 hm.1, (u8i b 48 (by decide)).2 hm.2⟩)
          have hv : repl a b = 1 := by
            rw [repl, if_neg HAB.out, if_pos ((cfN_all a b).1 (by simp [cfN, hm]))]
          have HV := Lib.hid hv
          clear hv hm
          go_wp2
          go_ret
          exact ⟨by rw [HV.out]; rfl, HBW.out.alloc (by omega) _⟩
        · have q1 : ∀ W, (binOp .eql 61 (.agg #[.int .i32 79, .int .i32 48]) (.agg #[.int .i32 (a.toNat : Int), .int .i32 (b.toNat : Int)])).run Tryd.prog W = .ok (.bool false) W := fun W => by rw [eql_signs W (by omega) (by omega) (by omega) (by omega) (by omega) (by omega) (by omega) (by omega)]; exact congrArg (fun z => Result.ok (Value.bool z) W) (decide_eq_false (fun h9 => hm ⟨(u8i a 79 (by decide)).1 h9.1, (u8i b 48 (by decide)).1 h9.2⟩))
          by_cases hm2 : a = 48 ∧ b = 79
          · have q2 : ∀ W, (binOp .eql 61 (.agg #[.int .i32 79, .int .i32 48]) (.agg #[.int .i32 (b.toNat : Int), .int .i32 (a.toNat : Int)])).run Tryd.prog W = .ok (.bool true) W := fun W => by rw [eql_signs W (by omega) (by omega) (by omega) (by omega) (by omega) (by omega) (by omega) (by omega)]; exact congrArg (fun z => Result.ok (Value.bool z) W) (decide_eq_true ⟨(u8i b 79 (by decide)).2 hm2.2, (u8i a 48 (by decide)).2 hm2.1⟩)
            have hv : repl a b = 1 := by
              rw [repl, if_neg HAB.out, if_pos ((cfN_all a b).1 (by simp [cfN, hm2]))]
            have HV := Lib.hid hv
            clear hv hm hm2
            go_wp2
            go_ret
            exact ⟨by rw [HV.out]; rfl, HBW.out.alloc (by omega) _⟩
          · have q2 : ∀ W, (binOp .eql 61 (.agg #[.int .i32 79, .int .i32 48]) (.agg #[.int .i32 (b.toNat : Int), .int .i32 (a.toNat : Int)])).run Tryd.prog W = .ok (.bool false) W := fun W => by rw [eql_signs W (by omega) (by omega) (by omega) (by omega) (by omega) (by omega) (by omega) (by omega)]; exact congrArg (fun z => Result.ok (Value.bool z) W) (decide_eq_false (fun h9 => hm2 ⟨(u8i a 48 (by decide)).1 h9.2, (u8i b 79 (by decide)).1 h9.1⟩))
            have HN2 : Hid (¬ cfN a b 1) := by
              show ¬ _
              have h8 := HN.out
              simp only [cfN, not_or, not_false_eq_true] at h8 ⊢
              simp only [h8, hm, hm2, not_false_eq_true, and_self, true_and, and_true]
            clear hm hm2
            go_wp2
            go_roundw
            case rel => exact ⟨1, by go_num, by omega, HN2.out, HBW.out.alloc (by omega) _⟩
            case measure => simp [intOf]
      · obtain rfl : k = 1 := h0
        clear hk
        rw [show ((1 : Nat) : Int) = 1 from rfl]
        have ix := ixc_1
        by_cases hm : a = 73 ∧ b = 49
        · have q1 : ∀ W, (binOp .eql 61 (.agg #[.int .i32 73, .int .i32 49]) (.agg #[.int .i32 (a.toNat : Int), .int .i32 (b.toNat : Int)])).run Tryd.prog W = .ok (.bool true) W := fun W => by rw [eql_signs W (by omega) (by omega) (by omega) (by omega) (by omega) (by omega) (by omega) (by omega)]; exact congrArg (fun z => Result.ok (Value.bool z) W) (decide_eq_true ⟨(u8i a 73 (by decide)).2 hm.1, (u8i b 49 (by decide)).2 hm.2⟩)
          have hv : repl a b = 1 := by
            rw [repl, if_neg HAB.out, if_pos ((cfN_all a b).1 (by simp [cfN, hm]))]
          have HV := Lib.hid hv
          clear hv hm
          go_wp2
          go_ret
          exact ⟨by rw [HV.out]; rfl, HBW.out.alloc (by omega) _⟩
        · have q1 : ∀ W, (binOp .eql 61 (.agg #[.int .i32 73, .int .i32 49]) (.agg #[.int .i32 (a.toNat : Int), .int .i32 (b.toNat : Int)])).run Tryd.prog W = .ok (.bool false) W := fun W => by rw [eql_signs W (by omega) (by omega) (by omega) (by omega) (by omega) (by omega) (by omega) (by omega)]; exact congrArg (fun z => Result.ok (Value.bool z) W) (decide_eq_false (fun h9 => hm ⟨(u8i a 73 (by decide)).1 h9.1, (u8i b 49 (by decide)).1 h9.2⟩))
          by_cases hm2 : a = 49 ∧ b = 73
          · have q2 : ∀ W, (binOp .eql 61 (.agg #[.int .i32 73, .int .i32 49]) (.agg #[.int .i32 (b.toNat : Int), .int .i32 (a.toNat : Int)])).run Tryd.prog W = .ok (.bool true) W := fun W => by rw [eql_signs W (by omega) (by omega) (by omega) (by omega) (by omega) (by omega) (by omega) (by omega)]; exact congrArg (fun z => Result.ok (Value.bool z) W) (decide_eq_true ⟨(u8i b 73 (by decide)).2 hm2.2, (u8i a 49 (by decide)).2 hm2.1⟩)
            have hv : repl a b = 1 := by
              rw [repl, if_neg HAB.out, if_pos ((cfN_all a b).1 (by simp [cfN, hm2]))]
            have HV := Lib.hid hv
            clear hv hm hm2
            go_wp2
            go_ret
            exact ⟨by rw [HV.out]; rfl, HBW.out.alloc (by omega) _⟩
          · have q2 : ∀ W, (binOp .eql 61 (.agg #[.int .i32 73, .int .i32 49]) (.agg #[.int .i32 (b.toNat : Int), .int .i32 (a.toNat : Int)])).run Tryd.prog W = .ok (.bool false) W := fun W => by rw [eql_signs W (by omega) (by omega) (by omega) (by omega) (by omega) (by omega) (by omega) (by omega)]; exact congrArg (fun z => Result.ok (Value.bool z) W) (decide_eq_false (fun h9 => hm2 ⟨(u8i a 49 (by decide)).1 h9.2, (u8i b 73 (by decide)).1 h9.1⟩))
            have HN2 : Hid (¬ cfN a b 2) := by
              show ¬ _
              have h8 := HN.out
              simp only [cfN, not_or] at h8 ⊢
              simp only [h8, hm, hm2, not_false_eq_true, and_self, true_and, and_true]
            clear hm hm2
            go_wp2
            go_roundw
            case rel => exact ⟨2, by go_num, by omega, HN2.out, HBW.out.alloc (by omega) _⟩
            case measure => simp [intOf]
      · obtain rfl : k = 2 := h0
        clear hk
        rw [show ((2 : Nat) : Int) = 2 from rfl]
        have ix := ixc_2
        by_cases hm : a = 66 ∧ b = 56
        · have q1 : ∀ W, (binOp .eql 61 (.agg #[.int .i32 66, .int .i32 56]) (.agg #[.int .i32 (a.toNat : Int), .int .i32 (b.toNat : Int)])).run Tryd.prog W = .ok (.bool true) W := fun W => by rw [eql_signs W (by omega) (by omega) (by omega) (by omega) (by omega) (by omega) (by omega) (by omega)]; exact congrArg (fun z => Result.ok (Value.bool z) W) (decide_eq_true ⟨(u8i a 66 (by decide)).2 hm.1, (u8i b 56 (by decide)).2 hm.2⟩)
          have hv : repl a b = 1 := by
            rw [repl, if_neg HAB.out, if_pos ((cfN_all a b).1 (by simp [cfN, hm]))]
          have HV := Lib.hid hv
          clear hv hm
          go_wp2
          go_ret
          exact ⟨by rw [HV.out]; rfl, HBW.out.alloc (by omega) _⟩
        · have q1 : ∀ W, (binOp .eql 61 (.agg #[.int .i32 66, .int .i32 56]) (.agg #[.int .i32 (a.toNat : Int), .int .i32 (b.toNat : Int)])).run Tryd.prog W = .ok (.bool false) W := fun W => by rw [eql_signs W (by omega) (by omega) (by omega) (by omega) (by omega) (by omega) (by omega) (by omega)]; exact congrArg (fun z => Result.ok (Value.bool z) W) (decide_eq_false (fun h9 => hm ⟨(u8i a 66 (by decide)).1 h9.1, (u8i b 56 (by decide)).1 h9.2⟩))
          by_cases hm2 : a = 56 ∧ b = 66
          · have q2 : ∀ W, (binOp .eql 61 (.agg #[.int .i32 66, .int .i32 56]) (.agg #[.int .i32 (b.toNat : Int), .int .i32 (a.toNat : Int)])).run Tryd.prog W = .ok (.bool true) W := fun W => by rw [eql_signs W (by omega) (by omega) (by omega) (by omega) (by omega) (by omega) (by omega) (by omega)]; exact congrArg (fun z => Result.ok (Value.bool z) W) (decide_eq_true ⟨(u8i b 66 (by decide)).2 hm2.2, (u8i a 56 (by decide)).2 hm2.1⟩)
            have hv : repl a b = 1 := by
              rw [repl, if_neg HAB.out, if_pos ((cfN_all a b).1 (by simp [cfN, hm2]))]
            have HV := Lib.hid hv
            clear hv hm hm2
            go_wp2
            go_ret
            exact ⟨by rw [HV.out]; rfl, HBW.out.alloc (by omega) _⟩
          · have q2 : ∀ W, (binOp .eql 61 (.agg #[.int .i32 66, .int .i32 56]) (.agg #[.int .i32 (b.toNat : Int), .int .i32 (a.toNat : Int)])).run Tryd.prog W = .ok (.bool false) W := fun W => by rw [eql_signs W (by omega) (by omega) (by omega) (by omega) (by omega) (by omega) (by omega) (by omega)]; exact congrArg (fun z => Result.ok (Value.bool z) W) (decide_eq_false (fun h9 => hm2 ⟨(u8i a 56 (by decide)).1 h9.2, (u8i b 66 (by decide)).1 h9.1⟩))
            have HN2 : Hid (¬ cfN a b 3) := by
              show ¬ _
              have h8 := HN.out
              simp only [cfN, not_or] at h8 ⊢
              simp only [h8, hm, hm2, not_false_eq_true, and_self, true_and, and_true]
            clear hm hm2
            go_wp2
            go_roundw
            case rel => exact ⟨3, by go_num, by omega, HN2.out, HBW.out.alloc (by omega) _⟩
            case measure => simp [intOf]
      · obtain rfl : k = 3 := h0
        clear hk
        rw [show ((3 : Nat) : Int) = 3 from rfl]
        have ix := ixc_3
        by_cases hm : a = 83 ∧ b = 53
        · have q1 : ∀ W, (binOp .eql 61 (.agg #[.int .i32 83, .int .i32 53]) (.agg #[.int .i32 (a.toNat : Int), .int .i32 (b.toNat : Int)])).run Tryd.prog W = .ok (.bool true) W := fun W => by rw [eql_signs W (by omega) (by omega) (by omega) (by omega) (by omega) (by omega) (by omega) (by omega)]; exact congrArg (fun z => Result.ok (Value.bool z) W) (decide_eq_true ⟨(u8i a 83 (by decide)).2 hm.1, (u8i b 53 (by decide)).2 hm.2⟩)
          have hv : repl a b = 1 := by
            rw [repl, if_neg HAB.out, if_pos ((cfN_all a b).1 (by simp [cfN, hm]))]
          have HV := Lib.hid hv
          clear hv hm
          go_wp2
          go_ret
          exact ⟨by rw [HV.out]; rfl, HBW.out.alloc (by omega) _⟩
        · have q1 : ∀ W, (binOp .eql 61 (.agg #[.int .i32 83, .int .i32 53]) (.agg #[.int .i32 (a.toNat : Int), .int .i32 (b.toNat : Int)])).run Tryd.prog W = .ok (.bool false) W := fun W => by rw [eql_signs W (by omega) (by omega) (by omega) (by omega) (by omega) (by omega) (by omega) (by omega)]; exact congrArg (fun z => Result.ok (Value.bool z) W) (decide_eq_false (fun h9 => hm ⟨(u8i a 83 (by decide)).1 h9.1, (u8i b 53 (by decide)).1 h9.2⟩))
          by_cases hm2 : a = 53 ∧ b = 83
          · have q2 : ∀ W, (binOp .eql 61 (.agg #[.int .i32 83, .int .i32 53]) (.agg #[.int .i32 (b.toNat : Int), .int .i32 (a.toNat : Int)])).run Tryd.prog W = .ok (.bool true) W := fun W => by rw [eql_signs W (by omega) (by omega) (by omega) (by omega) (by omega) (by omega) (by omega) (by omega)]; exact congrArg (fun z => Result.ok (Value.bool z) W) (decide_eq_true ⟨(u8i b 83 (by decide)).2 hm2.2, (u8i a 53 (by decide)).2 hm2.1⟩)
            have hv : repl a b = 1 := by
              rw [repl, if_neg HAB.out, if_pos ((cfN_all a b).1 (by simp [cfN, hm2]))]
            have HV := Lib.hid hv
            clear hv hm hm2
            go_wp2
            go_ret
            exact ⟨by rw [HV.out]; rfl, HBW.out.alloc (by omega) _⟩
          · have q2 : ∀ W, (binOp .eql 61 (.agg #[.int .i32 83, .int .i32 53]) (.agg #[.int .i32 (b.toNat : Int), .int .i32 (a.toNat : Int)])).run Tryd.prog W = .ok (.bool false) W := fun W => by rw [eql_signs W (by omega) (by omega) (by omega) (by omega) (by omega) (by omega) (by omega) (by omega)]; exact congrArg (fun z => Result.ok (Value.bool z) W) (decide_eq_false (fun h9 => hm2 ⟨(u8i a 53 (by decide)).1 h9.2, (u8i b 83 (by decide)).1 h9.1⟩))
            have HN2 : Hid (¬ cfN a b 4) := by
              show ¬ _
              have h8 := HN.out
              simp only [cfN, not_or] at h8 ⊢
              simp only [h8, hm, hm2, not_false_eq_true, and_self, true_and, and_true]
            clear hm hm2
            go_wp2
            go_roundw
            case rel => exact ⟨4, by go_num, by omega, HN2.out, HBW.out.alloc (by omega) _⟩
            case measure => simp [intOf]
      · obtain rfl : k = 4 := h0
        clear hk
        rw [show ((4 : Nat) : Int) = 4 from rfl]
        have ix := ixc_4
        by_cases hm : a = 90 ∧ b = 50
        · have q1 : ∀ W, (binOp .eql 61 (.agg #[.int .i32 90, .int .i32 50]) (.agg #[.int .i32 (a.toNat : Int), .int .i32 (b.toNat : Int)])).run Tryd.prog W = .ok (.bool true) W := fun W => by rw [eql_signs W (by omega) (by omega) (by omega) (by omega) (by omega) (by omega) (by omega) (by omega)]; exact congrArg (fun z => Result.ok (Value.bool z) W) (decide_eq_true ⟨(u8i a 90 (by decide)).2 hm.1, (u8i b 50 (by decide)).2 hm.2⟩)
          have hv : repl a b = 1 := by
            rw [repl, if_neg HAB.out, if_pos ((cfN_all a b).1 (by simp [cfN, hm]))]
          have HV := Lib.hid hv
          clear hv hm
          go_wp2
          go_ret
          exact ⟨by rw [HV.out]; rfl, HBW.out.alloc (by omega) _⟩
        · have q1 : ∀ W, (binOp .eql 61 (.agg #[.int .i32 90, .int .i32 50]) (.agg #[.int .i32 (a.toNat : Int), .int .i32 (b.toNat : Int)])).run Tryd.prog W = .ok (.bool false) W := fun W => by rw [eql_signs W (by omega) (by omega) (by omega) (by omega) (by omega) (by omega) (by omega) (by omega)]; exact congrArg (fun z => Result.ok (Value.bool z) W) (decide_eq_false (fun h9 => hm ⟨(u8i a 90 (by decide)).1 h9.1, (u8i b 50 (by decide)).1 h9.2⟩))
          by_cases hm2 : a = 50 ∧ b = 90
          · have q2 : ∀ W, (binOp .eql 61 (.agg #[.int .i32 90, .int .i32 50]) (.agg #[.int .i32 (b.toNat : Int), .int .i32 (a.toNat : Int)])).run Tryd.prog W = .ok (.bool true) W := fun W => by rw [eql_signs W (by omega) (by omega) (by omega) (by omega) (by omega) (by omega) (by omega) (by omega)]; exact congrArg (fun z => Result.ok (Value.bool z) W) (decide_eq_true ⟨(u8i b 90 (by decide)).2 hm2.2, (u8i a 50 (by decide)).2 hm2.1⟩)
            have hv : repl a b = 1 := by
              rw [repl, if_neg HAB.out, if_pos ((cfN_all a b).1 (by simp [cfN, hm2]))]
            have HV := Lib.hid hv
            clear hv hm hm2
            go_wp2
            go_ret
            exact ⟨by rw [HV.out]; rfl, HBW.out.alloc (by omega) _⟩
          · have q2 : ∀ W, (binOp .eql 61 (.agg #[.int .i32 90, .int .i32 50]) (.agg #[.int .i32 (b.toNat : Int), .int .i32 (a.toNat : Int)])).run Tryd.prog W = .ok (.bool false) W := fun W => by rw [eql_signs W (by omega) (by omega) (by omega) (by omega) (by omega) (by omega) (by omega) (by omega)]; exact congrArg (fun z => Result.ok (Value.bool z) W) (decide_eq_false (fun h9 => hm2 ⟨(u8i a 50 (by decide)).1 h9.2, (u8i b 90 (by decide)).1 h9.1⟩))
            have HN2 : Hid (¬ cfN a b 5) := by
              show ¬ _
              have h8 := HN.out
              simp only [cfN, not_or] at h8 ⊢
              simp only [h8, hm, hm2, not_false_eq_true, and_self, true_and, and_true]
            clear hm hm2
            go_wp2
            go_roundw
            case rel => exact ⟨5, by go_num, by omega, HN2.out, HBW.out.alloc (by omega) _⟩
            case measure => simp [intOf]
      · obtain rfl : k = 5 := h0
        clear hk
        rw [show ((5 : Nat) : Int) = 5 from rfl]
        have hv : repl a b = 2 := by
          rw [repl, if_neg HAB.out, if_neg (fun h9 => HN.out ((cfN_all a b).2 h9))]
        have HV := Lib.hid hv
        clear hv
        go_wp2
        go_ret
        exact ⟨by rw [HV.out]; rfl, HBW.out⟩
end Go.Proofs.YthmipmdpdfdlaaaDoor
