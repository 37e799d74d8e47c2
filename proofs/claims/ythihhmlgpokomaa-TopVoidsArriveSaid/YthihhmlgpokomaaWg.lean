/- The reference of cards: Few, Valid, Voids, Same. -/
import Derived.Test.YthihhmlgpokomaaWc
import Derived.Lib.QuietBelow
import Derived.Laws.StructEq
import Derived.DeepKeys
set_option maxRecDepth 100000
set_option linter.unusedVariables false
set_option linter.unusedSimpArgs false
namespace Go.Proofs.Ythihhmlgpokomaa
open Go.RowKit Go.Sort

theorem rNumber_q (b : Bool) (n : Int) (w : World) (h : decide (1 ≤ n ∧ n ≤ 1000000) = b) : Calls Try.prog 8 #[.int .i64 n] w fun e w' => e = .returned (.bool b) ∧ Below w.heap.size w w' :=
  (rNumber_lit b n w h).mono fun e w' ⟨he, hw⟩ => ⟨he, hw ▸ Below.refl _ _⟩
theorem rEpoch_q (b : Bool) (n : Int) (w : World) (h : decide (0 ≤ n ∧ n ≤ 1000000) = b) : Calls Try.prog 9 #[.int .i64 n] w fun e w' => e = .returned (.bool b) ∧ Below w.heap.size w w' :=
  (rEpoch_lit b n w h).mono fun e w' ⟨he, hw⟩ => ⟨he, hw ▸ Below.refl _ _⟩
theorem Few_any (n m : Nat) (A B : Option Addr) (c cb : Nat) (w : World) :
    Calls Try.prog 5 #[.slice A n c, .slice B m cb, .slice none 0 0] w fun e w' => e = .returned (.bool (decide (n ≤ 80 ∧ m ≤ 80))) ∧ w = w' := by
  by_cases h1 : n ≤ 80
  · have q1 : (n : Int) ≤ 80 := by omega
    by_cases h2 : m ≤ 80
    · have q2 : (m : Int) ≤ 80 := by omega
      rw [decide_eq_true (show n ≤ 80 ∧ m ≤ 80 by omega)]
      go_enter Try.func5, Try.ntmps5
      go_wp2
      go_ret
      exact ⟨rfl, rfl⟩
    · have q2 : decide ((m : Int) ≤ 80) = false := decide_eq_false (by omega)
      rw [decide_eq_false (show ¬ (n ≤ 80 ∧ m ≤ 80) by omega)]
      go_enter Try.func5, Try.ntmps5
      go_wp2
      go_ret
      exact ⟨rfl, rfl⟩
  · have q1 : decide ((n : Int) ≤ 80) = false := decide_eq_false (by omega)
    rw [decide_eq_false (show ¬ (n ≤ 80 ∧ m ≤ 80) by omega)]
    go_enter Try.func5, Try.ntmps5
    go_wp2
    go_ret
    exact ⟨rfl, rfl⟩
def goodAt_Voids (l : List Vd) (i : Nat) : Prop := ∀ h : i < l.length, vOne l[i] ∧ (0 < i → Vd.n (l[i - 1]'(by omega)) < Vd.n l[i])
theorem good_Voids {l : List Vd} (hl : l.length ≤ 64) (h : ∀ i, i < l.length → goodAt_Voids l i) : VOk l :=
  ⟨hl, fun i hi => (h i hi hi).1, fun i hi => (h (i + 1) hi hi).2 (by omega)⟩
theorem good_of_Voids {l : List Vd} (h : VOk l) (i : Nat) : goodAt_Voids l i := fun hi => ⟨h.each i hi, fun h0 => h.lt i (i - 1) hi (by omega)⟩
set_option maxHeartbeats 4000000 in
theorem rVoids_yes (l : List Vd) (A : Option Addr) (c : Nat) (w : World) (h : VOk l) (hn : l.length ≤ 1000000000) (hA : RdV w w.heap.size A l) :
    Calls Try.prog 7 #[.slice A l.length c] w fun e w' => e = .returned (.bool true) ∧ Below w.heap.size w w' := by
  have HA := Lib.hid hA
  have HV := Lib.hid h
  have h64 := h.len
  clear hA h
  go_enter Try.func7, Try.ntmps7
  go_wp2
  go_loopw [3] (fun i wr => ∃ k : Nat, i = .int .i64 (k : Int) ∧ k ≤ l.length ∧ Below w.heap.size w wr) (fun i _ => l.length - (intOf i).toNat)
  case atStart => exact ⟨0, rfl, Nat.zero_le _, Below.refl _ _⟩
  case round =>
    obtain ⟨k, rfl, hk, hb⟩ := hrel
    have HB := Lib.hid hb
    clear hb
    by_cases hlt : k < l.length
    · obtain ⟨b, o, rfl, hbb, x0, x1⟩ := rdV_at (RdX.next HA.out HB.out) hlt
      obtain ⟨x, hx⟩ : ∃ x, x = l[k] := ⟨_, rfl⟩
      rw [← hx] at x0 x1
      have HX := Lib.hid hx
      have k1 : (0 : Int) ≤ (k : Int) := by omega
      have k2 : (k : Int) < (l.length : Int) := by omega
      clear hx
      by_cases hk0 : 0 < k
      · obtain ⟨b9, o9, e9, hb9, y0, z1⟩ := rdV_at (RdX.next HA.out HB.out) (i := k - 1) (by omega)
        obtain ⟨rfl, rfl⟩ : b = b9 ∧ o = o9 := by simpa using e9
        obtain ⟨y, hy⟩ : ∃ y, y = l[k - 1]'(by omega) := ⟨_, rfl⟩
        rw [← hy] at y0
        have HY := Lib.hid hy
        obtain ⟨j, hj⟩ : ∃ j, j = k - 1 := ⟨_, rfl⟩
        rw [← hj] at y0
        have j1 : (k : Int) - 1 = (j : Int) := by omega
        have j2 : IntKind.i64.wrap ((k : Int) - 1) = (j : Int) := by rw [IntWalk.i64_in _ (by omega)]; omega
        have j3 : (0 : Int) ≤ (j : Int) := by omega
        have j4 : (j : Int) < (l.length : Int) := by omega
        clear e9 hb9 hy hj z1
        have kk : (0 : Int) < (k : Int) := by omega
        have hg : goodAt_Voids l k := good_of_Voids HV.out k
        obtain ⟨g1, g2⟩ := hg hlt
        rw [← HX.out] at g1 g2
        rw [← HY.out] at g2
        have g3 : y.n < x.n := g2 (by omega)
        clear g2
        unfold vOne at g1
        obtain ⟨q0, q1, q2, q3⟩ := g1
        have HN : Hid (decide (1 ≤ x.n ∧ x.n ≤ 1000000) = true) := Lib.hid (decide_eq_true (by omega))
        have HE1 : Hid (decide (0 ≤ x.e ∧ x.e ≤ 1000000) = true) := Lib.hid (decide_eq_true (by omega))
        have g4 : decide (x.n ≤ y.n) = false := decide_eq_false (by omega)
        go_wp2
        obtain ⟨Y, hY⟩ : ∃ Y : World, Y = wr := ⟨_, rfl⟩
        rw [← hY] at x0 x1 y0
        rw [← hY]
        have HBY : Hid (Below w.heap.size w Y) := Lib.hid (hY ▸ HB.out)
        clear hY
        have Rx0 := cell_regrown x0
        have Rx1 := cell_regrown x1
        have Ry0 := cell_regrown y0
        have CN := fun (d : Nat) (os : Array Obj) => Calls.regrown_of (rNumber_q true x.n (grow (redrawn Y d) os) HN.out)
        have CE1 := fun (d : Nat) (os : Array Obj) => Calls.regrown_of (rEpoch_q true x.e (grow (redrawn Y d) os) HE1.out)
        refine wp_region_quiet_below (by kernel_rfl) (by kernel_rfl) ?_
        repeat (first | go_big_quiet_step (first | (with_reducible exact CN _ _) | (with_reducible exact CE1 _ _)) | quiet_step (first | (with_reducible exact CN _ _) | (with_reducible exact CE1 _ _)))
        refine wpQuiet_nil ?_
        intro _ hw'
        obtain ⟨⟨dq, osq⟩, hw''⟩ := hw'
        subst hw''
        obtain ⟨Y2, hY2⟩ : ∃ V, V = grow (redrawn Y dq) osq := ⟨_, rfl⟩
        have hbY2 : Below Y.heap.size Y Y2 := by rw [hY2]; exact below_regrown _ _ _
        rw [← hY2]
        clear hY2
        clear Rx0
        clear Rx1
        clear Ry0
        clear CN
        clear CE1
        replace HB := Lib.hid (bt hbY2 HBY.out)
        clear hbY2 HBY x0 x1 y0
        go_wp2
        go_roundw
        case rel => exact ⟨k + 1, by go_num, by omega, HB.out⟩
        case measure => simp [intOf]; omega
      · have kz : ¬ (0 : Int) < (k : Int) := by omega
        have kz1 : decide ((0 : Int) < (k : Int)) = false := decide_eq_false kz
        have kz2 : decide (0 < k) = false := decide_eq_false hk0
        have hg : goodAt_Voids l k := good_of_Voids HV.out k
        obtain ⟨g1, g2⟩ := hg hlt
        rw [← HX.out] at g1 g2
        clear g2
        unfold vOne at g1
        obtain ⟨q0, q1, q2, q3⟩ := g1
        have HN : Hid (decide (1 ≤ x.n ∧ x.n ≤ 1000000) = true) := Lib.hid (decide_eq_true (by omega))
        have HE1 : Hid (decide (0 ≤ x.e ∧ x.e ≤ 1000000) = true) := Lib.hid (decide_eq_true (by omega))
        go_wp2
        obtain ⟨Y, hY⟩ : ∃ Y : World, Y = wr := ⟨_, rfl⟩
        rw [← hY] at x0 x1
        rw [← hY]
        have HBY : Hid (Below w.heap.size w Y) := Lib.hid (hY ▸ HB.out)
        clear hY
        have Rx0 := cell_regrown x0
        have Rx1 := cell_regrown x1
        have CN := fun (d : Nat) (os : Array Obj) => Calls.regrown_of (rNumber_q true x.n (grow (redrawn Y d) os) HN.out)
        have CE1 := fun (d : Nat) (os : Array Obj) => Calls.regrown_of (rEpoch_q true x.e (grow (redrawn Y d) os) HE1.out)
        refine wp_region_quiet_below (by kernel_rfl) (by kernel_rfl) ?_
        repeat (first | go_big_quiet_step (first | (with_reducible exact CN _ _) | (with_reducible exact CE1 _ _)) | quiet_step (first | (with_reducible exact CN _ _) | (with_reducible exact CE1 _ _)))
        refine wpQuiet_nil ?_
        intro _ hw'
        obtain ⟨⟨dq, osq⟩, hw''⟩ := hw'
        subst hw''
        obtain ⟨Y2, hY2⟩ : ∃ V, V = grow (redrawn Y dq) osq := ⟨_, rfl⟩
        have hbY2 : Below Y.heap.size Y Y2 := by rw [hY2]; exact below_regrown _ _ _
        rw [← hY2]
        clear hY2
        clear Rx0
        clear Rx1
        clear CN
        clear CE1
        replace HB := Lib.hid (bt hbY2 HBY.out)
        clear hbY2 HBY x0 x1
        go_wp2
        go_roundw
        case rel => exact ⟨k + 1, by go_num, by omega, HB.out⟩
        case measure => simp [intOf]; omega
    · obtain rfl : k = l.length := by omega
      have q9 : (l.length : Int) ≤ 64 := by omega
      go_wp2
      go_ret
      exact ⟨rfl, HB.out⟩
set_option maxHeartbeats 4000000 in
theorem rVoids_no (l : List Vd) (A : Option Addr) (c : Nat) (w : World) (h : ¬ VOk l) (hn : l.length ≤ 1000000000) (hA : RdV w w.heap.size A l) :
    Calls Try.prog 7 #[.slice A l.length c] w fun e w' => e = .returned (.bool false) ∧ Below w.heap.size w w' := by
  have HA := Lib.hid hA
  have HV := Lib.hid h
  clear hA h
  go_enter Try.func7, Try.ntmps7
  go_wp2
  go_loopw [3] (fun i wr => ∃ k : Nat, i = .int .i64 (k : Int) ∧ k ≤ l.length ∧ (∀ i, i < k → goodAt_Voids l i) ∧ Below w.heap.size w wr) (fun i _ => l.length - (intOf i).toNat)
  case atStart => exact ⟨0, rfl, Nat.zero_le _, (fun i h => by omega), Below.refl _ _⟩
  case round =>
    obtain ⟨k, rfl, hk, hall, hb⟩ := hrel
    have HB := Lib.hid hb
    clear hb
    have HALL := Lib.hid hall
    clear hall
    by_cases hlt : k < l.length
    · obtain ⟨b, o, rfl, hbb, x0, x1⟩ := rdV_at (RdX.next HA.out HB.out) hlt
      obtain ⟨x, hx⟩ : ∃ x, x = l[k] := ⟨_, rfl⟩
      rw [← hx] at x0 x1
      have HX := Lib.hid hx
      have k1 : (0 : Int) ≤ (k : Int) := by omega
      have k2 : (k : Int) < (l.length : Int) := by omega
      clear hx
      by_cases hk0 : 0 < k
      · obtain ⟨b9, o9, e9, hb9, y0, z1⟩ := rdV_at (RdX.next HA.out HB.out) (i := k - 1) (by omega)
        obtain ⟨rfl, rfl⟩ : b = b9 ∧ o = o9 := by simpa using e9
        obtain ⟨y, hy⟩ : ∃ y, y = l[k - 1]'(by omega) := ⟨_, rfl⟩
        rw [← hy] at y0
        have HY := Lib.hid hy
        obtain ⟨j, hj⟩ : ∃ j, j = k - 1 := ⟨_, rfl⟩
        rw [← hj] at y0
        have j1 : (k : Int) - 1 = (j : Int) := by omega
        have j2 : IntKind.i64.wrap ((k : Int) - 1) = (j : Int) := by rw [IntWalk.i64_in _ (by omega)]; omega
        have j3 : (0 : Int) ≤ (j : Int) := by omega
        have j4 : (j : Int) < (l.length : Int) := by omega
        clear e9 hb9 hy hj z1
        have kk : (0 : Int) < (k : Int) := by omega
        by_cases pn : 1 ≤ x.n ∧ x.n ≤ 1000000
        · by_cases p0 : y.n < x.n
          · by_cases p3 : 0 ≤ x.e ∧ x.e ≤ 1000000
            · have HN : Hid (decide (1 ≤ x.n ∧ x.n ≤ 1000000) = true) := Lib.hid (decide_eq_true (by omega))
              have HE1 : Hid (decide (0 ≤ x.e ∧ x.e ≤ 1000000) = true) := Lib.hid (decide_eq_true (by omega))
              have g4 : decide (x.n ≤ y.n) = false := decide_eq_false (by omega)
              have HG : Hid (∀ i, i < k + 1 → goodAt_Voids l i) := Lib.hid (fun i hi => by
                by_cases e : i = k
                · subst e
                  refine fun h => ⟨?_, fun h0 => ?_⟩
                  · rw [← HX.out]; exact ⟨by omega, by omega, by omega, by omega⟩
                  · rw [← HX.out, ← HY.out]; omega
                · exact HALL.out i (by omega))
              go_wp2
              obtain ⟨Y, hY⟩ : ∃ Y : World, Y = wr := ⟨_, rfl⟩
              rw [← hY] at x0 x1 y0
              rw [← hY]
              have HBY : Hid (Below w.heap.size w Y) := Lib.hid (hY ▸ HB.out)
              clear hY
              have Rx0 := cell_regrown x0
              have Rx1 := cell_regrown x1
              have Ry0 := cell_regrown y0
              have CN := fun (d : Nat) (os : Array Obj) => Calls.regrown_of (rNumber_q true x.n (grow (redrawn Y d) os) HN.out)
              have CE1 := fun (d : Nat) (os : Array Obj) => Calls.regrown_of (rEpoch_q true x.e (grow (redrawn Y d) os) HE1.out)
              refine wp_region_quiet_below (by kernel_rfl) (by kernel_rfl) ?_
              repeat (first | go_big_quiet_step (first | (with_reducible exact CN _ _) | (with_reducible exact CE1 _ _)) | quiet_step (first | (with_reducible exact CN _ _) | (with_reducible exact CE1 _ _)))
              refine wpQuiet_nil ?_
              intro _ hw'
              obtain ⟨⟨dq, osq⟩, hw''⟩ := hw'
              subst hw''
              obtain ⟨Y2, hY2⟩ : ∃ V, V = grow (redrawn Y dq) osq := ⟨_, rfl⟩
              have hbY2 : Below Y.heap.size Y Y2 := by rw [hY2]; exact below_regrown _ _ _
              rw [← hY2]
              clear hY2
              clear Rx0
              clear Rx1
              clear Ry0
              clear CN
              clear CE1
              replace HB := Lib.hid (bt hbY2 HBY.out)
              clear hbY2 HBY x0 x1 y0
              go_wp2
              go_roundw
              case rel => exact ⟨k + 1, by go_num, by omega, HG.out, HB.out⟩
              case measure => simp [intOf]; omega
            · have HN : Hid (decide (1 ≤ x.n ∧ x.n ≤ 1000000) = true) := Lib.hid (decide_eq_true (by omega))
              have g4 : decide (x.n ≤ y.n) = false := decide_eq_false (by omega)
              have HE1 : Hid (decide (0 ≤ x.e ∧ x.e ≤ 1000000) = false) := Lib.hid (decide_eq_false (by omega))
              go_wp2
              obtain ⟨Y, hY⟩ : ∃ Y : World, Y = wr := ⟨_, rfl⟩
              rw [← hY] at x0 x1 y0
              rw [← hY]
              have HBY : Hid (Below w.heap.size w Y) := Lib.hid (hY ▸ HB.out)
              clear hY
              have Rx0 := cell_regrown x0
              have Rx1 := cell_regrown x1
              have Ry0 := cell_regrown y0
              have CN := fun (d : Nat) (os : Array Obj) => Calls.regrown_of (rNumber_q true x.n (grow (redrawn Y d) os) HN.out)
              have CE1 := fun (d : Nat) (os : Array Obj) => Calls.regrown_of (rEpoch_q false x.e (grow (redrawn Y d) os) HE1.out)
              refine wp_region_quiet_below (by kernel_rfl) (by kernel_rfl) ?_
              repeat (first | go_big_quiet_step (first | (with_reducible exact CN _ _) | (with_reducible exact CE1 _ _)) | quiet_step (first | (with_reducible exact CN _ _) | (with_reducible exact CE1 _ _)))
              refine wpQuiet_nil ?_
              intro _ hw'
              obtain ⟨⟨dq, osq⟩, hw''⟩ := hw'
              subst hw''
              obtain ⟨Y2, hY2⟩ : ∃ V, V = grow (redrawn Y dq) osq := ⟨_, rfl⟩
              have hbY2 : Below Y.heap.size Y Y2 := by rw [hY2]; exact below_regrown _ _ _
              rw [← hY2]
              clear hY2
              clear Rx0
              clear Rx1
              clear Ry0
              clear CN
              clear CE1
              replace HB := Lib.hid (bt hbY2 HBY.out)
              clear hbY2 HBY x0 x1 y0
              go_wp2
              go_ret
              exact ⟨rfl, HB.out⟩
          · have HN : Hid (decide (1 ≤ x.n ∧ x.n ≤ 1000000) = true) := Lib.hid (decide_eq_true (by omega))
            have g4 : decide (x.n ≤ y.n) = true := decide_eq_true (by omega)
            go_wp2
            obtain ⟨Y, hY⟩ : ∃ Y : World, Y = wr := ⟨_, rfl⟩
            rw [← hY] at x0 x1 y0
            rw [← hY]
            have HBY : Hid (Below w.heap.size w Y) := Lib.hid (hY ▸ HB.out)
            clear hY
            have Rx0 := cell_regrown x0
            have Rx1 := cell_regrown x1
            have Ry0 := cell_regrown y0
            have CN := fun (d : Nat) (os : Array Obj) => Calls.regrown_of (rNumber_q true x.n (grow (redrawn Y d) os) HN.out)
            refine wp_region_quiet_below (by kernel_rfl) (by kernel_rfl) ?_
            repeat (first | go_big_quiet_step (first | (with_reducible exact CN _ _)) | quiet_step (first | (with_reducible exact CN _ _)))
            refine wpQuiet_nil ?_
            intro _ hw'
            obtain ⟨⟨dq, osq⟩, hw''⟩ := hw'
            subst hw''
            obtain ⟨Y2, hY2⟩ : ∃ V, V = grow (redrawn Y dq) osq := ⟨_, rfl⟩
            have hbY2 : Below Y.heap.size Y Y2 := by rw [hY2]; exact below_regrown _ _ _
            rw [← hY2]
            clear hY2
            clear Rx0
            clear Rx1
            clear Ry0
            clear CN
            replace HB := Lib.hid (bt hbY2 HBY.out)
            clear hbY2 HBY x0 x1 y0
            go_wp2
            go_ret
            exact ⟨rfl, HB.out⟩
        · have HN : Hid (decide (1 ≤ x.n ∧ x.n ≤ 1000000) = false) := Lib.hid (decide_eq_false (by omega))
          go_wp2
          obtain ⟨Y, hY⟩ : ∃ Y : World, Y = wr := ⟨_, rfl⟩
          rw [← hY] at x0 x1 y0
          rw [← hY]
          have HBY : Hid (Below w.heap.size w Y) := Lib.hid (hY ▸ HB.out)
          clear hY
          have Rx0 := cell_regrown x0
          have Rx1 := cell_regrown x1
          have Ry0 := cell_regrown y0
          have CN := fun (d : Nat) (os : Array Obj) => Calls.regrown_of (rNumber_q false x.n (grow (redrawn Y d) os) HN.out)
          refine wp_region_quiet_below (by kernel_rfl) (by kernel_rfl) ?_
          repeat (first | go_big_quiet_step (first | (with_reducible exact CN _ _)) | quiet_step (first | (with_reducible exact CN _ _)))
          refine wpQuiet_nil ?_
          intro _ hw'
          obtain ⟨⟨dq, osq⟩, hw''⟩ := hw'
          subst hw''
          obtain ⟨Y2, hY2⟩ : ∃ V, V = grow (redrawn Y dq) osq := ⟨_, rfl⟩
          have hbY2 : Below Y.heap.size Y Y2 := by rw [hY2]; exact below_regrown _ _ _
          rw [← hY2]
          clear hY2
          clear Rx0
          clear Rx1
          clear Ry0
          clear CN
          replace HB := Lib.hid (bt hbY2 HBY.out)
          clear hbY2 HBY x0 x1 y0
          go_wp2
          go_ret
          exact ⟨rfl, HB.out⟩
      · have kz : ¬ (0 : Int) < (k : Int) := by omega
        have kz1 : decide ((0 : Int) < (k : Int)) = false := decide_eq_false kz
        have kz2 : decide (0 < k) = false := decide_eq_false hk0
        by_cases pn : 1 ≤ x.n ∧ x.n ≤ 1000000
        · by_cases p3 : 0 ≤ x.e ∧ x.e ≤ 1000000
          · have HN : Hid (decide (1 ≤ x.n ∧ x.n ≤ 1000000) = true) := Lib.hid (decide_eq_true (by omega))
            have HE1 : Hid (decide (0 ≤ x.e ∧ x.e ≤ 1000000) = true) := Lib.hid (decide_eq_true (by omega))
            have HG : Hid (∀ i, i < k + 1 → goodAt_Voids l i) := Lib.hid (fun i hi => by
              by_cases e : i = k
              · subst e
                refine fun h => ⟨?_, fun h0 => ?_⟩
                · rw [← HX.out]; exact ⟨by omega, by omega, by omega, by omega⟩
                · omega
              · exact HALL.out i (by omega))
            go_wp2
            obtain ⟨Y, hY⟩ : ∃ Y : World, Y = wr := ⟨_, rfl⟩
            rw [← hY] at x0 x1
            rw [← hY]
            have HBY : Hid (Below w.heap.size w Y) := Lib.hid (hY ▸ HB.out)
            clear hY
            have Rx0 := cell_regrown x0
            have Rx1 := cell_regrown x1
            have CN := fun (d : Nat) (os : Array Obj) => Calls.regrown_of (rNumber_q true x.n (grow (redrawn Y d) os) HN.out)
            have CE1 := fun (d : Nat) (os : Array Obj) => Calls.regrown_of (rEpoch_q true x.e (grow (redrawn Y d) os) HE1.out)
            refine wp_region_quiet_below (by kernel_rfl) (by kernel_rfl) ?_
            repeat (first | go_big_quiet_step (first | (with_reducible exact CN _ _) | (with_reducible exact CE1 _ _)) | quiet_step (first | (with_reducible exact CN _ _) | (with_reducible exact CE1 _ _)))
            refine wpQuiet_nil ?_
            intro _ hw'
            obtain ⟨⟨dq, osq⟩, hw''⟩ := hw'
            subst hw''
            obtain ⟨Y2, hY2⟩ : ∃ V, V = grow (redrawn Y dq) osq := ⟨_, rfl⟩
            have hbY2 : Below Y.heap.size Y Y2 := by rw [hY2]; exact below_regrown _ _ _
            rw [← hY2]
            clear hY2
            clear Rx0
            clear Rx1
            clear CN
            clear CE1
            replace HB := Lib.hid (bt hbY2 HBY.out)
            clear hbY2 HBY x0 x1
            go_wp2
            go_roundw
            case rel => exact ⟨k + 1, by go_num, by omega, HG.out, HB.out⟩
            case measure => simp [intOf]; omega
          · have HN : Hid (decide (1 ≤ x.n ∧ x.n ≤ 1000000) = true) := Lib.hid (decide_eq_true (by omega))
            have HE1 : Hid (decide (0 ≤ x.e ∧ x.e ≤ 1000000) = false) := Lib.hid (decide_eq_false (by omega))
            go_wp2
            obtain ⟨Y, hY⟩ : ∃ Y : World, Y = wr := ⟨_, rfl⟩
            rw [← hY] at x0 x1
            rw [← hY]
            have HBY : Hid (Below w.heap.size w Y) := Lib.hid (hY ▸ HB.out)
            clear hY
            have Rx0 := cell_regrown x0
            have Rx1 := cell_regrown x1
            have CN := fun (d : Nat) (os : Array Obj) => Calls.regrown_of (rNumber_q true x.n (grow (redrawn Y d) os) HN.out)
            have CE1 := fun (d : Nat) (os : Array Obj) => Calls.regrown_of (rEpoch_q false x.e (grow (redrawn Y d) os) HE1.out)
            refine wp_region_quiet_below (by kernel_rfl) (by kernel_rfl) ?_
            repeat (first | go_big_quiet_step (first | (with_reducible exact CN _ _) | (with_reducible exact CE1 _ _)) | quiet_step (first | (with_reducible exact CN _ _) | (with_reducible exact CE1 _ _)))
            refine wpQuiet_nil ?_
            intro _ hw'
            obtain ⟨⟨dq, osq⟩, hw''⟩ := hw'
            subst hw''
            obtain ⟨Y2, hY2⟩ : ∃ V, V = grow (redrawn Y dq) osq := ⟨_, rfl⟩
            have hbY2 : Below Y.heap.size Y Y2 := by rw [hY2]; exact below_regrown _ _ _
            rw [← hY2]
            clear hY2
            clear Rx0
            clear Rx1
            clear CN
            clear CE1
            replace HB := Lib.hid (bt hbY2 HBY.out)
            clear hbY2 HBY x0 x1
            go_wp2
            go_ret
            exact ⟨rfl, HB.out⟩
        · have HN : Hid (decide (1 ≤ x.n ∧ x.n ≤ 1000000) = false) := Lib.hid (decide_eq_false (by omega))
          go_wp2
          obtain ⟨Y, hY⟩ : ∃ Y : World, Y = wr := ⟨_, rfl⟩
          rw [← hY] at x0 x1
          rw [← hY]
          have HBY : Hid (Below w.heap.size w Y) := Lib.hid (hY ▸ HB.out)
          clear hY
          have Rx0 := cell_regrown x0
          have Rx1 := cell_regrown x1
          have CN := fun (d : Nat) (os : Array Obj) => Calls.regrown_of (rNumber_q false x.n (grow (redrawn Y d) os) HN.out)
          refine wp_region_quiet_below (by kernel_rfl) (by kernel_rfl) ?_
          repeat (first | go_big_quiet_step (first | (with_reducible exact CN _ _)) | quiet_step (first | (with_reducible exact CN _ _)))
          refine wpQuiet_nil ?_
          intro _ hw'
          obtain ⟨⟨dq, osq⟩, hw''⟩ := hw'
          subst hw''
          obtain ⟨Y2, hY2⟩ : ∃ V, V = grow (redrawn Y dq) osq := ⟨_, rfl⟩
          have hbY2 : Below Y.heap.size Y Y2 := by rw [hY2]; exact below_regrown _ _ _
          rw [← hY2]
          clear hY2
          clear Rx0
          clear Rx1
          clear CN
          replace HB := Lib.hid (bt hbY2 HBY.out)
          clear hbY2 HBY x0 x1
          go_wp2
          go_ret
          exact ⟨rfl, HB.out⟩
    · obtain rfl : k = l.length := by omega
      have q9 : decide ((l.length : Int) ≤ 64) = false := decide_eq_false (fun h9 => HV.out (good_Voids (by omega) HALL.out))
      go_wp2
      go_ret
      exact ⟨rfl, HB.out⟩
def goodAt_Valid (l : List Cd) (i : Nat) : Prop := ∀ h : i < l.length, cOne l[i] ∧ (0 < i → Cd.n (l[i - 1]'(by omega)) < Cd.n l[i])
theorem good_Valid {l : List Cd} (hl : l.length ≤ 64) (h : ∀ i, i < l.length → goodAt_Valid l i) : COk l :=
  ⟨hl, fun i hi => (h i hi hi).1, fun i hi => (h (i + 1) hi hi).2 (by omega)⟩
theorem good_of_Valid {l : List Cd} (h : COk l) (i : Nat) : goodAt_Valid l i := fun hi => ⟨h.each i hi, fun h0 => h.lt i (i - 1) hi (by omega)⟩
set_option maxHeartbeats 4000000 in
theorem rValid_yes (l : List Cd) (A : Option Addr) (c : Nat) (w : World) (h : COk l) (hn : l.length ≤ 1000000000) (hA : RdC w w.heap.size A l) :
    Calls Try.prog 6 #[.slice A l.length c] w fun e w' => e = .returned (.bool true) ∧ Below w.heap.size w w' := by
  have HA := Lib.hid hA
  have HV := Lib.hid h
  have h64 := h.len
  clear hA h
  go_enter Try.func6, Try.ntmps6
  go_wp2
  go_loopw [3] (fun i wr => ∃ k : Nat, i = .int .i64 (k : Int) ∧ k ≤ l.length ∧ Below w.heap.size w wr) (fun i _ => l.length - (intOf i).toNat)
  case atStart => exact ⟨0, rfl, Nat.zero_le _, Below.refl _ _⟩
  case round =>
    obtain ⟨k, rfl, hk, hb⟩ := hrel
    have HB := Lib.hid hb
    clear hb
    by_cases hlt : k < l.length
    · obtain ⟨b, o, rfl, hbb, x0, x1, x2, x3⟩ := rdC_at (RdX.next HA.out HB.out) hlt
      obtain ⟨x, hx⟩ : ∃ x, x = l[k] := ⟨_, rfl⟩
      rw [← hx] at x0 x1 x2 x3
      have HX := Lib.hid hx
      have k1 : (0 : Int) ≤ (k : Int) := by omega
      have k2 : (k : Int) < (l.length : Int) := by omega
      clear hx
      by_cases hk0 : 0 < k
      · obtain ⟨b9, o9, e9, hb9, y0, z1, z2, z3⟩ := rdC_at (RdX.next HA.out HB.out) (i := k - 1) (by omega)
        obtain ⟨rfl, rfl⟩ : b = b9 ∧ o = o9 := by simpa using e9
        obtain ⟨y, hy⟩ : ∃ y, y = l[k - 1]'(by omega) := ⟨_, rfl⟩
        rw [← hy] at y0
        have HY := Lib.hid hy
        obtain ⟨j, hj⟩ : ∃ j, j = k - 1 := ⟨_, rfl⟩
        rw [← hj] at y0
        have j1 : (k : Int) - 1 = (j : Int) := by omega
        have j2 : IntKind.i64.wrap ((k : Int) - 1) = (j : Int) := by rw [IntWalk.i64_in _ (by omega)]; omega
        have j3 : (0 : Int) ≤ (j : Int) := by omega
        have j4 : (j : Int) < (l.length : Int) := by omega
        clear e9 hb9 hy hj z1 z2 z3
        have kk : (0 : Int) < (k : Int) := by omega
        have hg : goodAt_Valid l k := good_of_Valid HV.out k
        obtain ⟨g1, g2⟩ := hg hlt
        rw [← HX.out] at g1 g2
        rw [← HY.out] at g2
        have g3 : y.n < x.n := g2 (by omega)
        clear g2
        unfold cOne at g1
        obtain ⟨q0, q1, q2, q3, q4, q5, q6, q7, q8⟩ := g1
        have HN : Hid (decide (1 ≤ x.n ∧ x.n ≤ 1000000) = true) := Lib.hid (decide_eq_true (by omega))
        have HE1 : Hid (decide (0 ≤ x.f ∧ x.f ≤ 1000000) = true) := Lib.hid (decide_eq_true (by omega))
        have HE2 : Hid (decide (0 ≤ x.l ∧ x.l ≤ 1000000) = true) := Lib.hid (decide_eq_true (by omega))
        have g4 : decide (x.n ≤ y.n) = false := decide_eq_false (by omega)
        have w1 : decide (x.k < 0) = false := decide_eq_false (by omega)
        have w2 : decide (32 ≤ x.k) = false := decide_eq_false (by omega)
        have w3 : decide (x.l < x.f) = false := decide_eq_false (by omega)
        go_wp2_with fail
        obtain ⟨Y, hY⟩ : ∃ Zz, Zz = wr.alloc (.cells #[.int .i64 x.n, .int .i64 x.k, .int .i64 x.f, .int .i64 x.l] 44) := ⟨_, rfl⟩
        have hbY : Below wr.heap.size wr Y := by rw [hY]; exact al1 _ _
        have kx : Bk Y wr.heap.size 44 #[.int .i64 x.n, .int .i64 x.k, .int .i64 x.f, .int .i64 x.l] := by rw [hY]; exact Bk.new _ _ _
        rw [← hY]
        clear hY
        replace HB := Lib.hid (bt hbY HB.out)
        obtain ⟨gx, hgx⟩ : ∃ g, g = wr.heap.size := ⟨_, rfl⟩
        rw [← hgx] at kx ⊢
        obtain ⟨c0, c1, c2, c3⟩ := box4 kx
        have lkx := kx.lt
        replace y0 := (hbY.cell (p := ⟨b, o + j * 4, none⟩) hbb).trans y0
        clear hbY x0 x1 x2 x3 hgx
        have Rc0 := cell_regrown c0
        have Rc1 := cell_regrown c1
        have Rc2 := cell_regrown c2
        have Rc3 := cell_regrown c3
        have Ry0 := cell_regrown y0
        have CN := fun (d : Nat) (os : Array Obj) => Calls.regrown_of (rNumber_q true x.n (grow (redrawn Y d) os) HN.out)
        have CE1 := fun (d : Nat) (os : Array Obj) => Calls.regrown_of (rEpoch_q true x.f (grow (redrawn Y d) os) HE1.out)
        have CE2 := fun (d : Nat) (os : Array Obj) => Calls.regrown_of (rEpoch_q true x.l (grow (redrawn Y d) os) HE2.out)
        refine wp_region_quiet_below (by kernel_rfl) (by kernel_rfl) ?_
        repeat (first | go_big_quiet_step (first | (with_reducible exact CN _ _) | (with_reducible exact CE1 _ _) | (with_reducible exact CE2 _ _)) | quiet_step (first | (with_reducible exact CN _ _) | (with_reducible exact CE1 _ _) | (with_reducible exact CE2 _ _)))
        refine wpQuiet_nil ?_
        intro _ hw'
        obtain ⟨⟨dq, osq⟩, hw''⟩ := hw'
        subst hw''
        obtain ⟨Y2, hY2⟩ : ∃ V, V = grow (redrawn Y dq) osq := ⟨_, rfl⟩
        have hbY2 : Below Y.heap.size Y Y2 := by rw [hY2]; exact below_regrown _ _ _
        rw [← hY2]
        clear hY2
        clear Rc0
        clear Rc1
        clear Rc2
        clear Rc3
        clear Ry0
        clear CN
        clear CE1
        clear CE2
        replace HB := Lib.hid (bt hbY2 HB.out)
        clear hbY2 c0 c1 c2 c3 y0 kx lkx
        go_wp2
        go_roundw
        case rel => exact ⟨k + 1, by go_num, by omega, HB.out⟩
        case measure => simp [intOf]; omega
      · have kz : ¬ (0 : Int) < (k : Int) := by omega
        have kz1 : decide ((0 : Int) < (k : Int)) = false := decide_eq_false kz
        have kz2 : decide (0 < k) = false := decide_eq_false hk0
        have hg : goodAt_Valid l k := good_of_Valid HV.out k
        obtain ⟨g1, g2⟩ := hg hlt
        rw [← HX.out] at g1 g2
        clear g2
        unfold cOne at g1
        obtain ⟨q0, q1, q2, q3, q4, q5, q6, q7, q8⟩ := g1
        have HN : Hid (decide (1 ≤ x.n ∧ x.n ≤ 1000000) = true) := Lib.hid (decide_eq_true (by omega))
        have HE1 : Hid (decide (0 ≤ x.f ∧ x.f ≤ 1000000) = true) := Lib.hid (decide_eq_true (by omega))
        have HE2 : Hid (decide (0 ≤ x.l ∧ x.l ≤ 1000000) = true) := Lib.hid (decide_eq_true (by omega))
        have w1 : decide (x.k < 0) = false := decide_eq_false (by omega)
        have w2 : decide (32 ≤ x.k) = false := decide_eq_false (by omega)
        have w3 : decide (x.l < x.f) = false := decide_eq_false (by omega)
        go_wp2_with fail
        obtain ⟨Y, hY⟩ : ∃ Zz, Zz = wr.alloc (.cells #[.int .i64 x.n, .int .i64 x.k, .int .i64 x.f, .int .i64 x.l] 44) := ⟨_, rfl⟩
        have hbY : Below wr.heap.size wr Y := by rw [hY]; exact al1 _ _
        have kx : Bk Y wr.heap.size 44 #[.int .i64 x.n, .int .i64 x.k, .int .i64 x.f, .int .i64 x.l] := by rw [hY]; exact Bk.new _ _ _
        rw [← hY]
        clear hY
        replace HB := Lib.hid (bt hbY HB.out)
        obtain ⟨gx, hgx⟩ : ∃ g, g = wr.heap.size := ⟨_, rfl⟩
        rw [← hgx] at kx ⊢
        obtain ⟨c0, c1, c2, c3⟩ := box4 kx
        have lkx := kx.lt
        clear hbY x0 x1 x2 x3 hgx
        have Rc0 := cell_regrown c0
        have Rc1 := cell_regrown c1
        have Rc2 := cell_regrown c2
        have Rc3 := cell_regrown c3
        have CN := fun (d : Nat) (os : Array Obj) => Calls.regrown_of (rNumber_q true x.n (grow (redrawn Y d) os) HN.out)
        have CE1 := fun (d : Nat) (os : Array Obj) => Calls.regrown_of (rEpoch_q true x.f (grow (redrawn Y d) os) HE1.out)
        have CE2 := fun (d : Nat) (os : Array Obj) => Calls.regrown_of (rEpoch_q true x.l (grow (redrawn Y d) os) HE2.out)
        refine wp_region_quiet_below (by kernel_rfl) (by kernel_rfl) ?_
        repeat (first | go_big_quiet_step (first | (with_reducible exact CN _ _) | (with_reducible exact CE1 _ _) | (with_reducible exact CE2 _ _)) | quiet_step (first | (with_reducible exact CN _ _) | (with_reducible exact CE1 _ _) | (with_reducible exact CE2 _ _)))
        refine wpQuiet_nil ?_
        intro _ hw'
        obtain ⟨⟨dq, osq⟩, hw''⟩ := hw'
        subst hw''
        obtain ⟨Y2, hY2⟩ : ∃ V, V = grow (redrawn Y dq) osq := ⟨_, rfl⟩
        have hbY2 : Below Y.heap.size Y Y2 := by rw [hY2]; exact below_regrown _ _ _
        rw [← hY2]
        clear hY2
        clear Rc0
        clear Rc1
        clear Rc2
        clear Rc3
        clear CN
        clear CE1
        clear CE2
        replace HB := Lib.hid (bt hbY2 HB.out)
        clear hbY2 c0 c1 c2 c3 kx lkx
        go_wp2
        go_roundw
        case rel => exact ⟨k + 1, by go_num, by omega, HB.out⟩
        case measure => simp [intOf]; omega
    · obtain rfl : k = l.length := by omega
      have q9 : (l.length : Int) ≤ 64 := by omega
      go_wp2
      go_ret
      exact ⟨rfl, HB.out⟩
set_option maxHeartbeats 4000000 in
theorem rValid_no (l : List Cd) (A : Option Addr) (c : Nat) (w : World) (h : ¬ COk l) (hn : l.length ≤ 1000000000) (hA : RdC w w.heap.size A l) :
    Calls Try.prog 6 #[.slice A l.length c] w fun e w' => e = .returned (.bool false) ∧ Below w.heap.size w w' := by
  have HA := Lib.hid hA
  have HV := Lib.hid h
  clear hA h
  go_enter Try.func6, Try.ntmps6
  go_wp2
  go_loopw [3] (fun i wr => ∃ k : Nat, i = .int .i64 (k : Int) ∧ k ≤ l.length ∧ (∀ i, i < k → goodAt_Valid l i) ∧ Below w.heap.size w wr) (fun i _ => l.length - (intOf i).toNat)
  case atStart => exact ⟨0, rfl, Nat.zero_le _, (fun i h => by omega), Below.refl _ _⟩
  case round =>
    obtain ⟨k, rfl, hk, hall, hb⟩ := hrel
    have HB := Lib.hid hb
    clear hb
    have HALL := Lib.hid hall
    clear hall
    by_cases hlt : k < l.length
    · obtain ⟨b, o, rfl, hbb, x0, x1, x2, x3⟩ := rdC_at (RdX.next HA.out HB.out) hlt
      obtain ⟨x, hx⟩ : ∃ x, x = l[k] := ⟨_, rfl⟩
      rw [← hx] at x0 x1 x2 x3
      have HX := Lib.hid hx
      have k1 : (0 : Int) ≤ (k : Int) := by omega
      have k2 : (k : Int) < (l.length : Int) := by omega
      clear hx
      by_cases hk0 : 0 < k
      · obtain ⟨b9, o9, e9, hb9, y0, z1, z2, z3⟩ := rdC_at (RdX.next HA.out HB.out) (i := k - 1) (by omega)
        obtain ⟨rfl, rfl⟩ : b = b9 ∧ o = o9 := by simpa using e9
        obtain ⟨y, hy⟩ : ∃ y, y = l[k - 1]'(by omega) := ⟨_, rfl⟩
        rw [← hy] at y0
        have HY := Lib.hid hy
        obtain ⟨j, hj⟩ : ∃ j, j = k - 1 := ⟨_, rfl⟩
        rw [← hj] at y0
        have j1 : (k : Int) - 1 = (j : Int) := by omega
        have j2 : IntKind.i64.wrap ((k : Int) - 1) = (j : Int) := by rw [IntWalk.i64_in _ (by omega)]; omega
        have j3 : (0 : Int) ≤ (j : Int) := by omega
        have j4 : (j : Int) < (l.length : Int) := by omega
        clear e9 hb9 hy hj z1 z2 z3
        have kk : (0 : Int) < (k : Int) := by omega
        by_cases pn : 1 ≤ x.n ∧ x.n ≤ 1000000
        · by_cases p0 : y.n < x.n
          · by_cases p1 : 0 ≤ x.k
            · by_cases p2 : x.k < 32
              · by_cases p3 : 0 ≤ x.f ∧ x.f ≤ 1000000
                · by_cases p4 : 0 ≤ x.l ∧ x.l ≤ 1000000
                  · by_cases p5 : x.f ≤ x.l
                    · have HN : Hid (decide (1 ≤ x.n ∧ x.n ≤ 1000000) = true) := Lib.hid (decide_eq_true (by omega))
                      have HE1 : Hid (decide (0 ≤ x.f ∧ x.f ≤ 1000000) = true) := Lib.hid (decide_eq_true (by omega))
                      have HE2 : Hid (decide (0 ≤ x.l ∧ x.l ≤ 1000000) = true) := Lib.hid (decide_eq_true (by omega))
                      have g4 : decide (x.n ≤ y.n) = false := decide_eq_false (by omega)
                      have w1 : decide (x.k < 0) = false := decide_eq_false (by omega)
                      have w2 : decide (32 ≤ x.k) = false := decide_eq_false (by omega)
                      have w3 : decide (x.l < x.f) = false := decide_eq_false (by omega)
                      have HG : Hid (∀ i, i < k + 1 → goodAt_Valid l i) := Lib.hid (fun i hi => by
                        by_cases e : i = k
                        · subst e
                          refine fun h => ⟨?_, fun h0 => ?_⟩
                          · rw [← HX.out]; exact ⟨by omega, by omega, by omega, by omega, by omega, by omega, by omega, by omega, by omega⟩
                          · rw [← HX.out, ← HY.out]; omega
                        · exact HALL.out i (by omega))
                      go_wp2_with fail
                      obtain ⟨Y, hY⟩ : ∃ Zz, Zz = wr.alloc (.cells #[.int .i64 x.n, .int .i64 x.k, .int .i64 x.f, .int .i64 x.l] 44) := ⟨_, rfl⟩
                      have hbY : Below wr.heap.size wr Y := by rw [hY]; exact al1 _ _
                      have kx : Bk Y wr.heap.size 44 #[.int .i64 x.n, .int .i64 x.k, .int .i64 x.f, .int .i64 x.l] := by rw [hY]; exact Bk.new _ _ _
                      rw [← hY]
                      clear hY
                      replace HB := Lib.hid (bt hbY HB.out)
                      obtain ⟨gx, hgx⟩ : ∃ g, g = wr.heap.size := ⟨_, rfl⟩
                      rw [← hgx] at kx ⊢
                      obtain ⟨c0, c1, c2, c3⟩ := box4 kx
                      have lkx := kx.lt
                      replace y0 := (hbY.cell (p := ⟨b, o + j * 4, none⟩) hbb).trans y0
                      clear hbY x0 x1 x2 x3 hgx
                      have Rc0 := cell_regrown c0
                      have Rc1 := cell_regrown c1
                      have Rc2 := cell_regrown c2
                      have Rc3 := cell_regrown c3
                      have Ry0 := cell_regrown y0
                      have CN := fun (d : Nat) (os : Array Obj) => Calls.regrown_of (rNumber_q true x.n (grow (redrawn Y d) os) HN.out)
                      have CE1 := fun (d : Nat) (os : Array Obj) => Calls.regrown_of (rEpoch_q true x.f (grow (redrawn Y d) os) HE1.out)
                      have CE2 := fun (d : Nat) (os : Array Obj) => Calls.regrown_of (rEpoch_q true x.l (grow (redrawn Y d) os) HE2.out)
                      refine wp_region_quiet_below (by kernel_rfl) (by kernel_rfl) ?_
                      repeat (first | go_big_quiet_step (first | (with_reducible exact CN _ _) | (with_reducible exact CE1 _ _) | (with_reducible exact CE2 _ _)) | quiet_step (first | (with_reducible exact CN _ _) | (with_reducible exact CE1 _ _) | (with_reducible exact CE2 _ _)))
                      refine wpQuiet_nil ?_
                      intro _ hw'
                      obtain ⟨⟨dq, osq⟩, hw''⟩ := hw'
                      subst hw''
                      obtain ⟨Y2, hY2⟩ : ∃ V, V = grow (redrawn Y dq) osq := ⟨_, rfl⟩
                      have hbY2 : Below Y.heap.size Y Y2 := by rw [hY2]; exact below_regrown _ _ _
                      rw [← hY2]
                      clear hY2
                      clear Rc0
                      clear Rc1
                      clear Rc2
                      clear Rc3
                      clear Ry0
                      clear CN
                      clear CE1
                      clear CE2
                      replace HB := Lib.hid (bt hbY2 HB.out)
                      clear hbY2 c0 c1 c2 c3 y0 kx lkx
                      go_wp2
                      go_roundw
                      case rel => exact ⟨k + 1, by go_num, by omega, HG.out, HB.out⟩
                      case measure => simp [intOf]; omega
                    · have HN : Hid (decide (1 ≤ x.n ∧ x.n ≤ 1000000) = true) := Lib.hid (decide_eq_true (by omega))
                      have g4 : decide (x.n ≤ y.n) = false := decide_eq_false (by omega)
                      have HE1 : Hid (decide (0 ≤ x.f ∧ x.f ≤ 1000000) = true) := Lib.hid (decide_eq_true (by omega))
                      have HE2 : Hid (decide (0 ≤ x.l ∧ x.l ≤ 1000000) = true) := Lib.hid (decide_eq_true (by omega))
                      have w1 : decide (x.k < 0) = false := decide_eq_false (by omega)
                      have w2 : decide (32 ≤ x.k) = false := decide_eq_false (by omega)
                      have w3 : decide (x.l < x.f) = true := decide_eq_true (by omega)
                      go_wp2_with fail
                      obtain ⟨Y, hY⟩ : ∃ Zz, Zz = wr.alloc (.cells #[.int .i64 x.n, .int .i64 x.k, .int .i64 x.f, .int .i64 x.l] 44) := ⟨_, rfl⟩
                      have hbY : Below wr.heap.size wr Y := by rw [hY]; exact al1 _ _
                      have kx : Bk Y wr.heap.size 44 #[.int .i64 x.n, .int .i64 x.k, .int .i64 x.f, .int .i64 x.l] := by rw [hY]; exact Bk.new _ _ _
                      rw [← hY]
                      clear hY
                      replace HB := Lib.hid (bt hbY HB.out)
                      obtain ⟨gx, hgx⟩ : ∃ g, g = wr.heap.size := ⟨_, rfl⟩
                      rw [← hgx] at kx ⊢
                      obtain ⟨c0, c1, c2, c3⟩ := box4 kx
                      have lkx := kx.lt
                      replace y0 := (hbY.cell (p := ⟨b, o + j * 4, none⟩) hbb).trans y0
                      clear hbY x0 x1 x2 x3 hgx
                      have Rc0 := cell_regrown c0
                      have Rc1 := cell_regrown c1
                      have Rc2 := cell_regrown c2
                      have Rc3 := cell_regrown c3
                      have Ry0 := cell_regrown y0
                      have CN := fun (d : Nat) (os : Array Obj) => Calls.regrown_of (rNumber_q true x.n (grow (redrawn Y d) os) HN.out)
                      have CE1 := fun (d : Nat) (os : Array Obj) => Calls.regrown_of (rEpoch_q true x.f (grow (redrawn Y d) os) HE1.out)
                      have CE2 := fun (d : Nat) (os : Array Obj) => Calls.regrown_of (rEpoch_q true x.l (grow (redrawn Y d) os) HE2.out)
                      refine wp_region_quiet_below (by kernel_rfl) (by kernel_rfl) ?_
                      repeat (first | go_big_quiet_step (first | (with_reducible exact CN _ _) | (with_reducible exact CE1 _ _) | (with_reducible exact CE2 _ _)) | quiet_step (first | (with_reducible exact CN _ _) | (with_reducible exact CE1 _ _) | (with_reducible exact CE2 _ _)))
                      refine wpQuiet_nil ?_
                      intro _ hw'
                      obtain ⟨⟨dq, osq⟩, hw''⟩ := hw'
                      subst hw''
                      obtain ⟨Y2, hY2⟩ : ∃ V, V = grow (redrawn Y dq) osq := ⟨_, rfl⟩
                      have hbY2 : Below Y.heap.size Y Y2 := by rw [hY2]; exact below_regrown _ _ _
                      rw [← hY2]
                      clear hY2
                      clear Rc0
                      clear Rc1
                      clear Rc2
                      clear Rc3
                      clear Ry0
                      clear CN
                      clear CE1
                      clear CE2
                      replace HB := Lib.hid (bt hbY2 HB.out)
                      clear hbY2 c0 c1 c2 c3 y0 kx lkx
                      go_wp2
                      go_ret
                      exact ⟨rfl, HB.out⟩
                  · have HN : Hid (decide (1 ≤ x.n ∧ x.n ≤ 1000000) = true) := Lib.hid (decide_eq_true (by omega))
                    have g4 : decide (x.n ≤ y.n) = false := decide_eq_false (by omega)
                    have HE1 : Hid (decide (0 ≤ x.f ∧ x.f ≤ 1000000) = true) := Lib.hid (decide_eq_true (by omega))
                    have HE2 : Hid (decide (0 ≤ x.l ∧ x.l ≤ 1000000) = false) := Lib.hid (decide_eq_false (by omega))
                    have w1 : decide (x.k < 0) = false := decide_eq_false (by omega)
                    have w2 : decide (32 ≤ x.k) = false := decide_eq_false (by omega)
                    go_wp2_with fail
                    obtain ⟨Y, hY⟩ : ∃ Zz, Zz = wr.alloc (.cells #[.int .i64 x.n, .int .i64 x.k, .int .i64 x.f, .int .i64 x.l] 44) := ⟨_, rfl⟩
                    have hbY : Below wr.heap.size wr Y := by rw [hY]; exact al1 _ _
                    have kx : Bk Y wr.heap.size 44 #[.int .i64 x.n, .int .i64 x.k, .int .i64 x.f, .int .i64 x.l] := by rw [hY]; exact Bk.new _ _ _
                    rw [← hY]
                    clear hY
                    replace HB := Lib.hid (bt hbY HB.out)
                    obtain ⟨gx, hgx⟩ : ∃ g, g = wr.heap.size := ⟨_, rfl⟩
                    rw [← hgx] at kx ⊢
                    obtain ⟨c0, c1, c2, c3⟩ := box4 kx
                    have lkx := kx.lt
                    replace y0 := (hbY.cell (p := ⟨b, o + j * 4, none⟩) hbb).trans y0
                    clear hbY x0 x1 x2 x3 hgx
                    have Rc0 := cell_regrown c0
                    have Rc1 := cell_regrown c1
                    have Rc2 := cell_regrown c2
                    have Rc3 := cell_regrown c3
                    have Ry0 := cell_regrown y0
                    have CN := fun (d : Nat) (os : Array Obj) => Calls.regrown_of (rNumber_q true x.n (grow (redrawn Y d) os) HN.out)
                    have CE1 := fun (d : Nat) (os : Array Obj) => Calls.regrown_of (rEpoch_q true x.f (grow (redrawn Y d) os) HE1.out)
                    have CE2 := fun (d : Nat) (os : Array Obj) => Calls.regrown_of (rEpoch_q false x.l (grow (redrawn Y d) os) HE2.out)
                    refine wp_region_quiet_below (by kernel_rfl) (by kernel_rfl) ?_
                    repeat (first | go_big_quiet_step (first | (with_reducible exact CN _ _) | (with_reducible exact CE1 _ _) | (with_reducible exact CE2 _ _)) | quiet_step (first | (with_reducible exact CN _ _) | (with_reducible exact CE1 _ _) | (with_reducible exact CE2 _ _)))
                    refine wpQuiet_nil ?_
                    intro _ hw'
                    obtain ⟨⟨dq, osq⟩, hw''⟩ := hw'
                    subst hw''
                    obtain ⟨Y2, hY2⟩ : ∃ V, V = grow (redrawn Y dq) osq := ⟨_, rfl⟩
                    have hbY2 : Below Y.heap.size Y Y2 := by rw [hY2]; exact below_regrown _ _ _
                    rw [← hY2]
                    clear hY2
                    clear Rc0
                    clear Rc1
                    clear Rc2
                    clear Rc3
                    clear Ry0
                    clear CN
                    clear CE1
                    clear CE2
                    replace HB := Lib.hid (bt hbY2 HB.out)
                    clear hbY2 c0 c1 c2 c3 y0 kx lkx
                    go_wp2
                    go_ret
                    exact ⟨rfl, HB.out⟩
                · have HN : Hid (decide (1 ≤ x.n ∧ x.n ≤ 1000000) = true) := Lib.hid (decide_eq_true (by omega))
                  have g4 : decide (x.n ≤ y.n) = false := decide_eq_false (by omega)
                  have HE1 : Hid (decide (0 ≤ x.f ∧ x.f ≤ 1000000) = false) := Lib.hid (decide_eq_false (by omega))
                  have w1 : decide (x.k < 0) = false := decide_eq_false (by omega)
                  have w2 : decide (32 ≤ x.k) = false := decide_eq_false (by omega)
                  go_wp2_with fail
                  obtain ⟨Y, hY⟩ : ∃ Zz, Zz = wr.alloc (.cells #[.int .i64 x.n, .int .i64 x.k, .int .i64 x.f, .int .i64 x.l] 44) := ⟨_, rfl⟩
                  have hbY : Below wr.heap.size wr Y := by rw [hY]; exact al1 _ _
                  have kx : Bk Y wr.heap.size 44 #[.int .i64 x.n, .int .i64 x.k, .int .i64 x.f, .int .i64 x.l] := by rw [hY]; exact Bk.new _ _ _
                  rw [← hY]
                  clear hY
                  replace HB := Lib.hid (bt hbY HB.out)
                  obtain ⟨gx, hgx⟩ : ∃ g, g = wr.heap.size := ⟨_, rfl⟩
                  rw [← hgx] at kx ⊢
                  obtain ⟨c0, c1, c2, c3⟩ := box4 kx
                  have lkx := kx.lt
                  replace y0 := (hbY.cell (p := ⟨b, o + j * 4, none⟩) hbb).trans y0
                  clear hbY x0 x1 x2 x3 hgx
                  have Rc0 := cell_regrown c0
                  have Rc1 := cell_regrown c1
                  have Rc2 := cell_regrown c2
                  have Rc3 := cell_regrown c3
                  have Ry0 := cell_regrown y0
                  have CN := fun (d : Nat) (os : Array Obj) => Calls.regrown_of (rNumber_q true x.n (grow (redrawn Y d) os) HN.out)
                  have CE1 := fun (d : Nat) (os : Array Obj) => Calls.regrown_of (rEpoch_q false x.f (grow (redrawn Y d) os) HE1.out)
                  refine wp_region_quiet_below (by kernel_rfl) (by kernel_rfl) ?_
                  repeat (first | go_big_quiet_step (first | (with_reducible exact CN _ _) | (with_reducible exact CE1 _ _)) | quiet_step (first | (with_reducible exact CN _ _) | (with_reducible exact CE1 _ _)))
                  refine wpQuiet_nil ?_
                  intro _ hw'
                  obtain ⟨⟨dq, osq⟩, hw''⟩ := hw'
                  subst hw''
                  obtain ⟨Y2, hY2⟩ : ∃ V, V = grow (redrawn Y dq) osq := ⟨_, rfl⟩
                  have hbY2 : Below Y.heap.size Y Y2 := by rw [hY2]; exact below_regrown _ _ _
                  rw [← hY2]
                  clear hY2
                  clear Rc0
                  clear Rc1
                  clear Rc2
                  clear Rc3
                  clear Ry0
                  clear CN
                  clear CE1
                  replace HB := Lib.hid (bt hbY2 HB.out)
                  clear hbY2 c0 c1 c2 c3 y0 kx lkx
                  go_wp2
                  go_ret
                  exact ⟨rfl, HB.out⟩
              · have HN : Hid (decide (1 ≤ x.n ∧ x.n ≤ 1000000) = true) := Lib.hid (decide_eq_true (by omega))
                have g4 : decide (x.n ≤ y.n) = false := decide_eq_false (by omega)
                have w1 : decide (x.k < 0) = false := decide_eq_false (by omega)
                have w2 : decide (32 ≤ x.k) = true := decide_eq_true (by omega)
                go_wp2_with fail
                obtain ⟨Y, hY⟩ : ∃ Zz, Zz = wr.alloc (.cells #[.int .i64 x.n, .int .i64 x.k, .int .i64 x.f, .int .i64 x.l] 44) := ⟨_, rfl⟩
                have hbY : Below wr.heap.size wr Y := by rw [hY]; exact al1 _ _
                have kx : Bk Y wr.heap.size 44 #[.int .i64 x.n, .int .i64 x.k, .int .i64 x.f, .int .i64 x.l] := by rw [hY]; exact Bk.new _ _ _
                rw [← hY]
                clear hY
                replace HB := Lib.hid (bt hbY HB.out)
                obtain ⟨gx, hgx⟩ : ∃ g, g = wr.heap.size := ⟨_, rfl⟩
                rw [← hgx] at kx ⊢
                obtain ⟨c0, c1, c2, c3⟩ := box4 kx
                have lkx := kx.lt
                replace y0 := (hbY.cell (p := ⟨b, o + j * 4, none⟩) hbb).trans y0
                clear hbY x0 x1 x2 x3 hgx
                have Rc0 := cell_regrown c0
                have Rc1 := cell_regrown c1
                have Rc2 := cell_regrown c2
                have Rc3 := cell_regrown c3
                have Ry0 := cell_regrown y0
                have CN := fun (d : Nat) (os : Array Obj) => Calls.regrown_of (rNumber_q true x.n (grow (redrawn Y d) os) HN.out)
                refine wp_region_quiet_below (by kernel_rfl) (by kernel_rfl) ?_
                repeat (first | go_big_quiet_step (first | (with_reducible exact CN _ _)) | quiet_step (first | (with_reducible exact CN _ _)))
                refine wpQuiet_nil ?_
                intro _ hw'
                obtain ⟨⟨dq, osq⟩, hw''⟩ := hw'
                subst hw''
                obtain ⟨Y2, hY2⟩ : ∃ V, V = grow (redrawn Y dq) osq := ⟨_, rfl⟩
                have hbY2 : Below Y.heap.size Y Y2 := by rw [hY2]; exact below_regrown _ _ _
                rw [← hY2]
                clear hY2
                clear Rc0
                clear Rc1
                clear Rc2
                clear Rc3
                clear Ry0
                clear CN
                replace HB := Lib.hid (bt hbY2 HB.out)
                clear hbY2 c0 c1 c2 c3 y0 kx lkx
                go_wp2
                go_ret
                exact ⟨rfl, HB.out⟩
            · have HN : Hid (decide (1 ≤ x.n ∧ x.n ≤ 1000000) = true) := Lib.hid (decide_eq_true (by omega))
              have g4 : decide (x.n ≤ y.n) = false := decide_eq_false (by omega)
              have w1 : decide (x.k < 0) = true := decide_eq_true (by omega)
              go_wp2_with fail
              obtain ⟨Y, hY⟩ : ∃ Zz, Zz = wr.alloc (.cells #[.int .i64 x.n, .int .i64 x.k, .int .i64 x.f, .int .i64 x.l] 44) := ⟨_, rfl⟩
              have hbY : Below wr.heap.size wr Y := by rw [hY]; exact al1 _ _
              have kx : Bk Y wr.heap.size 44 #[.int .i64 x.n, .int .i64 x.k, .int .i64 x.f, .int .i64 x.l] := by rw [hY]; exact Bk.new _ _ _
              rw [← hY]
              clear hY
              replace HB := Lib.hid (bt hbY HB.out)
              obtain ⟨gx, hgx⟩ : ∃ g, g = wr.heap.size := ⟨_, rfl⟩
              rw [← hgx] at kx ⊢
              obtain ⟨c0, c1, c2, c3⟩ := box4 kx
              have lkx := kx.lt
              replace y0 := (hbY.cell (p := ⟨b, o + j * 4, none⟩) hbb).trans y0
              clear hbY x0 x1 x2 x3 hgx
              have Rc0 := cell_regrown c0
              have Rc1 := cell_regrown c1
              have Rc2 := cell_regrown c2
              have Rc3 := cell_regrown c3
              have Ry0 := cell_regrown y0
              have CN := fun (d : Nat) (os : Array Obj) => Calls.regrown_of (rNumber_q true x.n (grow (redrawn Y d) os) HN.out)
              refine wp_region_quiet_below (by kernel_rfl) (by kernel_rfl) ?_
              repeat (first | go_big_quiet_step (first | (with_reducible exact CN _ _)) | quiet_step (first | (with_reducible exact CN _ _)))
              refine wpQuiet_nil ?_
              intro _ hw'
              obtain ⟨⟨dq, osq⟩, hw''⟩ := hw'
              subst hw''
              obtain ⟨Y2, hY2⟩ : ∃ V, V = grow (redrawn Y dq) osq := ⟨_, rfl⟩
              have hbY2 : Below Y.heap.size Y Y2 := by rw [hY2]; exact below_regrown _ _ _
              rw [← hY2]
              clear hY2
              clear Rc0
              clear Rc1
              clear Rc2
              clear Rc3
              clear Ry0
              clear CN
              replace HB := Lib.hid (bt hbY2 HB.out)
              clear hbY2 c0 c1 c2 c3 y0 kx lkx
              go_wp2
              go_ret
              exact ⟨rfl, HB.out⟩
          · have HN : Hid (decide (1 ≤ x.n ∧ x.n ≤ 1000000) = true) := Lib.hid (decide_eq_true (by omega))
            have g4 : decide (x.n ≤ y.n) = true := decide_eq_true (by omega)
            go_wp2_with fail
            obtain ⟨Y, hY⟩ : ∃ Zz, Zz = wr.alloc (.cells #[.int .i64 x.n, .int .i64 x.k, .int .i64 x.f, .int .i64 x.l] 44) := ⟨_, rfl⟩
            have hbY : Below wr.heap.size wr Y := by rw [hY]; exact al1 _ _
            have kx : Bk Y wr.heap.size 44 #[.int .i64 x.n, .int .i64 x.k, .int .i64 x.f, .int .i64 x.l] := by rw [hY]; exact Bk.new _ _ _
            rw [← hY]
            clear hY
            replace HB := Lib.hid (bt hbY HB.out)
            obtain ⟨gx, hgx⟩ : ∃ g, g = wr.heap.size := ⟨_, rfl⟩
            rw [← hgx] at kx ⊢
            obtain ⟨c0, c1, c2, c3⟩ := box4 kx
            have lkx := kx.lt
            replace y0 := (hbY.cell (p := ⟨b, o + j * 4, none⟩) hbb).trans y0
            clear hbY x0 x1 x2 x3 hgx
            have Rc0 := cell_regrown c0
            have Rc1 := cell_regrown c1
            have Rc2 := cell_regrown c2
            have Rc3 := cell_regrown c3
            have Ry0 := cell_regrown y0
            have CN := fun (d : Nat) (os : Array Obj) => Calls.regrown_of (rNumber_q true x.n (grow (redrawn Y d) os) HN.out)
            refine wp_region_quiet_below (by kernel_rfl) (by kernel_rfl) ?_
            repeat (first | go_big_quiet_step (first | (with_reducible exact CN _ _)) | quiet_step (first | (with_reducible exact CN _ _)))
            refine wpQuiet_nil ?_
            intro _ hw'
            obtain ⟨⟨dq, osq⟩, hw''⟩ := hw'
            subst hw''
            obtain ⟨Y2, hY2⟩ : ∃ V, V = grow (redrawn Y dq) osq := ⟨_, rfl⟩
            have hbY2 : Below Y.heap.size Y Y2 := by rw [hY2]; exact below_regrown _ _ _
            rw [← hY2]
            clear hY2
            clear Rc0
            clear Rc1
            clear Rc2
            clear Rc3
            clear Ry0
            clear CN
            replace HB := Lib.hid (bt hbY2 HB.out)
            clear hbY2 c0 c1 c2 c3 y0 kx lkx
            go_wp2
            go_ret
            exact ⟨rfl, HB.out⟩
        · have HN : Hid (decide (1 ≤ x.n ∧ x.n ≤ 1000000) = false) := Lib.hid (decide_eq_false (by omega))
          go_wp2_with fail
          obtain ⟨Y, hY⟩ : ∃ Zz, Zz = wr.alloc (.cells #[.int .i64 x.n, .int .i64 x.k, .int .i64 x.f, .int .i64 x.l] 44) := ⟨_, rfl⟩
          have hbY : Below wr.heap.size wr Y := by rw [hY]; exact al1 _ _
          have kx : Bk Y wr.heap.size 44 #[.int .i64 x.n, .int .i64 x.k, .int .i64 x.f, .int .i64 x.l] := by rw [hY]; exact Bk.new _ _ _
          rw [← hY]
          clear hY
          replace HB := Lib.hid (bt hbY HB.out)
          obtain ⟨gx, hgx⟩ : ∃ g, g = wr.heap.size := ⟨_, rfl⟩
          rw [← hgx] at kx ⊢
          obtain ⟨c0, c1, c2, c3⟩ := box4 kx
          have lkx := kx.lt
          replace y0 := (hbY.cell (p := ⟨b, o + j * 4, none⟩) hbb).trans y0
          clear hbY x0 x1 x2 x3 hgx
          have Rc0 := cell_regrown c0
          have Rc1 := cell_regrown c1
          have Rc2 := cell_regrown c2
          have Rc3 := cell_regrown c3
          have Ry0 := cell_regrown y0
          have CN := fun (d : Nat) (os : Array Obj) => Calls.regrown_of (rNumber_q false x.n (grow (redrawn Y d) os) HN.out)
          refine wp_region_quiet_below (by kernel_rfl) (by kernel_rfl) ?_
          repeat (first | go_big_quiet_step (first | (with_reducible exact CN _ _)) | quiet_step (first | (with_reducible exact CN _ _)))
          refine wpQuiet_nil ?_
          intro _ hw'
          obtain ⟨⟨dq, osq⟩, hw''⟩ := hw'
          subst hw''
          obtain ⟨Y2, hY2⟩ : ∃ V, V = grow (redrawn Y dq) osq := ⟨_, rfl⟩
          have hbY2 : Below Y.heap.size Y Y2 := by rw [hY2]; exact below_regrown _ _ _
          rw [← hY2]
          clear hY2
          clear Rc0
          clear Rc1
          clear Rc2
          clear Rc3
          clear Ry0
          clear CN
          replace HB := Lib.hid (bt hbY2 HB.out)
          clear hbY2 c0 c1 c2 c3 y0 kx lkx
          go_wp2
          go_ret
          exact ⟨rfl, HB.out⟩
      · have kz : ¬ (0 : Int) < (k : Int) := by omega
        have kz1 : decide ((0 : Int) < (k : Int)) = false := decide_eq_false kz
        have kz2 : decide (0 < k) = false := decide_eq_false hk0
        by_cases pn : 1 ≤ x.n ∧ x.n ≤ 1000000
        · by_cases p1 : 0 ≤ x.k
          · by_cases p2 : x.k < 32
            · by_cases p3 : 0 ≤ x.f ∧ x.f ≤ 1000000
              · by_cases p4 : 0 ≤ x.l ∧ x.l ≤ 1000000
                · by_cases p5 : x.f ≤ x.l
                  · have HN : Hid (decide (1 ≤ x.n ∧ x.n ≤ 1000000) = true) := Lib.hid (decide_eq_true (by omega))
                    have HE1 : Hid (decide (0 ≤ x.f ∧ x.f ≤ 1000000) = true) := Lib.hid (decide_eq_true (by omega))
                    have HE2 : Hid (decide (0 ≤ x.l ∧ x.l ≤ 1000000) = true) := Lib.hid (decide_eq_true (by omega))
                    have w1 : decide (x.k < 0) = false := decide_eq_false (by omega)
                    have w2 : decide (32 ≤ x.k) = false := decide_eq_false (by omega)
                    have w3 : decide (x.l < x.f) = false := decide_eq_false (by omega)
                    have HG : Hid (∀ i, i < k + 1 → goodAt_Valid l i) := Lib.hid (fun i hi => by
                      by_cases e : i = k
                      · subst e
                        refine fun h => ⟨?_, fun h0 => ?_⟩
                        · rw [← HX.out]; exact ⟨by omega, by omega, by omega, by omega, by omega, by omega, by omega, by omega, by omega⟩
                        · omega
                      · exact HALL.out i (by omega))
                    go_wp2_with fail
                    obtain ⟨Y, hY⟩ : ∃ Zz, Zz = wr.alloc (.cells #[.int .i64 x.n, .int .i64 x.k, .int .i64 x.f, .int .i64 x.l] 44) := ⟨_, rfl⟩
                    have hbY : Below wr.heap.size wr Y := by rw [hY]; exact al1 _ _
                    have kx : Bk Y wr.heap.size 44 #[.int .i64 x.n, .int .i64 x.k, .int .i64 x.f, .int .i64 x.l] := by rw [hY]; exact Bk.new _ _ _
                    rw [← hY]
                    clear hY
                    replace HB := Lib.hid (bt hbY HB.out)
                    obtain ⟨gx, hgx⟩ : ∃ g, g = wr.heap.size := ⟨_, rfl⟩
                    rw [← hgx] at kx ⊢
                    obtain ⟨c0, c1, c2, c3⟩ := box4 kx
                    have lkx := kx.lt
                    clear hbY x0 x1 x2 x3 hgx
                    have Rc0 := cell_regrown c0
                    have Rc1 := cell_regrown c1
                    have Rc2 := cell_regrown c2
                    have Rc3 := cell_regrown c3
                    have CN := fun (d : Nat) (os : Array Obj) => Calls.regrown_of (rNumber_q true x.n (grow (redrawn Y d) os) HN.out)
                    have CE1 := fun (d : Nat) (os : Array Obj) => Calls.regrown_of (rEpoch_q true x.f (grow (redrawn Y d) os) HE1.out)
                    have CE2 := fun (d : Nat) (os : Array Obj) => Calls.regrown_of (rEpoch_q true x.l (grow (redrawn Y d) os) HE2.out)
                    refine wp_region_quiet_below (by kernel_rfl) (by kernel_rfl) ?_
                    repeat (first | go_big_quiet_step (first | (with_reducible exact CN _ _) | (with_reducible exact CE1 _ _) | (with_reducible exact CE2 _ _)) | quiet_step (first | (with_reducible exact CN _ _) | (with_reducible exact CE1 _ _) | (with_reducible exact CE2 _ _)))
                    refine wpQuiet_nil ?_
                    intro _ hw'
                    obtain ⟨⟨dq, osq⟩, hw''⟩ := hw'
                    subst hw''
                    obtain ⟨Y2, hY2⟩ : ∃ V, V = grow (redrawn Y dq) osq := ⟨_, rfl⟩
                    have hbY2 : Below Y.heap.size Y Y2 := by rw [hY2]; exact below_regrown _ _ _
                    rw [← hY2]
                    clear hY2
                    clear Rc0
                    clear Rc1
                    clear Rc2
                    clear Rc3
                    clear CN
                    clear CE1
                    clear CE2
                    replace HB := Lib.hid (bt hbY2 HB.out)
                    clear hbY2 c0 c1 c2 c3 kx lkx
                    go_wp2
                    go_roundw
                    case rel => exact ⟨k + 1, by go_num, by omega, HG.out, HB.out⟩
                    case measure => simp [intOf]; omega
                  · have HN : Hid (decide (1 ≤ x.n ∧ x.n ≤ 1000000) = true) := Lib.hid (decide_eq_true (by omega))
                    have HE1 : Hid (decide (0 ≤ x.f ∧ x.f ≤ 1000000) = true) := Lib.hid (decide_eq_true (by omega))
                    have HE2 : Hid (decide (0 ≤ x.l ∧ x.l ≤ 1000000) = true) := Lib.hid (decide_eq_true (by omega))
                    have w1 : decide (x.k < 0) = false := decide_eq_false (by omega)
                    have w2 : decide (32 ≤ x.k) = false := decide_eq_false (by omega)
                    have w3 : decide (x.l < x.f) = true := decide_eq_true (by omega)
                    go_wp2_with fail
                    obtain ⟨Y, hY⟩ : ∃ Zz, Zz = wr.alloc (.cells #[.int .i64 x.n, .int .i64 x.k, .int .i64 x.f, .int .i64 x.l] 44) := ⟨_, rfl⟩
                    have hbY : Below wr.heap.size wr Y := by rw [hY]; exact al1 _ _
                    have kx : Bk Y wr.heap.size 44 #[.int .i64 x.n, .int .i64 x.k, .int .i64 x.f, .int .i64 x.l] := by rw [hY]; exact Bk.new _ _ _
                    rw [← hY]
                    clear hY
                    replace HB := Lib.hid (bt hbY HB.out)
                    obtain ⟨gx, hgx⟩ : ∃ g, g = wr.heap.size := ⟨_, rfl⟩
                    rw [← hgx] at kx ⊢
                    obtain ⟨c0, c1, c2, c3⟩ := box4 kx
                    have lkx := kx.lt
                    clear hbY x0 x1 x2 x3 hgx
                    have Rc0 := cell_regrown c0
                    have Rc1 := cell_regrown c1
                    have Rc2 := cell_regrown c2
                    have Rc3 := cell_regrown c3
                    have CN := fun (d : Nat) (os : Array Obj) => Calls.regrown_of (rNumber_q true x.n (grow (redrawn Y d) os) HN.out)
                    have CE1 := fun (d : Nat) (os : Array Obj) => Calls.regrown_of (rEpoch_q true x.f (grow (redrawn Y d) os) HE1.out)
                    have CE2 := fun (d : Nat) (os : Array Obj) => Calls.regrown_of (rEpoch_q true x.l (grow (redrawn Y d) os) HE2.out)
                    refine wp_region_quiet_below (by kernel_rfl) (by kernel_rfl) ?_
                    repeat (first | go_big_quiet_step (first | (with_reducible exact CN _ _) | (with_reducible exact CE1 _ _) | (with_reducible exact CE2 _ _)) | quiet_step (first | (with_reducible exact CN _ _) | (with_reducible exact CE1 _ _) | (with_reducible exact CE2 _ _)))
                    refine wpQuiet_nil ?_
                    intro _ hw'
                    obtain ⟨⟨dq, osq⟩, hw''⟩ := hw'
                    subst hw''
                    obtain ⟨Y2, hY2⟩ : ∃ V, V = grow (redrawn Y dq) osq := ⟨_, rfl⟩
                    have hbY2 : Below Y.heap.size Y Y2 := by rw [hY2]; exact below_regrown _ _ _
                    rw [← hY2]
                    clear hY2
                    clear Rc0
                    clear Rc1
                    clear Rc2
                    clear Rc3
                    clear CN
                    clear CE1
                    clear CE2
                    replace HB := Lib.hid (bt hbY2 HB.out)
                    clear hbY2 c0 c1 c2 c3 kx lkx
                    go_wp2
                    go_ret
                    exact ⟨rfl, HB.out⟩
                · have HN : Hid (decide (1 ≤ x.n ∧ x.n ≤ 1000000) = true) := Lib.hid (decide_eq_true (by omega))
                  have HE1 : Hid (decide (0 ≤ x.f ∧ x.f ≤ 1000000) = true) := Lib.hid (decide_eq_true (by omega))
                  have HE2 : Hid (decide (0 ≤ x.l ∧ x.l ≤ 1000000) = false) := Lib.hid (decide_eq_false (by omega))
                  have w1 : decide (x.k < 0) = false := decide_eq_false (by omega)
                  have w2 : decide (32 ≤ x.k) = false := decide_eq_false (by omega)
                  go_wp2_with fail
                  obtain ⟨Y, hY⟩ : ∃ Zz, Zz = wr.alloc (.cells #[.int .i64 x.n, .int .i64 x.k, .int .i64 x.f, .int .i64 x.l] 44) := ⟨_, rfl⟩
                  have hbY : Below wr.heap.size wr Y := by rw [hY]; exact al1 _ _
                  have kx : Bk Y wr.heap.size 44 #[.int .i64 x.n, .int .i64 x.k, .int .i64 x.f, .int .i64 x.l] := by rw [hY]; exact Bk.new _ _ _
                  rw [← hY]
                  clear hY
                  replace HB := Lib.hid (bt hbY HB.out)
                  obtain ⟨gx, hgx⟩ : ∃ g, g = wr.heap.size := ⟨_, rfl⟩
                  rw [← hgx] at kx ⊢
                  obtain ⟨c0, c1, c2, c3⟩ := box4 kx
                  have lkx := kx.lt
                  clear hbY x0 x1 x2 x3 hgx
                  have Rc0 := cell_regrown c0
                  have Rc1 := cell_regrown c1
                  have Rc2 := cell_regrown c2
                  have Rc3 := cell_regrown c3
                  have CN := fun (d : Nat) (os : Array Obj) => Calls.regrown_of (rNumber_q true x.n (grow (redrawn Y d) os) HN.out)
                  have CE1 := fun (d : Nat) (os : Array Obj) => Calls.regrown_of (rEpoch_q true x.f (grow (redrawn Y d) os) HE1.out)
                  have CE2 := fun (d : Nat) (os : Array Obj) => Calls.regrown_of (rEpoch_q false x.l (grow (redrawn Y d) os) HE2.out)
                  refine wp_region_quiet_below (by kernel_rfl) (by kernel_rfl) ?_
                  repeat (first | go_big_quiet_step (first | (with_reducible exact CN _ _) | (with_reducible exact CE1 _ _) | (with_reducible exact CE2 _ _)) | quiet_step (first | (with_reducible exact CN _ _) | (with_reducible exact CE1 _ _) | (with_reducible exact CE2 _ _)))
                  refine wpQuiet_nil ?_
                  intro _ hw'
                  obtain ⟨⟨dq, osq⟩, hw''⟩ := hw'
                  subst hw''
                  obtain ⟨Y2, hY2⟩ : ∃ V, V = grow (redrawn Y dq) osq := ⟨_, rfl⟩
                  have hbY2 : Below Y.heap.size Y Y2 := by rw [hY2]; exact below_regrown _ _ _
                  rw [← hY2]
                  clear hY2
                  clear Rc0
                  clear Rc1
                  clear Rc2
                  clear Rc3
                  clear CN
                  clear CE1
                  clear CE2
                  replace HB := Lib.hid (bt hbY2 HB.out)
                  clear hbY2 c0 c1 c2 c3 kx lkx
                  go_wp2
                  go_ret
                  exact ⟨rfl, HB.out⟩
              · have HN : Hid (decide (1 ≤ x.n ∧ x.n ≤ 1000000) = true) := Lib.hid (decide_eq_true (by omega))
                have HE1 : Hid (decide (0 ≤ x.f ∧ x.f ≤ 1000000) = false) := Lib.hid (decide_eq_false (by omega))
                have w1 : decide (x.k < 0) = false := decide_eq_false (by omega)
                have w2 : decide (32 ≤ x.k) = false := decide_eq_false (by omega)
                go_wp2_with fail
                obtain ⟨Y, hY⟩ : ∃ Zz, Zz = wr.alloc (.cells #[.int .i64 x.n, .int .i64 x.k, .int .i64 x.f, .int .i64 x.l] 44) := ⟨_, rfl⟩
                have hbY : Below wr.heap.size wr Y := by rw [hY]; exact al1 _ _
                have kx : Bk Y wr.heap.size 44 #[.int .i64 x.n, .int .i64 x.k, .int .i64 x.f, .int .i64 x.l] := by rw [hY]; exact Bk.new _ _ _
                rw [← hY]
                clear hY
                replace HB := Lib.hid (bt hbY HB.out)
                obtain ⟨gx, hgx⟩ : ∃ g, g = wr.heap.size := ⟨_, rfl⟩
                rw [← hgx] at kx ⊢
                obtain ⟨c0, c1, c2, c3⟩ := box4 kx
                have lkx := kx.lt
                clear hbY x0 x1 x2 x3 hgx
                have Rc0 := cell_regrown c0
                have Rc1 := cell_regrown c1
                have Rc2 := cell_regrown c2
                have Rc3 := cell_regrown c3
                have CN := fun (d : Nat) (os : Array Obj) => Calls.regrown_of (rNumber_q true x.n (grow (redrawn Y d) os) HN.out)
                have CE1 := fun (d : Nat) (os : Array Obj) => Calls.regrown_of (rEpoch_q false x.f (grow (redrawn Y d) os) HE1.out)
                refine wp_region_quiet_below (by kernel_rfl) (by kernel_rfl) ?_
                repeat (first | go_big_quiet_step (first | (with_reducible exact CN _ _) | (with_reducible exact CE1 _ _)) | quiet_step (first | (with_reducible exact CN _ _) | (with_reducible exact CE1 _ _)))
                refine wpQuiet_nil ?_
                intro _ hw'
                obtain ⟨⟨dq, osq⟩, hw''⟩ := hw'
                subst hw''
                obtain ⟨Y2, hY2⟩ : ∃ V, V = grow (redrawn Y dq) osq := ⟨_, rfl⟩
                have hbY2 : Below Y.heap.size Y Y2 := by rw [hY2]; exact below_regrown _ _ _
                rw [← hY2]
                clear hY2
                clear Rc0
                clear Rc1
                clear Rc2
                clear Rc3
                clear CN
                clear CE1
                replace HB := Lib.hid (bt hbY2 HB.out)
                clear hbY2 c0 c1 c2 c3 kx lkx
                go_wp2
                go_ret
                exact ⟨rfl, HB.out⟩
            · have HN : Hid (decide (1 ≤ x.n ∧ x.n ≤ 1000000) = true) := Lib.hid (decide_eq_true (by omega))
              have w1 : decide (x.k < 0) = false := decide_eq_false (by omega)
              have w2 : decide (32 ≤ x.k) = true := decide_eq_true (by omega)
              go_wp2_with fail
              obtain ⟨Y, hY⟩ : ∃ Zz, Zz = wr.alloc (.cells #[.int .i64 x.n, .int .i64 x.k, .int .i64 x.f, .int .i64 x.l] 44) := ⟨_, rfl⟩
              have hbY : Below wr.heap.size wr Y := by rw [hY]; exact al1 _ _
              have kx : Bk Y wr.heap.size 44 #[.int .i64 x.n, .int .i64 x.k, .int .i64 x.f, .int .i64 x.l] := by rw [hY]; exact Bk.new _ _ _
              rw [← hY]
              clear hY
              replace HB := Lib.hid (bt hbY HB.out)
              obtain ⟨gx, hgx⟩ : ∃ g, g = wr.heap.size := ⟨_, rfl⟩
              rw [← hgx] at kx ⊢
              obtain ⟨c0, c1, c2, c3⟩ := box4 kx
              have lkx := kx.lt
              clear hbY x0 x1 x2 x3 hgx
              have Rc0 := cell_regrown c0
              have Rc1 := cell_regrown c1
              have Rc2 := cell_regrown c2
              have Rc3 := cell_regrown c3
              have CN := fun (d : Nat) (os : Array Obj) => Calls.regrown_of (rNumber_q true x.n (grow (redrawn Y d) os) HN.out)
              refine wp_region_quiet_below (by kernel_rfl) (by kernel_rfl) ?_
              repeat (first | go_big_quiet_step (first | (with_reducible exact CN _ _)) | quiet_step (first | (with_reducible exact CN _ _)))
              refine wpQuiet_nil ?_
              intro _ hw'
              obtain ⟨⟨dq, osq⟩, hw''⟩ := hw'
              subst hw''
              obtain ⟨Y2, hY2⟩ : ∃ V, V = grow (redrawn Y dq) osq := ⟨_, rfl⟩
              have hbY2 : Below Y.heap.size Y Y2 := by rw [hY2]; exact below_regrown _ _ _
              rw [← hY2]
              clear hY2
              clear Rc0
              clear Rc1
              clear Rc2
              clear Rc3
              clear CN
              replace HB := Lib.hid (bt hbY2 HB.out)
              clear hbY2 c0 c1 c2 c3 kx lkx
              go_wp2
              go_ret
              exact ⟨rfl, HB.out⟩
          · have HN : Hid (decide (1 ≤ x.n ∧ x.n ≤ 1000000) = true) := Lib.hid (decide_eq_true (by omega))
            have w1 : decide (x.k < 0) = true := decide_eq_true (by omega)
            go_wp2_with fail
            obtain ⟨Y, hY⟩ : ∃ Zz, Zz = wr.alloc (.cells #[.int .i64 x.n, .int .i64 x.k, .int .i64 x.f, .int .i64 x.l] 44) := ⟨_, rfl⟩
            have hbY : Below wr.heap.size wr Y := by rw [hY]; exact al1 _ _
            have kx : Bk Y wr.heap.size 44 #[.int .i64 x.n, .int .i64 x.k, .int .i64 x.f, .int .i64 x.l] := by rw [hY]; exact Bk.new _ _ _
            rw [← hY]
            clear hY
            replace HB := Lib.hid (bt hbY HB.out)
            obtain ⟨gx, hgx⟩ : ∃ g, g = wr.heap.size := ⟨_, rfl⟩
            rw [← hgx] at kx ⊢
            obtain ⟨c0, c1, c2, c3⟩ := box4 kx
            have lkx := kx.lt
            clear hbY x0 x1 x2 x3 hgx
            have Rc0 := cell_regrown c0
            have Rc1 := cell_regrown c1
            have Rc2 := cell_regrown c2
            have Rc3 := cell_regrown c3
            have CN := fun (d : Nat) (os : Array Obj) => Calls.regrown_of (rNumber_q true x.n (grow (redrawn Y d) os) HN.out)
            refine wp_region_quiet_below (by kernel_rfl) (by kernel_rfl) ?_
            repeat (first | go_big_quiet_step (first | (with_reducible exact CN _ _)) | quiet_step (first | (with_reducible exact CN _ _)))
            refine wpQuiet_nil ?_
            intro _ hw'
            obtain ⟨⟨dq, osq⟩, hw''⟩ := hw'
            subst hw''
            obtain ⟨Y2, hY2⟩ : ∃ V, V = grow (redrawn Y dq) osq := ⟨_, rfl⟩
            have hbY2 : Below Y.heap.size Y Y2 := by rw [hY2]; exact below_regrown _ _ _
            rw [← hY2]
            clear hY2
            clear Rc0
            clear Rc1
            clear Rc2
            clear Rc3
            clear CN
            replace HB := Lib.hid (bt hbY2 HB.out)
            clear hbY2 c0 c1 c2 c3 kx lkx
            go_wp2
            go_ret
            exact ⟨rfl, HB.out⟩
        · have HN : Hid (decide (1 ≤ x.n ∧ x.n ≤ 1000000) = false) := Lib.hid (decide_eq_false (by omega))
          go_wp2_with fail
          obtain ⟨Y, hY⟩ : ∃ Zz, Zz = wr.alloc (.cells #[.int .i64 x.n, .int .i64 x.k, .int .i64 x.f, .int .i64 x.l] 44) := ⟨_, rfl⟩
          have hbY : Below wr.heap.size wr Y := by rw [hY]; exact al1 _ _
          have kx : Bk Y wr.heap.size 44 #[.int .i64 x.n, .int .i64 x.k, .int .i64 x.f, .int .i64 x.l] := by rw [hY]; exact Bk.new _ _ _
          rw [← hY]
          clear hY
          replace HB := Lib.hid (bt hbY HB.out)
          obtain ⟨gx, hgx⟩ : ∃ g, g = wr.heap.size := ⟨_, rfl⟩
          rw [← hgx] at kx ⊢
          obtain ⟨c0, c1, c2, c3⟩ := box4 kx
          have lkx := kx.lt
          clear hbY x0 x1 x2 x3 hgx
          have Rc0 := cell_regrown c0
          have Rc1 := cell_regrown c1
          have Rc2 := cell_regrown c2
          have Rc3 := cell_regrown c3
          have CN := fun (d : Nat) (os : Array Obj) => Calls.regrown_of (rNumber_q false x.n (grow (redrawn Y d) os) HN.out)
          refine wp_region_quiet_below (by kernel_rfl) (by kernel_rfl) ?_
          repeat (first | go_big_quiet_step (first | (with_reducible exact CN _ _)) | quiet_step (first | (with_reducible exact CN _ _)))
          refine wpQuiet_nil ?_
          intro _ hw'
          obtain ⟨⟨dq, osq⟩, hw''⟩ := hw'
          subst hw''
          obtain ⟨Y2, hY2⟩ : ∃ V, V = grow (redrawn Y dq) osq := ⟨_, rfl⟩
          have hbY2 : Below Y.heap.size Y Y2 := by rw [hY2]; exact below_regrown _ _ _
          rw [← hY2]
          clear hY2
          clear Rc0
          clear Rc1
          clear Rc2
          clear Rc3
          clear CN
          replace HB := Lib.hid (bt hbY2 HB.out)
          clear hbY2 c0 c1 c2 c3 kx lkx
          go_wp2
          go_ret
          exact ⟨rfl, HB.out⟩
    · obtain rfl : k = l.length := by omega
      have q9 : decide ((l.length : Int) ≤ 64) = false := decide_eq_false (fun h9 => HV.out (good_Valid (by omega) HALL.out))
      go_wp2
      go_ret
      exact ⟨rfl, HB.out⟩
theorem eqVoid (x : Vd) (w : World) : (Op.equalIn 10000 42 (.agg #[.int .i64 x.n, .int .i64 x.e]) (.agg #[.int .i64 x.n, .int .i64 x.e])).run Try.prog w = .ok true w := by
  have u3 := Try.underlying3
  have hS : Try.prog.underlying 42 = some (.struct (Try.prog.fieldsOf 42)) := by kernel_rfl
  have hp : Try.prog.stoodInHeld 42 = false := by kernel_rfl
  rw [show (10000 : Nat) = 9999 + 1 from rfl, run_equalIn_struct w 9999 42 _ _ hS hp]
  simp only [Program.fieldsOf, Try.underlying42]
  go_simp
  try simp
theorem guardVoid : Try.prog.eqGuardType Try.prog.depth 42 = false := by kernel_rfl
set_option maxHeartbeats 1000000 in
theorem rSame_yes (l : List Vd) (n m : Nat) (hl : l.length = n) (hl' : l.length = m) (A B : Option Addr) (c cb : Nat) (w : World) (hn : l.length ≤ 1000000000) (hA : RdV w w.heap.size A l) (hB : RdV w w.heap.size B l) :
    Calls Try.prog 11 #[.slice A n c, .slice B m cb] w fun e w' => e = .returned (.bool true) ∧ Below w.heap.size w w' := by
  subst hl; subst hl'
  have HA := Lib.hid hA
  have HB' := Lib.hid hB
  clear hA hB
  go_enter Try.func11, Try.ntmps11
  go_wp2
  go_loopw [5] (fun i wr => ∃ k : Nat, i = .int .i64 (k : Int) ∧ k ≤ l.length ∧ Below w.heap.size w wr) (fun i _ => l.length - (intOf i).toNat)
  case atStart => exact ⟨0, rfl, Nat.zero_le _, Below.refl _ _⟩
  case round =>
    obtain ⟨k, rfl, hk, hb⟩ := hrel
    have HB := Lib.hid hb
    clear hb
    by_cases hlt : k < l.length
    · obtain ⟨b, o, rfl, hbb, x0, x1⟩ := rdV_at (RdX.next HA.out HB.out) hlt
      obtain ⟨b', o', rfl, hbb', y0, y1⟩ := rdV_at (RdX.next HB'.out HB.out) hlt
      obtain ⟨x, hx⟩ : ∃ x, x = l[k] := ⟨_, rfl⟩
      rw [← hx] at x0 x1 y0 y1
      have k1 : (0 : Int) ≤ (k : Int) := by omega
      have k2 : (k : Int) < (l.length : Int) := by omega
      have hq := eqVoid x
      have hgd := guardVoid
      clear hx
      go_wp2
      obtain ⟨Y, hY⟩ : ∃ Y : World, Y = wr := ⟨_, rfl⟩
      rw [← hY] at x0 x1 y0 y1
      rw [← hY]
      have HBY : Hid (Below w.heap.size w Y) := Lib.hid (hY ▸ HB.out)
      clear hY
      have Rx0 := cell_regrown x0
      have Rx1 := cell_regrown x1
      have Ry0 := cell_regrown y0
      have Ry1 := cell_regrown y1
      refine wp_region_quiet_below (by kernel_rfl) (by kernel_rfl) ?_
      repeat (first | go_big_quiet_step (fail) | quiet_step (fail))
      refine wpQuiet_nil ?_
      intro _ hw'
      obtain ⟨⟨dq, osq⟩, hw''⟩ := hw'
      subst hw''
      obtain ⟨Y2, hY2⟩ : ∃ V, V = grow (redrawn Y dq) osq := ⟨_, rfl⟩
      have hbY2 : Below Y.heap.size Y Y2 := by rw [hY2]; exact below_regrown _ _ _
      rw [← hY2]
      clear hY2
      clear Rx0
      clear Rx1
      clear Ry0
      clear Ry1
      replace HB := Lib.hid (bt hbY2 HBY.out)
      clear hbY2 HBY x0 x1 y0 y1 hq hgd
      go_wp2
      go_roundw
      case rel => exact ⟨k + 1, by go_num, by omega, HB.out⟩
      case measure => simp [intOf]; omega
    · obtain rfl : k = l.length := by omega
      go_wp2
      go_ret
      exact ⟨rfl, HB.out⟩
end Go.Proofs.Ythihhmlgpokomaa
