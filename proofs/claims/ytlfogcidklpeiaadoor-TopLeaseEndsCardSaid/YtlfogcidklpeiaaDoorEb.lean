/- charger.Step for the events of the law, charger.Allowed. -/
import Derived.Test.YtlfogcidklpeiaaDoorEa
set_option maxRecDepth 100000
set_option linter.unusedVariables false
set_option linter.unusedSimpArgs false
namespace Go.Proofs.YtlfogcidklpeiaaDoor
open Go.RowKit Go.Sort

theorem en2 (n : Nat) : (n = n + 1 + 1) = False := by simp only [eq_iff_iff, iff_false]; omega
theorem en3 (n : Nat) : (n = n + 1 + 1 + 1) = False := by simp only [eq_iff_iff, iff_false]; omega
/-- the table of phases -/
def tabL : List Int := [-1, -1, -1, -1, -1, -1, 1, -1, -1, -1, -1, -1, -1, 0, -1, -1, -1, -3, -1, 2, -1, -1, -1, -1, -1, -1, -3, -1, -1, -1, -1, -1, -1, 4, -1, -1, -1, -1, -1, -1, -3, -1, -2, -2, -2, -2, -2, -2, -2, -2, -2, -2, -2, -2, 0, 1, 1, 1, 1, -3]
def Af (w : World) : Prop := 0 < w.heap.size ∧ ∀ i, i < 60 → w.cell? ⟨0, i, none⟩ = some (.int .i64 (tabL.getD i 0))
theorem Af.next {w w' : World} (h : Af w) (hb : Below w.heap.size w w') : Af w' :=
  ⟨Nat.lt_of_lt_of_le h.1 hb.size, fun i hi => (hb.cell (p := ⟨0, i, none⟩) h.1).trans (h.2 i hi)⟩
theorem vEvent_yes (c : Chg) (k n m : Int) (w : World) (hk : 1 ≤ k ∧ k ≤ 8) (h4 : k = 4 → 0 ≤ n ∧ n ≤ 1) (h6 : k = 6 → 0 ≤ n ∧ n ≤ 2) (h7 : k = 7 → 1 ≤ m ∧ m ≤ 1000000 ∧ 0 ≤ n ∧ n ≤ c.mx) :
    Calls Tryd.prog 19 #[.agg #[.string c.nm, .int .i64 c.no, .int .i64 c.ph, .int .i64 c.mn, .int .i64 c.mx, .int .i64 c.st, .int .i64 c.fb, .int .i64 c.ow], .agg #[.int .i64 k, .int .i64 n, .int .i64 m]] w fun e w' => e = .returned (.bool true) ∧ Below w.heap.size w w' := by
  have HB := Lib.hid (al2 w)
  obtain ⟨hk1, hk2⟩ := hk
  by_cases e4 : k = 4
  · subst e4
    obtain ⟨a1, a2⟩ := h4 rfl
    clear h4 h6 h7 hk1 hk2
    go_enter Tryd.func19, Tryd.ntmps19
    go_wp2
    go_ret
    exact ⟨rfl, HB.out _ _⟩
  · by_cases e6 : k = 6
    · subst e6
      obtain ⟨a1, a2⟩ := h6 rfl
      clear h4 h6 h7 hk1 hk2 e4
      go_enter Tryd.func19, Tryd.ntmps19
      go_wp2
      go_ret
      exact ⟨rfl, HB.out _ _⟩
    · by_cases e7 : k = 7
      · subst e7
        obtain ⟨a1, a2, a3, a4⟩ := h7 rfl
        clear h4 h6 h7 hk1 hk2 e4 e6
        go_enter Tryd.func19, Tryd.ntmps19
        go_wp2
        go_ret
        exact ⟨rfl, HB.out _ _⟩
      · have b4 : (k == 4) = false := by rw [beq_eq_false_iff_ne]; exact e4
        have b6 : (k == 6) = false := by rw [beq_eq_false_iff_ne]; exact e6
        have b7 : (k == 7) = false := by rw [beq_eq_false_iff_ne]; exact e7
        have b0 : (k == 0) = false := by rw [beq_eq_false_iff_ne]; omega
        clear h4 h6 h7 e4 e6 e7
        go_enter Tryd.func19, Tryd.ntmps19
        go_wp2
        go_ret
        exact ⟨rfl, HB.out _ _⟩
theorem cinside_yes (n lo hi : Int) (w : World) (h1 : lo ≤ n) (h2 : n ≤ hi) : Calls Tryd.prog 18 #[.int .i64 n, .int .i64 lo, .int .i64 hi] w fun e w' => e = .returned (.bool true) ∧ w = w' := by
  go_enter Tryd.func18, Tryd.ntmps18
  go_wp2
  go_ret
  exact ⟨rfl, rfl⟩
theorem grown_set {w U : World} {g : Nat} (h : w.grownBy U (some g)) (c : Nat) (v : Value) : w.grownBy (U.setCell ⟨g, c, none⟩ v) (some g) := by
  have := grown_store h c v
  exact ⟨this.os, this.tape, this.output, this.size, this.block⟩
theorem chgN_any (k n m : Int) (w : World) (h1 : 1 ≤ k) (h2 : k ≤ 6) : Calls Tryd.prog 21 #[.agg #[.int .i64 k, .int .i64 n, .int .i64 m]] w fun e w' => e = .returned (.func (.func 31) #[] #[]) ∧ Below w.heap.size w w' := by
  have HB := Lib.hid (al1 w)
  have b7 : (k == 7) = false := by rw [beq_eq_false_iff_ne]; omega
  have b8 : (k == 8) = false := by rw [beq_eq_false_iff_ne]; omega
  have b9 : (k == 9) = false := by rw [beq_eq_false_iff_ne]; omega
  go_enter Tryd.func21, Tryd.ntmps21
  go_wp2
  go_ret
  exact ⟨rfl, HB.out _⟩
theorem chg8_any (n m : Int) (w : World) : Calls Tryd.prog 21 #[.agg #[.int .i64 8, .int .i64 n, .int .i64 m]] w fun e w' => e = .returned (.func (.func 29) #[] #[]) ∧ Below w.heap.size w w' := by
  have HB := Lib.hid (al1 w)
  go_enter Tryd.func21, Tryd.ntmps21
  go_wp2
  go_ret
  exact ⟨rfl, HB.out _⟩
theorem chg7_any (n m : Int) (w : World) : Calls Tryd.prog 21 #[.agg #[.int .i64 7, .int .i64 n, .int .i64 m]] w fun e w' => ∃ b, e = .returned (.func (.func 28) #[] #[.pointer (some ⟨b, 0, none⟩)]) ∧ w.heap.size ≤ b ∧ Bk w' b 42 #[.int .i64 7, .int .i64 n, .int .i64 m] ∧ Below w.heap.size w w' := by
  have HB := Lib.hid (al1 w)
  go_enter Tryd.func21, Tryd.ntmps21
  go_wp2
  go_ret
  exact ⟨_, rfl, Nat.le_refl _, Bk.new _ _ _, HB.out _⟩
theorem act4_any (g : Nat) (w : World) : Calls Tryd.prog 31 #[.pointer (some ⟨g, 0, none⟩)] w fun e w' => e = .returned (.tuple #[]) ∧ w = w' := by
  go_enter Tryd.func31, Tryd.ntmps31
  go_wp2
  go_end0
  exact ⟨rfl, rfl⟩
theorem act2_any (p a l : Int) (b : Bool) (g : Nat) (w : World) (hg : Bk w g 25 #[.int .i64 p, .int .i64 a, .int .i64 l, .bool b]) (h0 : 0 ≤ l) (h1 : l ≤ 1000000) : Calls Tryd.prog 29 #[.pointer (some ⟨g, 0, none⟩)] w fun e w' => e = .returned (.tuple #[]) ∧ Bk w' g 25 #[.int .i64 p, .int .i64 (if l ≤ 1 then 0 else a), .int .i64 (if l ≤ 1 then 0 else l - 1), .bool b] ∧ w.grownBy w' (some g) := by
  have HG := Lib.hid hg
  obtain ⟨s0, s1, s2, s3⟩ := bx4 hg
  have f1 := hg.frozen 1
  have f2 := hg.frozen 2
  have hlt := hg.lt
  clear hg
  by_cases hl : l ≤ 1
  · rw [if_pos hl, if_pos hl]
    have HR : Hid (w.grownBy ((w.setCell ⟨g, 2, none⟩ (.int .i64 0)).setCell ⟨g, 1, none⟩ (.int .i64 0)) (some g) ∧ Bk ((w.setCell ⟨g, 2, none⟩ (.int .i64 0)).setCell ⟨g, 1, none⟩ (.int .i64 0)) g 25 #[.int .i64 p, .int .i64 0, .int .i64 0, .bool b]) := ⟨grown_set (grown_set (World.grownBy.refl _ _) _ _) _ _, by have := (HG.out.set 2 (.int .i64 0)).set 1 (.int .i64 0); simpa using this⟩
    have hle : ¬ (0 < l - 1) := by omega
    go_enter Tryd.func29, Tryd.ntmps29
    go_wp2
    go_end0
    exact ⟨rfl, HR.out.2, HR.out.1⟩
  · rw [if_neg hl, if_neg hl]
    have HR : Hid (w.grownBy (w.setCell ⟨g, 2, none⟩ (.int .i64 (l - 1))) (some g) ∧ Bk (w.setCell ⟨g, 2, none⟩ (.int .i64 (l - 1))) g 25 #[.int .i64 p, .int .i64 a, .int .i64 (l - 1), .bool b]) := ⟨grown_set (World.grownBy.refl _ _) _ _, by have := HG.out.set 2 (.int .i64 (l - 1)); simpa using this⟩
    have hle : 0 < l - 1 := by omega
    have hne : (l - 1 == 0) = false := by rw [beq_eq_false_iff_ne]; omega
    go_enter Tryd.func29, Tryd.ntmps29
    go_wp2
    go_end0
    exact ⟨rfl, HR.out.2, HR.out.1⟩
theorem act1_any (p a l n m : Int) (b : Bool) (g ke : Nat) (w : World) (hg : Bk w g 25 #[.int .i64 p, .int .i64 a, .int .i64 l, .bool b]) (he : Bk w ke 42 #[.int .i64 7, .int .i64 n, .int .i64 m]) : Calls Tryd.prog 28 #[.pointer (some ⟨g, 0, none⟩), .pointer (some ⟨ke, 0, none⟩)] w fun e w' => e = .returned (.tuple #[]) ∧ Bk w' g 25 #[.int .i64 p, .int .i64 n, .int .i64 m, .bool b] ∧ w.grownBy w' (some g) := by
  have HG := Lib.hid hg
  obtain ⟨s0, s1, s2, s3⟩ := bx4 hg
  obtain ⟨e0, e1, e2⟩ := bx3 he
  have f1 := hg.frozen 1
  have f2 := hg.frozen 2
  have hlt := hg.lt
  have hlt2 := he.lt
  clear hg he
  go_enter Tryd.func28, Tryd.ntmps28
  go_wp2
  go_region
  go_wp2
  go_end0
  exact ⟨rfl, by have := (HG.out.set 1 (.int .i64 n)).set 2 (.int .i64 m); exact (by simpa using this : Bk _ _ _ _).drew, grown_store (grown_set (World.grownBy.refl _ _) _ _) _ _⟩
theorem decided_evt (p a l : Int) (k n d : Int) (m : Int) (w : World) (h : (k = 2 ∧ n = 0 ∧ d = 0) ∨ (k = 4 ∧ n = 1 ∧ d = 3) ∨ (k = 6 ∧ n = 0 ∧ d = 1)) :
    Calls Tryd.prog 20 #[.agg #[.int .i64 p, .int .i64 a, .int .i64 l, .bool false], .agg #[.int .i64 k, .int .i64 n, .int .i64 m]] w fun e w' => e = .returned (.agg #[.int .i64 d, .int .i64 a, .int .i64 l, .bool false]) ∧ Below w.heap.size w w' := by
  have HB := Lib.hid (al3 w)
  rcases h with ⟨rfl, rfl, rfl⟩ | ⟨rfl, rfl, rfl⟩ | ⟨rfl, rfl, rfl⟩
  all_goals
    skip
    go_enter Tryd.func20, Tryd.ntmps20
    go_wp2
    exact bodyPost_ret (v := .agg #[.int .i64 _, .int .i64 a, .int .i64 l, .bool false]) (by simp [results, Tryd.results20, go_sem]) rfl ⟨rfl, HB.out _ _ _⟩
def EvtP (c : Chg) (p a l : Int) (w : World) (e : Ending) (w' : World) : Prop :=
  ∃ x y z er : Int, e = .returned (.tuple #[.agg #[.int .i64 x, .int .i64 y, .int .i64 z, .bool false], .int .i64 er]) ∧ (er = 0 → ∃ p' : Nat, p' ≤ 5 ∧ x = p' ∧ y = a ∧ z = l) ∧ Below w.heap.size w w'
set_option maxHeartbeats 4000000 in
theorem Step_1 (c : Chg) (p : Nat) (a l : Int) (w : World) (hc : c.Ok) (hs : Cst.Ok c ⟨p, a, l, false⟩) (hA : Af w) : Calls Tryd.prog 8 #[.agg #[.string c.nm, .int .i64 c.no, .int .i64 c.ph, .int .i64 c.mn, .int .i64 c.mx, .int .i64 c.st, .int .i64 c.fb, .int .i64 c.ow], .agg #[.int .i64 (p : Int), .int .i64 a, .int .i64 l, .bool false], .agg #[.int .i64 1, .int .i64 0, .int .i64 0]] w (EvtP c p a l w) := by
  have HC := Lib.hid hc
  have HS := Lib.hid hs
  have HA := Lib.hid hA
  have hp : p ≤ 5 := by have := hs.2.1; simp only at this; omega
  clear hc hs hA
  go_enter Tryd.func8, Tryd.ntmps8
  go_wp2_with fail
  obtain ⟨K, hK⟩ : ∃ K, K = w.heap.size := ⟨_, rfl⟩
  rw [← hK]
  obtain ⟨V0, hV0⟩ : ∃ Zz, Zz = (((w.alloc (.cells #[.string c.nm, .int .i64 c.no, .int .i64 c.ph, .int .i64 c.mn, .int .i64 c.mx, .int .i64 c.st, .int .i64 c.fb, .int .i64 c.ow] 23)).alloc (.cells #[.int .i64 (p : Int), .int .i64 a, .int .i64 l, .bool false] 25)).alloc (.cells #[.int .i64 1, .int .i64 0, .int .i64 0] 42)).alloc (.cells #[.int .i64 0, .int .i64 0, .int .i64 0, .bool false] 25) := ⟨_, rfl⟩
  have k0 : Bk V0 K 23 #[.string c.nm, .int .i64 c.no, .int .i64 c.ph, .int .i64 c.mn, .int .i64 c.mx, .int .i64 c.st, .int .i64 c.fb, .int .i64 c.ow] := by rw [hV0, hK]; exact bkOf (by simp [at?_alloc, en2, en3])
  have k1 : Bk V0 (K + 1) 25 #[.int .i64 (p : Int), .int .i64 a, .int .i64 l, .bool false] := by rw [hV0, hK]; exact bkOf (by simp [at?_alloc, en2, en3])
  have k2 : Bk V0 (K + 1 + 1) 42 #[.int .i64 1, .int .i64 0, .int .i64 0] := by rw [hV0, hK]; exact bkOf (by simp [at?_alloc, en2, en3])
  have k3 : Bk V0 (K + 1 + 1 + 1) 25 #[.int .i64 0, .int .i64 0, .int .i64 0, .bool false] := by rw [hV0, hK]; exact bkOf (by simp [at?_alloc, en2, en3])
  have hbV : Below w.heap.size w V0 := by rw [hV0]; exact (al3 _ _ _ _).alloc (by simp; omega) _
  rw [← hV0]
  clear hV0
  have HKW := Lib.hid hK
  clear hK
  refine (CValid_yes c ⟨p, a, l, false⟩ V0 HC.out HS.out).mono ?_
  rintro e W1 ⟨rfl, hb1⟩
  have K0 := Lib.hid (k0.next hb1)
  have K1 := Lib.hid (k1.next hb1)
  have K2 := Lib.hid (k2.next hb1)
  have K3 := Lib.hid (k3.next hb1)
  have HB1 := Lib.hid (bt hb1 hbV)
  clear k0 k1 k2 k3 hb1 hbV
  obtain ⟨e0, e1, e2⟩ := bx3 K2.out
  obtain ⟨c0, c1, c2, c3, c4, c5, c6, c7⟩ := bx8 K0.out
  have lt := K3.out.lt
  go_wp2_with fail
  refine (cinside_yes 1 1 9 _ (by omega) (by omega)).mono ?_
  rintro e w' ⟨rfl, rfl⟩
  go_wp2_with fail
  refine (vEvent_yes c 1 0 0 _ (by omega) (by omega) (by omega) (by omega)).mono ?_
  rintro e W2 ⟨rfl, hb2⟩
  clear e0 e1 e2 c0 c1 c2 c3 c4 c5 c6 c7 lt
  replace K0 := Lib.hid (K0.out.next hb2)
  replace K1 := Lib.hid (K1.out.next hb2)
  replace K2 := Lib.hid (K2.out.next hb2)
  replace K3 := Lib.hid (K3.out.next hb2)
  replace HB1 := Lib.hid (bt hb2 HB1.out)
  clear hb2
  have HA2 := Lib.hid (HA.out.next HB1.out)
  obtain ⟨v, hv⟩ : ∃ v, v = tabL.getD (1 * 6 + p) 0 := ⟨_, rfl⟩
  have t0 := HA2.out.2 (1 * 6 + p) (by omega)
  rw [← hv] at t0
  have hvs := (show ∀ p, p < 6 → (tabL.getD (1 * 6 + p) 0 = -1 ∨ tabL.getD (1 * 6 + p) 0 = 1) by decide) p (by omega)
  rw [← hv] at hvs
  have HVS := Lib.hid hvs
  have hpI : (0 : Int) ≤ (p : Int) := by omega
  have hpJ : (p : Int) < 6 := by omega
  obtain ⟨e0, e1, e2⟩ := bx3 K2.out
  obtain ⟨s0, s1, s2, s3⟩ := bx4 K1.out
  have l1 := K1.out.lt
  have l3 := K3.out.lt
  clear hv hvs
  go_wp2
  go_quiet (fail)
  obtain ⟨W3, hW3⟩ : ∃ Zz, Zz = W2.drewN nq := ⟨_, rfl⟩
  have hb3 : Below W2.heap.size W2 W3 := by rw [hW3]; exact belowDrew (Below.refl _ _) _
  rw [← hW3]
  clear hW3
  replace K0 := Lib.hid (K0.out.next hb3)
  replace K1 := Lib.hid (K1.out.next hb3)
  replace K2 := Lib.hid (K2.out.next hb3)
  replace K3 := Lib.hid (K3.out.next hb3)
  replace HB1 := Lib.hid (bt hb3 HB1.out)
  clear e0 e1 e2 s0 s1 s2 s3 t0 l1 l3 hb3 HA2
  obtain ⟨e0, e1, e2⟩ := bx3 K2.out
  obtain ⟨s0, s1, s2, s3⟩ := bx4 K1.out
  obtain ⟨r0, r1, r2, r3⟩ := bx4 K3.out
  have fs0 := K1.out.frozen 0
  have fs1 := K1.out.frozen 1
  have fs2 := K1.out.frozen 2
  have fs3 := K1.out.frozen 3
  have fr0 := K3.out.frozen 0
  have fr1 := K3.out.frozen 1
  have fr2 := K3.out.frozen 2
  have fr3 := K3.out.frozen 3
  have l3 := K3.out.lt
  rcases HVS.out with rfl | rfl
  · go_wp2
    obtain ⟨W4, hW4⟩ : ∃ Zz, Zz = (((W3.setCell ⟨K + 1 + 1 + 1, 0, none⟩ (.int .i64 0)).setCell ⟨K + 1 + 1 + 1, 1, none⟩ (.int .i64 0)).setCell ⟨K + 1 + 1 + 1, 2, none⟩ (.int .i64 0)).setCell ⟨K + 1 + 1 + 1, 3, none⟩ (.bool false) := ⟨_, rfl⟩
    have k4 : Bk W4 (K + 1 + 1 + 1) 25 #[.int .i64 0, .int .i64 0, .int .i64 0, .bool false] := by rw [hW4]; have := ((((K3.out.set 0 ((.int .i64 0))).set 1 ((.int .i64 0))).set 2 ((.int .i64 0))).set 3 ((.bool false))); simpa using this
    have hb4 : Below w.heap.size w W4 := by rw [hW4]; exact ((((HB1.out.setCell (p := ⟨K + 1 + 1 + 1, 0, none⟩) (by have := HKW.out; simp only; omega) _).setCell (p := ⟨K + 1 + 1 + 1, 1, none⟩) (by have := HKW.out; simp only; omega) _).setCell (p := ⟨K + 1 + 1 + 1, 2, none⟩) (by have := HKW.out; simp only; omega) _).setCell (p := ⟨K + 1 + 1 + 1, 3, none⟩) (by have := HKW.out; simp only; omega) _)
    rw [← hW4]
    clear hW4
    obtain ⟨q0, q1, q2, q3⟩ := bx4 k4
    exact bodyPost_ret (v := .tuple #[.agg #[.int .i64 0, .int .i64 0, .int .i64 0, .bool false], .int .i64 6]) (by simp [results, Tryd.results8, go_sem, q0, q1, q2, q3]) rfl ⟨_, _, _, _, rfl, fun h => absurd h (by decide), hb4⟩
  · go_wp2_with fail
    obtain ⟨X, hX⟩ : ∃ Zz, Zz = W3.setCell ⟨K + 1, 0, none⟩ (.int .i64 1) := ⟨_, rfl⟩
    have ks : Bk X (K + 1) 25 #[.int .i64 1, .int .i64 a, .int .i64 l, .bool false] := by rw [hX]; have := K1.out.set 0 (.int .i64 1); simpa using this
    have ke : Bk X (K + 1 + 1) 42 #[.int .i64 1, .int .i64 0, .int .i64 0] := by rw [hX]; exact K2.out.far (by simp only; omega) _
    have kr : Bk X (K + 1 + 1 + 1) 25 #[.int .i64 0, .int .i64 0, .int .i64 0, .bool false] := by rw [hX]; exact K3.out.far (by simp only; omega) _
    have hbx : Below w.heap.size w X := by rw [hX]; exact HB1.out.setCell (p := ⟨K + 1, 0, none⟩) (by have := HKW.out; simp only; omega) _
    rw [← hX]
    clear hX
    have KS := Lib.hid ks
    have KE := Lib.hid ke
    have KR := Lib.hid kr
    have HBX := Lib.hid hbx
    clear ks ke kr hbx
    clear e0 e1 e2 s0 s1 s2 s3 r0 r1 r2 r3 fs0 fs1 fs2 fs3 fr0 fr1 fr2 fr3 l3
    obtain ⟨e0, e1, e2⟩ := bx3 KE.out
    have le := KE.out.lt
    go_wp2_with fail
    refine (chgN_any 1 0 0 _ (by omega) (by omega)).mono ?_
    rintro e Y ⟨rfl, hb5⟩
    clear e0 e1 e2 le
    replace KS := Lib.hid (KS.out.next hb5)
    replace KR := Lib.hid (KR.out.next hb5)
    replace HBX := Lib.hid (bt hb5 HBX.out)
    clear hb5
    go_wp2_with fail
    refine (act4_any _ _).mono ?_
    rintro e Y' ⟨rfl, rfl⟩
    obtain ⟨s0, s1, s2, s3⟩ := bx4 KS.out
    obtain ⟨r0, r1, r2, r3⟩ := bx4 KR.out
    have fr0 := KR.out.frozen 0
    have fr1 := KR.out.frozen 1
    have fr2 := KR.out.frozen 2
    have fr3 := KR.out.frozen 3
    have ls := KS.out.lt
    have lr := KR.out.lt
    go_wp2
    obtain ⟨Y5, hY5⟩ : ∃ Zz, Zz = (((Y.setCell ⟨K + 1 + 1 + 1, 0, none⟩ (.int .i64 1)).setCell ⟨K + 1 + 1 + 1, 1, none⟩ (.int .i64 a)).setCell ⟨K + 1 + 1 + 1, 2, none⟩ (.int .i64 l)).setCell ⟨K + 1 + 1 + 1, 3, none⟩ (.bool false) := ⟨_, rfl⟩
    have k5 : Bk Y5 (K + 1 + 1 + 1) 25 #[.int .i64 1, .int .i64 a, .int .i64 l, .bool false] := by rw [hY5]; have := ((((KR.out.set 0 ((.int .i64 1))).set 1 ((.int .i64 a))).set 2 ((.int .i64 l))).set 3 ((.bool false))); simpa using this
    have hb5 : Below w.heap.size w Y5 := by rw [hY5]; exact ((((HBX.out.setCell (p := ⟨K + 1 + 1 + 1, 0, none⟩) (by have := HKW.out; simp only; omega) _).setCell (p := ⟨K + 1 + 1 + 1, 1, none⟩) (by have := HKW.out; simp only; omega) _).setCell (p := ⟨K + 1 + 1 + 1, 2, none⟩) (by have := HKW.out; simp only; omega) _).setCell (p := ⟨K + 1 + 1 + 1, 3, none⟩) (by have := HKW.out; simp only; omega) _)
    rw [← hY5]
    clear hY5
    obtain ⟨q0, q1, q2, q3⟩ := bx4 k5
    exact bodyPost_ret (v := .tuple #[.agg #[.int .i64 1, .int .i64 a, .int .i64 l, .bool false], .int .i64 0]) (by simp [results, Tryd.results8, go_sem, q0, q1, q2, q3]) rfl ⟨_, _, _, _, rfl, fun _ => ⟨1, by omega, rfl, rfl, rfl⟩, hb5⟩
set_option maxHeartbeats 4000000 in
theorem Step_2 (c : Chg) (p : Nat) (a l : Int) (w : World) (hc : c.Ok) (hs : Cst.Ok c ⟨p, a, l, false⟩) (hA : Af w) : Calls Tryd.prog 8 #[.agg #[.string c.nm, .int .i64 c.no, .int .i64 c.ph, .int .i64 c.mn, .int .i64 c.mx, .int .i64 c.st, .int .i64 c.fb, .int .i64 c.ow], .agg #[.int .i64 (p : Int), .int .i64 a, .int .i64 l, .bool false], .agg #[.int .i64 2, .int .i64 0, .int .i64 0]] w (EvtP c p a l w) := by
  have HC := Lib.hid hc
  have HS := Lib.hid hs
  have HA := Lib.hid hA
  have hp : p ≤ 5 := by have := hs.2.1; simp only at this; omega
  clear hc hs hA
  go_enter Tryd.func8, Tryd.ntmps8
  go_wp2_with fail
  obtain ⟨K, hK⟩ : ∃ K, K = w.heap.size := ⟨_, rfl⟩
  rw [← hK]
  obtain ⟨V0, hV0⟩ : ∃ Zz, Zz = (((w.alloc (.cells #[.string c.nm, .int .i64 c.no, .int .i64 c.ph, .int .i64 c.mn, .int .i64 c.mx, .int .i64 c.st, .int .i64 c.fb, .int .i64 c.ow] 23)).alloc (.cells #[.int .i64 (p : Int), .int .i64 a, .int .i64 l, .bool false] 25)).alloc (.cells #[.int .i64 2, .int .i64 0, .int .i64 0] 42)).alloc (.cells #[.int .i64 0, .int .i64 0, .int .i64 0, .bool false] 25) := ⟨_, rfl⟩
  have k0 : Bk V0 K 23 #[.string c.nm, .int .i64 c.no, .int .i64 c.ph, .int .i64 c.mn, .int .i64 c.mx, .int .i64 c.st, .int .i64 c.fb, .int .i64 c.ow] := by rw [hV0, hK]; exact bkOf (by simp [at?_alloc, en2, en3])
  have k1 : Bk V0 (K + 1) 25 #[.int .i64 (p : Int), .int .i64 a, .int .i64 l, .bool false] := by rw [hV0, hK]; exact bkOf (by simp [at?_alloc, en2, en3])
  have k2 : Bk V0 (K + 1 + 1) 42 #[.int .i64 2, .int .i64 0, .int .i64 0] := by rw [hV0, hK]; exact bkOf (by simp [at?_alloc, en2, en3])
  have k3 : Bk V0 (K + 1 + 1 + 1) 25 #[.int .i64 0, .int .i64 0, .int .i64 0, .bool false] := by rw [hV0, hK]; exact bkOf (by simp [at?_alloc, en2, en3])
  have hbV : Below w.heap.size w V0 := by rw [hV0]; exact (al3 _ _ _ _).alloc (by simp; omega) _
  rw [← hV0]
  clear hV0
  have HKW := Lib.hid hK
  clear hK
  refine (CValid_yes c ⟨p, a, l, false⟩ V0 HC.out HS.out).mono ?_
  rintro e W1 ⟨rfl, hb1⟩
  have K0 := Lib.hid (k0.next hb1)
  have K1 := Lib.hid (k1.next hb1)
  have K2 := Lib.hid (k2.next hb1)
  have K3 := Lib.hid (k3.next hb1)
  have HB1 := Lib.hid (bt hb1 hbV)
  clear k0 k1 k2 k3 hb1 hbV
  obtain ⟨e0, e1, e2⟩ := bx3 K2.out
  obtain ⟨c0, c1, c2, c3, c4, c5, c6, c7⟩ := bx8 K0.out
  have lt := K3.out.lt
  go_wp2_with fail
  refine (cinside_yes 2 1 9 _ (by omega) (by omega)).mono ?_
  rintro e w' ⟨rfl, rfl⟩
  go_wp2_with fail
  refine (vEvent_yes c 2 0 0 _ (by omega) (by omega) (by omega) (by omega)).mono ?_
  rintro e W2 ⟨rfl, hb2⟩
  clear e0 e1 e2 c0 c1 c2 c3 c4 c5 c6 c7 lt
  replace K0 := Lib.hid (K0.out.next hb2)
  replace K1 := Lib.hid (K1.out.next hb2)
  replace K2 := Lib.hid (K2.out.next hb2)
  replace K3 := Lib.hid (K3.out.next hb2)
  replace HB1 := Lib.hid (bt hb2 HB1.out)
  clear hb2
  have HA2 := Lib.hid (HA.out.next HB1.out)
  obtain ⟨v, hv⟩ : ∃ v, v = tabL.getD (2 * 6 + p) 0 := ⟨_, rfl⟩
  have t0 := HA2.out.2 (2 * 6 + p) (by omega)
  rw [← hv] at t0
  have hvs := (show ∀ p, p < 6 → (tabL.getD (2 * 6 + p) 0 = -3 ∨ tabL.getD (2 * 6 + p) 0 = -1 ∨ tabL.getD (2 * 6 + p) 0 = 0) by decide) p (by omega)
  rw [← hv] at hvs
  have HVS := Lib.hid hvs
  have hpI : (0 : Int) ≤ (p : Int) := by omega
  have hpJ : (p : Int) < 6 := by omega
  obtain ⟨e0, e1, e2⟩ := bx3 K2.out
  obtain ⟨s0, s1, s2, s3⟩ := bx4 K1.out
  have l1 := K1.out.lt
  have l3 := K3.out.lt
  clear hv hvs
  go_wp2
  go_quiet (fail)
  obtain ⟨W3, hW3⟩ : ∃ Zz, Zz = W2.drewN nq := ⟨_, rfl⟩
  have hb3 : Below W2.heap.size W2 W3 := by rw [hW3]; exact belowDrew (Below.refl _ _) _
  rw [← hW3]
  clear hW3
  replace K0 := Lib.hid (K0.out.next hb3)
  replace K1 := Lib.hid (K1.out.next hb3)
  replace K2 := Lib.hid (K2.out.next hb3)
  replace K3 := Lib.hid (K3.out.next hb3)
  replace HB1 := Lib.hid (bt hb3 HB1.out)
  clear e0 e1 e2 s0 s1 s2 s3 t0 l1 l3 hb3 HA2
  obtain ⟨e0, e1, e2⟩ := bx3 K2.out
  obtain ⟨s0, s1, s2, s3⟩ := bx4 K1.out
  obtain ⟨r0, r1, r2, r3⟩ := bx4 K3.out
  have fs0 := K1.out.frozen 0
  have fs1 := K1.out.frozen 1
  have fs2 := K1.out.frozen 2
  have fs3 := K1.out.frozen 3
  have fr0 := K3.out.frozen 0
  have fr1 := K3.out.frozen 1
  have fr2 := K3.out.frozen 2
  have fr3 := K3.out.frozen 3
  have l3 := K3.out.lt
  rcases HVS.out with rfl | rfl | rfl
  · go_wp2_with fail
    refine (decided_evt _ a l 2 0 0 0 _ (by omega)).mono ?_
    rintro e W4 ⟨rfl, hb4⟩
    replace K1 := Lib.hid (K1.out.next hb4)
    replace K2 := Lib.hid (K2.out.next hb4)
    replace K3 := Lib.hid (K3.out.next hb4)
    replace HB1 := Lib.hid (bt hb4 HB1.out)
    clear e0 e1 e2 s0 s1 s2 s3 r0 r1 r2 r3 fs0 fs1 fs2 fs3 fr0 fr1 fr2 fr3 l3 hb4
    obtain ⟨s0, s1, s2, s3⟩ := bx4 K1.out
    have fs0 := K1.out.frozen 0
    have fs1 := K1.out.frozen 1
    have fs2 := K1.out.frozen 2
    have fs3 := K1.out.frozen 3
    obtain ⟨e0, e1, e2⟩ := bx3 K2.out
    have le := K2.out.lt
    have l3 := K3.out.lt
    go_wp2_with fail
    obtain ⟨X, hX⟩ : ∃ Zz, Zz = (((W4.setCell ⟨K + 1, 0, none⟩ (.int .i64 0)).setCell ⟨K + 1, 1, none⟩ (.int .i64 a)).setCell ⟨K + 1, 2, none⟩ (.int .i64 l)).setCell ⟨K + 1, 3, none⟩ (.bool false) := ⟨_, rfl⟩
    have ks : Bk X (K + 1) 25 #[.int .i64 0, .int .i64 a, .int .i64 l, .bool false] := by rw [hX]; have := ((((K1.out.set 0 ((.int .i64 0))).set 1 ((.int .i64 a))).set 2 ((.int .i64 l))).set 3 ((.bool false))); simpa using this
    have ke : Bk X (K + 1 + 1) 42 #[.int .i64 2, .int .i64 0, .int .i64 0] := by rw [hX]; exact ((((K2.out.far (p := ⟨K + 1, 0, none⟩) (by simp only; omega) ((.int .i64 0))).far (p := ⟨K + 1, 1, none⟩) (by simp only; omega) ((.int .i64 a))).far (p := ⟨K + 1, 2, none⟩) (by simp only; omega) ((.int .i64 l))).far (p := ⟨K + 1, 3, none⟩) (by simp only; omega) ((.bool false)))
    have kr : Bk X (K + 1 + 1 + 1) 25 #[.int .i64 0, .int .i64 0, .int .i64 0, .bool false] := by rw [hX]; exact ((((K3.out.far (p := ⟨K + 1, 0, none⟩) (by simp only; omega) ((.int .i64 0))).far (p := ⟨K + 1, 1, none⟩) (by simp only; omega) ((.int .i64 a))).far (p := ⟨K + 1, 2, none⟩) (by simp only; omega) ((.int .i64 l))).far (p := ⟨K + 1, 3, none⟩) (by simp only; omega) ((.bool false)))
    have hbx : Below w.heap.size w X := by rw [hX]; exact ((((HB1.out.setCell (p := ⟨K + 1, 0, none⟩) (by have := HKW.out; simp only; omega) _).setCell (p := ⟨K + 1, 1, none⟩) (by have := HKW.out; simp only; omega) _).setCell (p := ⟨K + 1, 2, none⟩) (by have := HKW.out; simp only; omega) _).setCell (p := ⟨K + 1, 3, none⟩) (by have := HKW.out; simp only; omega) _)
    rw [← hX]
    clear hX
    have KS := Lib.hid ks
    have KE := Lib.hid ke
    have KR := Lib.hid kr
    have HBX := Lib.hid hbx
    clear ks ke kr hbx s0 s1 s2 s3 fs0 fs1 fs2 fs3 e0 e1 e2 le l3
    obtain ⟨e0, e1, e2⟩ := bx3 KE.out
    have le := KE.out.lt
    go_wp2_with fail
    refine (chgN_any 2 0 0 _ (by omega) (by omega)).mono ?_
    rintro e Y ⟨rfl, hb5⟩
    clear e0 e1 e2 le
    replace KS := Lib.hid (KS.out.next hb5)
    replace KR := Lib.hid (KR.out.next hb5)
    replace HBX := Lib.hid (bt hb5 HBX.out)
    clear hb5
    go_wp2_with fail
    refine (act4_any _ _).mono ?_
    rintro e Y' ⟨rfl, rfl⟩
    obtain ⟨s0, s1, s2, s3⟩ := bx4 KS.out
    obtain ⟨r0, r1, r2, r3⟩ := bx4 KR.out
    have fr0 := KR.out.frozen 0
    have fr1 := KR.out.frozen 1
    have fr2 := KR.out.frozen 2
    have fr3 := KR.out.frozen 3
    have ls := KS.out.lt
    have lr := KR.out.lt
    go_wp2
    obtain ⟨Y5, hY5⟩ : ∃ Zz, Zz = (((Y.setCell ⟨K + 1 + 1 + 1, 0, none⟩ (.int .i64 0)).setCell ⟨K + 1 + 1 + 1, 1, none⟩ (.int .i64 a)).setCell ⟨K + 1 + 1 + 1, 2, none⟩ (.int .i64 l)).setCell ⟨K + 1 + 1 + 1, 3, none⟩ (.bool false) := ⟨_, rfl⟩
    have k5 : Bk Y5 (K + 1 + 1 + 1) 25 #[.int .i64 0, .int .i64 a, .int .i64 l, .bool false] := by rw [hY5]; have := ((((KR.out.set 0 ((.int .i64 0))).set 1 ((.int .i64 a))).set 2 ((.int .i64 l))).set 3 ((.bool false))); simpa using this
    have hb5 : Below w.heap.size w Y5 := by rw [hY5]; exact ((((HBX.out.setCell (p := ⟨K + 1 + 1 + 1, 0, none⟩) (by have := HKW.out; simp only; omega) _).setCell (p := ⟨K + 1 + 1 + 1, 1, none⟩) (by have := HKW.out; simp only; omega) _).setCell (p := ⟨K + 1 + 1 + 1, 2, none⟩) (by have := HKW.out; simp only; omega) _).setCell (p := ⟨K + 1 + 1 + 1, 3, none⟩) (by have := HKW.out; simp only; omega) _)
    rw [← hY5]
    clear hY5
    obtain ⟨q0, q1, q2, q3⟩ := bx4 k5
    exact bodyPost_ret (v := .tuple #[.agg #[.int .i64 0, .int .i64 a, .int .i64 l, .bool false], .int .i64 0]) (by simp [results, Tryd.results8, go_sem, q0, q1, q2, q3]) rfl ⟨_, _, _, _, rfl, fun _ => ⟨0, by omega, rfl, rfl, rfl⟩, hb5⟩
  · go_wp2
    obtain ⟨W4, hW4⟩ : ∃ Zz, Zz = (((W3.setCell ⟨K + 1 + 1 + 1, 0, none⟩ (.int .i64 0)).setCell ⟨K + 1 + 1 + 1, 1, none⟩ (.int .i64 0)).setCell ⟨K + 1 + 1 + 1, 2, none⟩ (.int .i64 0)).setCell ⟨K + 1 + 1 + 1, 3, none⟩ (.bool false) := ⟨_, rfl⟩
    have k4 : Bk W4 (K + 1 + 1 + 1) 25 #[.int .i64 0, .int .i64 0, .int .i64 0, .bool false] := by rw [hW4]; have := ((((K3.out.set 0 ((.int .i64 0))).set 1 ((.int .i64 0))).set 2 ((.int .i64 0))).set 3 ((.bool false))); simpa using this
    have hb4 : Below w.heap.size w W4 := by rw [hW4]; exact ((((HB1.out.setCell (p := ⟨K + 1 + 1 + 1, 0, none⟩) (by have := HKW.out; simp only; omega) _).setCell (p := ⟨K + 1 + 1 + 1, 1, none⟩) (by have := HKW.out; simp only; omega) _).setCell (p := ⟨K + 1 + 1 + 1, 2, none⟩) (by have := HKW.out; simp only; omega) _).setCell (p := ⟨K + 1 + 1 + 1, 3, none⟩) (by have := HKW.out; simp only; omega) _)
    rw [← hW4]
    clear hW4
    obtain ⟨q0, q1, q2, q3⟩ := bx4 k4
    exact bodyPost_ret (v := .tuple #[.agg #[.int .i64 0, .int .i64 0, .int .i64 0, .bool false], .int .i64 6]) (by simp [results, Tryd.results8, go_sem, q0, q1, q2, q3]) rfl ⟨_, _, _, _, rfl, fun h => absurd h (by decide), hb4⟩
  · go_wp2_with fail
    obtain ⟨X, hX⟩ : ∃ Zz, Zz = W3.setCell ⟨K + 1, 0, none⟩ (.int .i64 0) := ⟨_, rfl⟩
    have ks : Bk X (K + 1) 25 #[.int .i64 0, .int .i64 a, .int .i64 l, .bool false] := by rw [hX]; have := K1.out.set 0 (.int .i64 0); simpa using this
    have ke : Bk X (K + 1 + 1) 42 #[.int .i64 2, .int .i64 0, .int .i64 0] := by rw [hX]; exact K2.out.far (by simp only; omega) _
    have kr : Bk X (K + 1 + 1 + 1) 25 #[.int .i64 0, .int .i64 0, .int .i64 0, .bool false] := by rw [hX]; exact K3.out.far (by simp only; omega) _
    have hbx : Below w.heap.size w X := by rw [hX]; exact HB1.out.setCell (p := ⟨K + 1, 0, none⟩) (by have := HKW.out; simp only; omega) _
    rw [← hX]
    clear hX
    have KS := Lib.hid ks
    have KE := Lib.hid ke
    have KR := Lib.hid kr
    have HBX := Lib.hid hbx
    clear ks ke kr hbx
    clear e0 e1 e2 s0 s1 s2 s3 r0 r1 r2 r3 fs0 fs1 fs2 fs3 fr0 fr1 fr2 fr3 l3
    obtain ⟨e0, e1, e2⟩ := bx3 KE.out
    have le := KE.out.lt
    go_wp2_with fail
    refine (chgN_any 2 0 0 _ (by omega) (by omega)).mono ?_
    rintro e Y ⟨rfl, hb5⟩
    clear e0 e1 e2 le
    replace KS := Lib.hid (KS.out.next hb5)
    replace KR := Lib.hid (KR.out.next hb5)
    replace HBX := Lib.hid (bt hb5 HBX.out)
    clear hb5
    go_wp2_with fail
    refine (act4_any _ _).mono ?_
    rintro e Y' ⟨rfl, rfl⟩
    obtain ⟨s0, s1, s2, s3⟩ := bx4 KS.out
    obtain ⟨r0, r1, r2, r3⟩ := bx4 KR.out
    have fr0 := KR.out.frozen 0
    have fr1 := KR.out.frozen 1
    have fr2 := KR.out.frozen 2
    have fr3 := KR.out.frozen 3
    have ls := KS.out.lt
    have lr := KR.out.lt
    go_wp2
    obtain ⟨Y5, hY5⟩ : ∃ Zz, Zz = (((Y.setCell ⟨K + 1 + 1 + 1, 0, none⟩ (.int .i64 0)).setCell ⟨K + 1 + 1 + 1, 1, none⟩ (.int .i64 a)).setCell ⟨K + 1 + 1 + 1, 2, none⟩ (.int .i64 l)).setCell ⟨K + 1 + 1 + 1, 3, none⟩ (.bool false) := ⟨_, rfl⟩
    have k5 : Bk Y5 (K + 1 + 1 + 1) 25 #[.int .i64 0, .int .i64 a, .int .i64 l, .bool false] := by rw [hY5]; have := ((((KR.out.set 0 ((.int .i64 0))).set 1 ((.int .i64 a))).set 2 ((.int .i64 l))).set 3 ((.bool false))); simpa using this
    have hb5 : Below w.heap.size w Y5 := by rw [hY5]; exact ((((HBX.out.setCell (p := ⟨K + 1 + 1 + 1, 0, none⟩) (by have := HKW.out; simp only; omega) _).setCell (p := ⟨K + 1 + 1 + 1, 1, none⟩) (by have := HKW.out; simp only; omega) _).setCell (p := ⟨K + 1 + 1 + 1, 2, none⟩) (by have := HKW.out; simp only; omega) _).setCell (p := ⟨K + 1 + 1 + 1, 3, none⟩) (by have := HKW.out; simp only; omega) _)
    rw [← hY5]
    clear hY5
    obtain ⟨q0, q1, q2, q3⟩ := bx4 k5
    exact bodyPost_ret (v := .tuple #[.agg #[.int .i64 0, .int .i64 a, .int .i64 l, .bool false], .int .i64 0]) (by simp [results, Tryd.results8, go_sem, q0, q1, q2, q3]) rfl ⟨_, _, _, _, rfl, fun _ => ⟨0, by omega, rfl, rfl, rfl⟩, hb5⟩
set_option maxHeartbeats 4000000 in
theorem Step_3 (c : Chg) (p : Nat) (a l : Int) (w : World) (hc : c.Ok) (hs : Cst.Ok c ⟨p, a, l, false⟩) (hA : Af w) : Calls Tryd.prog 8 #[.agg #[.string c.nm, .int .i64 c.no, .int .i64 c.ph, .int .i64 c.mn, .int .i64 c.mx, .int .i64 c.st, .int .i64 c.fb, .int .i64 c.ow], .agg #[.int .i64 (p : Int), .int .i64 a, .int .i64 l, .bool false], .agg #[.int .i64 3, .int .i64 0, .int .i64 0]] w (EvtP c p a l w) := by
  have HC := Lib.hid hc
  have HS := Lib.hid hs
  have HA := Lib.hid hA
  have hp : p ≤ 5 := by have := hs.2.1; simp only at this; omega
  clear hc hs hA
  go_enter Tryd.func8, Tryd.ntmps8
  go_wp2_with fail
  obtain ⟨K, hK⟩ : ∃ K, K = w.heap.size := ⟨_, rfl⟩
  rw [← hK]
  obtain ⟨V0, hV0⟩ : ∃ Zz, Zz = (((w.alloc (.cells #[.string c.nm, .int .i64 c.no, .int .i64 c.ph, .int .i64 c.mn, .int .i64 c.mx, .int .i64 c.st, .int .i64 c.fb, .int .i64 c.ow] 23)).alloc (.cells #[.int .i64 (p : Int), .int .i64 a, .int .i64 l, .bool false] 25)).alloc (.cells #[.int .i64 3, .int .i64 0, .int .i64 0] 42)).alloc (.cells #[.int .i64 0, .int .i64 0, .int .i64 0, .bool false] 25) := ⟨_, rfl⟩
  have k0 : Bk V0 K 23 #[.string c.nm, .int .i64 c.no, .int .i64 c.ph, .int .i64 c.mn, .int .i64 c.mx, .int .i64 c.st, .int .i64 c.fb, .int .i64 c.ow] := by rw [hV0, hK]; exact bkOf (by simp [at?_alloc, en2, en3])
  have k1 : Bk V0 (K + 1) 25 #[.int .i64 (p : Int), .int .i64 a, .int .i64 l, .bool false] := by rw [hV0, hK]; exact bkOf (by simp [at?_alloc, en2, en3])
  have k2 : Bk V0 (K + 1 + 1) 42 #[.int .i64 3, .int .i64 0, .int .i64 0] := by rw [hV0, hK]; exact bkOf (by simp [at?_alloc, en2, en3])
  have k3 : Bk V0 (K + 1 + 1 + 1) 25 #[.int .i64 0, .int .i64 0, .int .i64 0, .bool false] := by rw [hV0, hK]; exact bkOf (by simp [at?_alloc, en2, en3])
  have hbV : Below w.heap.size w V0 := by rw [hV0]; exact (al3 _ _ _ _).alloc (by simp; omega) _
  rw [← hV0]
  clear hV0
  have HKW := Lib.hid hK
  clear hK
  refine (CValid_yes c ⟨p, a, l, false⟩ V0 HC.out HS.out).mono ?_
  rintro e W1 ⟨rfl, hb1⟩
  have K0 := Lib.hid (k0.next hb1)
  have K1 := Lib.hid (k1.next hb1)
  have K2 := Lib.hid (k2.next hb1)
  have K3 := Lib.hid (k3.next hb1)
  have HB1 := Lib.hid (bt hb1 hbV)
  clear k0 k1 k2 k3 hb1 hbV
  obtain ⟨e0, e1, e2⟩ := bx3 K2.out
  obtain ⟨c0, c1, c2, c3, c4, c5, c6, c7⟩ := bx8 K0.out
  have lt := K3.out.lt
  go_wp2_with fail
  refine (cinside_yes 3 1 9 _ (by omega) (by omega)).mono ?_
  rintro e w' ⟨rfl, rfl⟩
  go_wp2_with fail
  refine (vEvent_yes c 3 0 0 _ (by omega) (by omega) (by omega) (by omega)).mono ?_
  rintro e W2 ⟨rfl, hb2⟩
  clear e0 e1 e2 c0 c1 c2 c3 c4 c5 c6 c7 lt
  replace K0 := Lib.hid (K0.out.next hb2)
  replace K1 := Lib.hid (K1.out.next hb2)
  replace K2 := Lib.hid (K2.out.next hb2)
  replace K3 := Lib.hid (K3.out.next hb2)
  replace HB1 := Lib.hid (bt hb2 HB1.out)
  clear hb2
  have HA2 := Lib.hid (HA.out.next HB1.out)
  obtain ⟨v, hv⟩ : ∃ v, v = tabL.getD (3 * 6 + p) 0 := ⟨_, rfl⟩
  have t0 := HA2.out.2 (3 * 6 + p) (by omega)
  rw [← hv] at t0
  have hvs := (show ∀ p, p < 6 → (tabL.getD (3 * 6 + p) 0 = -1 ∨ tabL.getD (3 * 6 + p) 0 = 2) by decide) p (by omega)
  rw [← hv] at hvs
  have HVS := Lib.hid hvs
  have hpI : (0 : Int) ≤ (p : Int) := by omega
  have hpJ : (p : Int) < 6 := by omega
  obtain ⟨e0, e1, e2⟩ := bx3 K2.out
  obtain ⟨s0, s1, s2, s3⟩ := bx4 K1.out
  have l1 := K1.out.lt
  have l3 := K3.out.lt
  clear hv hvs
  go_wp2
  go_quiet (fail)
  obtain ⟨W3, hW3⟩ : ∃ Zz, Zz = W2.drewN nq := ⟨_, rfl⟩
  have hb3 : Below W2.heap.size W2 W3 := by rw [hW3]; exact belowDrew (Below.refl _ _) _
  rw [← hW3]
  clear hW3
  replace K0 := Lib.hid (K0.out.next hb3)
  replace K1 := Lib.hid (K1.out.next hb3)
  replace K2 := Lib.hid (K2.out.next hb3)
  replace K3 := Lib.hid (K3.out.next hb3)
  replace HB1 := Lib.hid (bt hb3 HB1.out)
  clear e0 e1 e2 s0 s1 s2 s3 t0 l1 l3 hb3 HA2
  obtain ⟨e0, e1, e2⟩ := bx3 K2.out
  obtain ⟨s0, s1, s2, s3⟩ := bx4 K1.out
  obtain ⟨r0, r1, r2, r3⟩ := bx4 K3.out
  have fs0 := K1.out.frozen 0
  have fs1 := K1.out.frozen 1
  have fs2 := K1.out.frozen 2
  have fs3 := K1.out.frozen 3
  have fr0 := K3.out.frozen 0
  have fr1 := K3.out.frozen 1
  have fr2 := K3.out.frozen 2
  have fr3 := K3.out.frozen 3
  have l3 := K3.out.lt
  rcases HVS.out with rfl | rfl
  · go_wp2
    obtain ⟨W4, hW4⟩ : ∃ Zz, Zz = (((W3.setCell ⟨K + 1 + 1 + 1, 0, none⟩ (.int .i64 0)).setCell ⟨K + 1 + 1 + 1, 1, none⟩ (.int .i64 0)).setCell ⟨K + 1 + 1 + 1, 2, none⟩ (.int .i64 0)).setCell ⟨K + 1 + 1 + 1, 3, none⟩ (.bool false) := ⟨_, rfl⟩
    have k4 : Bk W4 (K + 1 + 1 + 1) 25 #[.int .i64 0, .int .i64 0, .int .i64 0, .bool false] := by rw [hW4]; have := ((((K3.out.set 0 ((.int .i64 0))).set 1 ((.int .i64 0))).set 2 ((.int .i64 0))).set 3 ((.bool false))); simpa using this
    have hb4 : Below w.heap.size w W4 := by rw [hW4]; exact ((((HB1.out.setCell (p := ⟨K + 1 + 1 + 1, 0, none⟩) (by have := HKW.out; simp only; omega) _).setCell (p := ⟨K + 1 + 1 + 1, 1, none⟩) (by have := HKW.out; simp only; omega) _).setCell (p := ⟨K + 1 + 1 + 1, 2, none⟩) (by have := HKW.out; simp only; omega) _).setCell (p := ⟨K + 1 + 1 + 1, 3, none⟩) (by have := HKW.out; simp only; omega) _)
    rw [← hW4]
    clear hW4
    obtain ⟨q0, q1, q2, q3⟩ := bx4 k4
    exact bodyPost_ret (v := .tuple #[.agg #[.int .i64 0, .int .i64 0, .int .i64 0, .bool false], .int .i64 6]) (by simp [results, Tryd.results8, go_sem, q0, q1, q2, q3]) rfl ⟨_, _, _, _, rfl, fun h => absurd h (by decide), hb4⟩
  · go_wp2_with fail
    obtain ⟨X, hX⟩ : ∃ Zz, Zz = W3.setCell ⟨K + 1, 0, none⟩ (.int .i64 2) := ⟨_, rfl⟩
    have ks : Bk X (K + 1) 25 #[.int .i64 2, .int .i64 a, .int .i64 l, .bool false] := by rw [hX]; have := K1.out.set 0 (.int .i64 2); simpa using this
    have ke : Bk X (K + 1 + 1) 42 #[.int .i64 3, .int .i64 0, .int .i64 0] := by rw [hX]; exact K2.out.far (by simp only; omega) _
    have kr : Bk X (K + 1 + 1 + 1) 25 #[.int .i64 0, .int .i64 0, .int .i64 0, .bool false] := by rw [hX]; exact K3.out.far (by simp only; omega) _
    have hbx : Below w.heap.size w X := by rw [hX]; exact HB1.out.setCell (p := ⟨K + 1, 0, none⟩) (by have := HKW.out; simp only; omega) _
    rw [← hX]
    clear hX
    have KS := Lib.hid ks
    have KE := Lib.hid ke
    have KR := Lib.hid kr
    have HBX := Lib.hid hbx
    clear ks ke kr hbx
    clear e0 e1 e2 s0 s1 s2 s3 r0 r1 r2 r3 fs0 fs1 fs2 fs3 fr0 fr1 fr2 fr3 l3
    obtain ⟨e0, e1, e2⟩ := bx3 KE.out
    have le := KE.out.lt
    go_wp2_with fail
    refine (chgN_any 3 0 0 _ (by omega) (by omega)).mono ?_
    rintro e Y ⟨rfl, hb5⟩
    clear e0 e1 e2 le
    replace KS := Lib.hid (KS.out.next hb5)
    replace KR := Lib.hid (KR.out.next hb5)
    replace HBX := Lib.hid (bt hb5 HBX.out)
    clear hb5
    go_wp2_with fail
    refine (act4_any _ _).mono ?_
    rintro e Y' ⟨rfl, rfl⟩
    obtain ⟨s0, s1, s2, s3⟩ := bx4 KS.out
    obtain ⟨r0, r1, r2, r3⟩ := bx4 KR.out
    have fr0 := KR.out.frozen 0
    have fr1 := KR.out.frozen 1
    have fr2 := KR.out.frozen 2
    have fr3 := KR.out.frozen 3
    have ls := KS.out.lt
    have lr := KR.out.lt
    go_wp2
    obtain ⟨Y5, hY5⟩ : ∃ Zz, Zz = (((Y.setCell ⟨K + 1 + 1 + 1, 0, none⟩ (.int .i64 2)).setCell ⟨K + 1 + 1 + 1, 1, none⟩ (.int .i64 a)).setCell ⟨K + 1 + 1 + 1, 2, none⟩ (.int .i64 l)).setCell ⟨K + 1 + 1 + 1, 3, none⟩ (.bool false) := ⟨_, rfl⟩
    have k5 : Bk Y5 (K + 1 + 1 + 1) 25 #[.int .i64 2, .int .i64 a, .int .i64 l, .bool false] := by rw [hY5]; have := ((((KR.out.set 0 ((.int .i64 2))).set 1 ((.int .i64 a))).set 2 ((.int .i64 l))).set 3 ((.bool false))); simpa using this
    have hb5 : Below w.heap.size w Y5 := by rw [hY5]; exact ((((HBX.out.setCell (p := ⟨K + 1 + 1 + 1, 0, none⟩) (by have := HKW.out; simp only; omega) _).setCell (p := ⟨K + 1 + 1 + 1, 1, none⟩) (by have := HKW.out; simp only; omega) _).setCell (p := ⟨K + 1 + 1 + 1, 2, none⟩) (by have := HKW.out; simp only; omega) _).setCell (p := ⟨K + 1 + 1 + 1, 3, none⟩) (by have := HKW.out; simp only; omega) _)
    rw [← hY5]
    clear hY5
    obtain ⟨q0, q1, q2, q3⟩ := bx4 k5
    exact bodyPost_ret (v := .tuple #[.agg #[.int .i64 2, .int .i64 a, .int .i64 l, .bool false], .int .i64 0]) (by simp [results, Tryd.results8, go_sem, q0, q1, q2, q3]) rfl ⟨_, _, _, _, rfl, fun _ => ⟨2, by omega, rfl, rfl, rfl⟩, hb5⟩
set_option maxHeartbeats 4000000 in
theorem Step_4 (c : Chg) (p : Nat) (a l : Int) (w : World) (hc : c.Ok) (hs : Cst.Ok c ⟨p, a, l, false⟩) (hA : Af w) : Calls Tryd.prog 8 #[.agg #[.string c.nm, .int .i64 c.no, .int .i64 c.ph, .int .i64 c.mn, .int .i64 c.mx, .int .i64 c.st, .int .i64 c.fb, .int .i64 c.ow], .agg #[.int .i64 (p : Int), .int .i64 a, .int .i64 l, .bool false], .agg #[.int .i64 4, .int .i64 1, .int .i64 0]] w (EvtP c p a l w) := by
  have HC := Lib.hid hc
  have HS := Lib.hid hs
  have HA := Lib.hid hA
  have hp : p ≤ 5 := by have := hs.2.1; simp only at this; omega
  clear hc hs hA
  go_enter Tryd.func8, Tryd.ntmps8
  go_wp2_with fail
  obtain ⟨K, hK⟩ : ∃ K, K = w.heap.size := ⟨_, rfl⟩
  rw [← hK]
  obtain ⟨V0, hV0⟩ : ∃ Zz, Zz = (((w.alloc (.cells #[.string c.nm, .int .i64 c.no, .int .i64 c.ph, .int .i64 c.mn, .int .i64 c.mx, .int .i64 c.st, .int .i64 c.fb, .int .i64 c.ow] 23)).alloc (.cells #[.int .i64 (p : Int), .int .i64 a, .int .i64 l, .bool false] 25)).alloc (.cells #[.int .i64 4, .int .i64 1, .int .i64 0] 42)).alloc (.cells #[.int .i64 0, .int .i64 0, .int .i64 0, .bool false] 25) := ⟨_, rfl⟩
  have k0 : Bk V0 K 23 #[.string c.nm, .int .i64 c.no, .int .i64 c.ph, .int .i64 c.mn, .int .i64 c.mx, .int .i64 c.st, .int .i64 c.fb, .int .i64 c.ow] := by rw [hV0, hK]; exact bkOf (by simp [at?_alloc, en2, en3])
  have k1 : Bk V0 (K + 1) 25 #[.int .i64 (p : Int), .int .i64 a, .int .i64 l, .bool false] := by rw [hV0, hK]; exact bkOf (by simp [at?_alloc, en2, en3])
  have k2 : Bk V0 (K + 1 + 1) 42 #[.int .i64 4, .int .i64 1, .int .i64 0] := by rw [hV0, hK]; exact bkOf (by simp [at?_alloc, en2, en3])
  have k3 : Bk V0 (K + 1 + 1 + 1) 25 #[.int .i64 0, .int .i64 0, .int .i64 0, .bool false] := by rw [hV0, hK]; exact bkOf (by simp [at?_alloc, en2, en3])
  have hbV : Below w.heap.size w V0 := by rw [hV0]; exact (al3 _ _ _ _).alloc (by simp; omega) _
  rw [← hV0]
  clear hV0
  have HKW := Lib.hid hK
  clear hK
  refine (CValid_yes c ⟨p, a, l, false⟩ V0 HC.out HS.out).mono ?_
  rintro e W1 ⟨rfl, hb1⟩
  have K0 := Lib.hid (k0.next hb1)
  have K1 := Lib.hid (k1.next hb1)
  have K2 := Lib.hid (k2.next hb1)
  have K3 := Lib.hid (k3.next hb1)
  have HB1 := Lib.hid (bt hb1 hbV)
  clear k0 k1 k2 k3 hb1 hbV
  obtain ⟨e0, e1, e2⟩ := bx3 K2.out
  obtain ⟨c0, c1, c2, c3, c4, c5, c6, c7⟩ := bx8 K0.out
  have lt := K3.out.lt
  go_wp2_with fail
  refine (cinside_yes 4 1 9 _ (by omega) (by omega)).mono ?_
  rintro e w' ⟨rfl, rfl⟩
  go_wp2_with fail
  refine (vEvent_yes c 4 1 0 _ (by omega) (by omega) (by omega) (by omega)).mono ?_
  rintro e W2 ⟨rfl, hb2⟩
  clear e0 e1 e2 c0 c1 c2 c3 c4 c5 c6 c7 lt
  replace K0 := Lib.hid (K0.out.next hb2)
  replace K1 := Lib.hid (K1.out.next hb2)
  replace K2 := Lib.hid (K2.out.next hb2)
  replace K3 := Lib.hid (K3.out.next hb2)
  replace HB1 := Lib.hid (bt hb2 HB1.out)
  clear hb2
  have HA2 := Lib.hid (HA.out.next HB1.out)
  obtain ⟨v, hv⟩ : ∃ v, v = tabL.getD (4 * 6 + p) 0 := ⟨_, rfl⟩
  have t0 := HA2.out.2 (4 * 6 + p) (by omega)
  rw [← hv] at t0
  have hvs := (show ∀ p, p < 6 → (tabL.getD (4 * 6 + p) 0 = -3 ∨ tabL.getD (4 * 6 + p) 0 = -1) by decide) p (by omega)
  rw [← hv] at hvs
  have HVS := Lib.hid hvs
  have hpI : (0 : Int) ≤ (p : Int) := by omega
  have hpJ : (p : Int) < 6 := by omega
  obtain ⟨e0, e1, e2⟩ := bx3 K2.out
  obtain ⟨s0, s1, s2, s3⟩ := bx4 K1.out
  have l1 := K1.out.lt
  have l3 := K3.out.lt
  clear hv hvs
  go_wp2
  go_quiet (fail)
  obtain ⟨W3, hW3⟩ : ∃ Zz, Zz = W2.drewN nq := ⟨_, rfl⟩
  have hb3 : Below W2.heap.size W2 W3 := by rw [hW3]; exact belowDrew (Below.refl _ _) _
  rw [← hW3]
  clear hW3
  replace K0 := Lib.hid (K0.out.next hb3)
  replace K1 := Lib.hid (K1.out.next hb3)
  replace K2 := Lib.hid (K2.out.next hb3)
  replace K3 := Lib.hid (K3.out.next hb3)
  replace HB1 := Lib.hid (bt hb3 HB1.out)
  clear e0 e1 e2 s0 s1 s2 s3 t0 l1 l3 hb3 HA2
  obtain ⟨e0, e1, e2⟩ := bx3 K2.out
  obtain ⟨s0, s1, s2, s3⟩ := bx4 K1.out
  obtain ⟨r0, r1, r2, r3⟩ := bx4 K3.out
  have fs0 := K1.out.frozen 0
  have fs1 := K1.out.frozen 1
  have fs2 := K1.out.frozen 2
  have fs3 := K1.out.frozen 3
  have fr0 := K3.out.frozen 0
  have fr1 := K3.out.frozen 1
  have fr2 := K3.out.frozen 2
  have fr3 := K3.out.frozen 3
  have l3 := K3.out.lt
  rcases HVS.out with rfl | rfl
  · go_wp2_with fail
    refine (decided_evt _ a l 4 1 3 0 _ (by omega)).mono ?_
    rintro e W4 ⟨rfl, hb4⟩
    replace K1 := Lib.hid (K1.out.next hb4)
    replace K2 := Lib.hid (K2.out.next hb4)
    replace K3 := Lib.hid (K3.out.next hb4)
    replace HB1 := Lib.hid (bt hb4 HB1.out)
    clear e0 e1 e2 s0 s1 s2 s3 r0 r1 r2 r3 fs0 fs1 fs2 fs3 fr0 fr1 fr2 fr3 l3 hb4
    obtain ⟨s0, s1, s2, s3⟩ := bx4 K1.out
    have fs0 := K1.out.frozen 0
    have fs1 := K1.out.frozen 1
    have fs2 := K1.out.frozen 2
    have fs3 := K1.out.frozen 3
    obtain ⟨e0, e1, e2⟩ := bx3 K2.out
    have le := K2.out.lt
    have l3 := K3.out.lt
    go_wp2_with fail
    obtain ⟨X, hX⟩ : ∃ Zz, Zz = (((W4.setCell ⟨K + 1, 0, none⟩ (.int .i64 3)).setCell ⟨K + 1, 1, none⟩ (.int .i64 a)).setCell ⟨K + 1, 2, none⟩ (.int .i64 l)).setCell ⟨K + 1, 3, none⟩ (.bool false) := ⟨_, rfl⟩
    have ks : Bk X (K + 1) 25 #[.int .i64 3, .int .i64 a, .int .i64 l, .bool false] := by rw [hX]; have := ((((K1.out.set 0 ((.int .i64 3))).set 1 ((.int .i64 a))).set 2 ((.int .i64 l))).set 3 ((.bool false))); simpa using this
    have ke : Bk X (K + 1 + 1) 42 #[.int .i64 4, .int .i64 1, .int .i64 0] := by rw [hX]; exact ((((K2.out.far (p := ⟨K + 1, 0, none⟩) (by simp only; omega) ((.int .i64 3))).far (p := ⟨K + 1, 1, none⟩) (by simp only; omega) ((.int .i64 a))).far (p := ⟨K + 1, 2, none⟩) (by simp only; omega) ((.int .i64 l))).far (p := ⟨K + 1, 3, none⟩) (by simp only; omega) ((.bool false)))
    have kr : Bk X (K + 1 + 1 + 1) 25 #[.int .i64 0, .int .i64 0, .int .i64 0, .bool false] := by rw [hX]; exact ((((K3.out.far (p := ⟨K + 1, 0, none⟩) (by simp only; omega) ((.int .i64 3))).far (p := ⟨K + 1, 1, none⟩) (by simp only; omega) ((.int .i64 a))).far (p := ⟨K + 1, 2, none⟩) (by simp only; omega) ((.int .i64 l))).far (p := ⟨K + 1, 3, none⟩) (by simp only; omega) ((.bool false)))
    have hbx : Below w.heap.size w X := by rw [hX]; exact ((((HB1.out.setCell (p := ⟨K + 1, 0, none⟩) (by have := HKW.out; simp only; omega) _).setCell (p := ⟨K + 1, 1, none⟩) (by have := HKW.out; simp only; omega) _).setCell (p := ⟨K + 1, 2, none⟩) (by have := HKW.out; simp only; omega) _).setCell (p := ⟨K + 1, 3, none⟩) (by have := HKW.out; simp only; omega) _)
    rw [← hX]
    clear hX
    have KS := Lib.hid ks
    have KE := Lib.hid ke
    have KR := Lib.hid kr
    have HBX := Lib.hid hbx
    clear ks ke kr hbx s0 s1 s2 s3 fs0 fs1 fs2 fs3 e0 e1 e2 le l3
    obtain ⟨e0, e1, e2⟩ := bx3 KE.out
    have le := KE.out.lt
    go_wp2_with fail
    refine (chgN_any 4 1 0 _ (by omega) (by omega)).mono ?_
    rintro e Y ⟨rfl, hb5⟩
    clear e0 e1 e2 le
    replace KS := Lib.hid (KS.out.next hb5)
    replace KR := Lib.hid (KR.out.next hb5)
    replace HBX := Lib.hid (bt hb5 HBX.out)
    clear hb5
    go_wp2_with fail
    refine (act4_any _ _).mono ?_
    rintro e Y' ⟨rfl, rfl⟩
    obtain ⟨s0, s1, s2, s3⟩ := bx4 KS.out
    obtain ⟨r0, r1, r2, r3⟩ := bx4 KR.out
    have fr0 := KR.out.frozen 0
    have fr1 := KR.out.frozen 1
    have fr2 := KR.out.frozen 2
    have fr3 := KR.out.frozen 3
    have ls := KS.out.lt
    have lr := KR.out.lt
    go_wp2
    obtain ⟨Y5, hY5⟩ : ∃ Zz, Zz = (((Y.setCell ⟨K + 1 + 1 + 1, 0, none⟩ (.int .i64 3)).setCell ⟨K + 1 + 1 + 1, 1, none⟩ (.int .i64 a)).setCell ⟨K + 1 + 1 + 1, 2, none⟩ (.int .i64 l)).setCell ⟨K + 1 + 1 + 1, 3, none⟩ (.bool false) := ⟨_, rfl⟩
    have k5 : Bk Y5 (K + 1 + 1 + 1) 25 #[.int .i64 3, .int .i64 a, .int .i64 l, .bool false] := by rw [hY5]; have := ((((KR.out.set 0 ((.int .i64 3))).set 1 ((.int .i64 a))).set 2 ((.int .i64 l))).set 3 ((.bool false))); simpa using this
    have hb5 : Below w.heap.size w Y5 := by rw [hY5]; exact ((((HBX.out.setCell (p := ⟨K + 1 + 1 + 1, 0, none⟩) (by have := HKW.out; simp only; omega) _).setCell (p := ⟨K + 1 + 1 + 1, 1, none⟩) (by have := HKW.out; simp only; omega) _).setCell (p := ⟨K + 1 + 1 + 1, 2, none⟩) (by have := HKW.out; simp only; omega) _).setCell (p := ⟨K + 1 + 1 + 1, 3, none⟩) (by have := HKW.out; simp only; omega) _)
    rw [← hY5]
    clear hY5
    obtain ⟨q0, q1, q2, q3⟩ := bx4 k5
    exact bodyPost_ret (v := .tuple #[.agg #[.int .i64 3, .int .i64 a, .int .i64 l, .bool false], .int .i64 0]) (by simp [results, Tryd.results8, go_sem, q0, q1, q2, q3]) rfl ⟨_, _, _, _, rfl, fun _ => ⟨3, by omega, rfl, rfl, rfl⟩, hb5⟩
  · go_wp2
    obtain ⟨W4, hW4⟩ : ∃ Zz, Zz = (((W3.setCell ⟨K + 1 + 1 + 1, 0, none⟩ (.int .i64 0)).setCell ⟨K + 1 + 1 + 1, 1, none⟩ (.int .i64 0)).setCell ⟨K + 1 + 1 + 1, 2, none⟩ (.int .i64 0)).setCell ⟨K + 1 + 1 + 1, 3, none⟩ (.bool false) := ⟨_, rfl⟩
    have k4 : Bk W4 (K + 1 + 1 + 1) 25 #[.int .i64 0, .int .i64 0, .int .i64 0, .bool false] := by rw [hW4]; have := ((((K3.out.set 0 ((.int .i64 0))).set 1 ((.int .i64 0))).set 2 ((.int .i64 0))).set 3 ((.bool false))); simpa using this
    have hb4 : Below w.heap.size w W4 := by rw [hW4]; exact ((((HB1.out.setCell (p := ⟨K + 1 + 1 + 1, 0, none⟩) (by have := HKW.out; simp only; omega) _).setCell (p := ⟨K + 1 + 1 + 1, 1, none⟩) (by have := HKW.out; simp only; omega) _).setCell (p := ⟨K + 1 + 1 + 1, 2, none⟩) (by have := HKW.out; simp only; omega) _).setCell (p := ⟨K + 1 + 1 + 1, 3, none⟩) (by have := HKW.out; simp only; omega) _)
    rw [← hW4]
    clear hW4
    obtain ⟨q0, q1, q2, q3⟩ := bx4 k4
    exact bodyPost_ret (v := .tuple #[.agg #[.int .i64 0, .int .i64 0, .int .i64 0, .bool false], .int .i64 6]) (by simp [results, Tryd.results8, go_sem, q0, q1, q2, q3]) rfl ⟨_, _, _, _, rfl, fun h => absurd h (by decide), hb4⟩
set_option maxHeartbeats 4000000 in
theorem Step_5 (c : Chg) (p : Nat) (a l : Int) (w : World) (hc : c.Ok) (hs : Cst.Ok c ⟨p, a, l, false⟩) (hA : Af w) : Calls Tryd.prog 8 #[.agg #[.string c.nm, .int .i64 c.no, .int .i64 c.ph, .int .i64 c.mn, .int .i64 c.mx, .int .i64 c.st, .int .i64 c.fb, .int .i64 c.ow], .agg #[.int .i64 (p : Int), .int .i64 a, .int .i64 l, .bool false], .agg #[.int .i64 5, .int .i64 0, .int .i64 0]] w (EvtP c p a l w) := by
  have HC := Lib.hid hc
  have HS := Lib.hid hs
  have HA := Lib.hid hA
  have hp : p ≤ 5 := by have := hs.2.1; simp only at this; omega
  clear hc hs hA
  go_enter Tryd.func8, Tryd.ntmps8
  go_wp2_with fail
  obtain ⟨K, hK⟩ : ∃ K, K = w.heap.size := ⟨_, rfl⟩
  rw [← hK]
  obtain ⟨V0, hV0⟩ : ∃ Zz, Zz = (((w.alloc (.cells #[.string c.nm, .int .i64 c.no, .int .i64 c.ph, .int .i64 c.mn, .int .i64 c.mx, .int .i64 c.st, .int .i64 c.fb, .int .i64 c.ow] 23)).alloc (.cells #[.int .i64 (p : Int), .int .i64 a, .int .i64 l, .bool false] 25)).alloc (.cells #[.int .i64 5, .int .i64 0, .int .i64 0] 42)).alloc (.cells #[.int .i64 0, .int .i64 0, .int .i64 0, .bool false] 25) := ⟨_, rfl⟩
  have k0 : Bk V0 K 23 #[.string c.nm, .int .i64 c.no, .int .i64 c.ph, .int .i64 c.mn, .int .i64 c.mx, .int .i64 c.st, .int .i64 c.fb, .int .i64 c.ow] := by rw [hV0, hK]; exact bkOf (by simp [at?_alloc, en2, en3])
  have k1 : Bk V0 (K + 1) 25 #[.int .i64 (p : Int), .int .i64 a, .int .i64 l, .bool false] := by rw [hV0, hK]; exact bkOf (by simp [at?_alloc, en2, en3])
  have k2 : Bk V0 (K + 1 + 1) 42 #[.int .i64 5, .int .i64 0, .int .i64 0] := by rw [hV0, hK]; exact bkOf (by simp [at?_alloc, en2, en3])
  have k3 : Bk V0 (K + 1 + 1 + 1) 25 #[.int .i64 0, .int .i64 0, .int .i64 0, .bool false] := by rw [hV0, hK]; exact bkOf (by simp [at?_alloc, en2, en3])
  have hbV : Below w.heap.size w V0 := by rw [hV0]; exact (al3 _ _ _ _).alloc (by simp; omega) _
  rw [← hV0]
  clear hV0
  have HKW := Lib.hid hK
  clear hK
  refine (CValid_yes c ⟨p, a, l, false⟩ V0 HC.out HS.out).mono ?_
  rintro e W1 ⟨rfl, hb1⟩
  have K0 := Lib.hid (k0.next hb1)
  have K1 := Lib.hid (k1.next hb1)
  have K2 := Lib.hid (k2.next hb1)
  have K3 := Lib.hid (k3.next hb1)
  have HB1 := Lib.hid (bt hb1 hbV)
  clear k0 k1 k2 k3 hb1 hbV
  obtain ⟨e0, e1, e2⟩ := bx3 K2.out
  obtain ⟨c0, c1, c2, c3, c4, c5, c6, c7⟩ := bx8 K0.out
  have lt := K3.out.lt
  go_wp2_with fail
  refine (cinside_yes 5 1 9 _ (by omega) (by omega)).mono ?_
  rintro e w' ⟨rfl, rfl⟩
  go_wp2_with fail
  refine (vEvent_yes c 5 0 0 _ (by omega) (by omega) (by omega) (by omega)).mono ?_
  rintro e W2 ⟨rfl, hb2⟩
  clear e0 e1 e2 c0 c1 c2 c3 c4 c5 c6 c7 lt
  replace K0 := Lib.hid (K0.out.next hb2)
  replace K1 := Lib.hid (K1.out.next hb2)
  replace K2 := Lib.hid (K2.out.next hb2)
  replace K3 := Lib.hid (K3.out.next hb2)
  replace HB1 := Lib.hid (bt hb2 HB1.out)
  clear hb2
  have HA2 := Lib.hid (HA.out.next HB1.out)
  obtain ⟨v, hv⟩ : ∃ v, v = tabL.getD (5 * 6 + p) 0 := ⟨_, rfl⟩
  have t0 := HA2.out.2 (5 * 6 + p) (by omega)
  rw [← hv] at t0
  have hvs := (show ∀ p, p < 6 → (tabL.getD (5 * 6 + p) 0 = -1 ∨ tabL.getD (5 * 6 + p) 0 = 4) by decide) p (by omega)
  rw [← hv] at hvs
  have HVS := Lib.hid hvs
  have hpI : (0 : Int) ≤ (p : Int) := by omega
  have hpJ : (p : Int) < 6 := by omega
  obtain ⟨e0, e1, e2⟩ := bx3 K2.out
  obtain ⟨s0, s1, s2, s3⟩ := bx4 K1.out
  have l1 := K1.out.lt
  have l3 := K3.out.lt
  clear hv hvs
  go_wp2
  go_quiet (fail)
  obtain ⟨W3, hW3⟩ : ∃ Zz, Zz = W2.drewN nq := ⟨_, rfl⟩
  have hb3 : Below W2.heap.size W2 W3 := by rw [hW3]; exact belowDrew (Below.refl _ _) _
  rw [← hW3]
  clear hW3
  replace K0 := Lib.hid (K0.out.next hb3)
  replace K1 := Lib.hid (K1.out.next hb3)
  replace K2 := Lib.hid (K2.out.next hb3)
  replace K3 := Lib.hid (K3.out.next hb3)
  replace HB1 := Lib.hid (bt hb3 HB1.out)
  clear e0 e1 e2 s0 s1 s2 s3 t0 l1 l3 hb3 HA2
  obtain ⟨e0, e1, e2⟩ := bx3 K2.out
  obtain ⟨s0, s1, s2, s3⟩ := bx4 K1.out
  obtain ⟨r0, r1, r2, r3⟩ := bx4 K3.out
  have fs0 := K1.out.frozen 0
  have fs1 := K1.out.frozen 1
  have fs2 := K1.out.frozen 2
  have fs3 := K1.out.frozen 3
  have fr0 := K3.out.frozen 0
  have fr1 := K3.out.frozen 1
  have fr2 := K3.out.frozen 2
  have fr3 := K3.out.frozen 3
  have l3 := K3.out.lt
  rcases HVS.out with rfl | rfl
  · go_wp2
    obtain ⟨W4, hW4⟩ : ∃ Zz, Zz = (((W3.setCell ⟨K + 1 + 1 + 1, 0, none⟩ (.int .i64 0)).setCell ⟨K + 1 + 1 + 1, 1, none⟩ (.int .i64 0)).setCell ⟨K + 1 + 1 + 1, 2, none⟩ (.int .i64 0)).setCell ⟨K + 1 + 1 + 1, 3, none⟩ (.bool false) := ⟨_, rfl⟩
    have k4 : Bk W4 (K + 1 + 1 + 1) 25 #[.int .i64 0, .int .i64 0, .int .i64 0, .bool false] := by rw [hW4]; have := ((((K3.out.set 0 ((.int .i64 0))).set 1 ((.int .i64 0))).set 2 ((.int .i64 0))).set 3 ((.bool false))); simpa using this
    have hb4 : Below w.heap.size w W4 := by rw [hW4]; exact ((((HB1.out.setCell (p := ⟨K + 1 + 1 + 1, 0, none⟩) (by have := HKW.out; simp only; omega) _).setCell (p := ⟨K + 1 + 1 + 1, 1, none⟩) (by have := HKW.out; simp only; omega) _).setCell (p := ⟨K + 1 + 1 + 1, 2, none⟩) (by have := HKW.out; simp only; omega) _).setCell (p := ⟨K + 1 + 1 + 1, 3, none⟩) (by have := HKW.out; simp only; omega) _)
    rw [← hW4]
    clear hW4
    obtain ⟨q0, q1, q2, q3⟩ := bx4 k4
    exact bodyPost_ret (v := .tuple #[.agg #[.int .i64 0, .int .i64 0, .int .i64 0, .bool false], .int .i64 6]) (by simp [results, Tryd.results8, go_sem, q0, q1, q2, q3]) rfl ⟨_, _, _, _, rfl, fun h => absurd h (by decide), hb4⟩
  · go_wp2_with fail
    obtain ⟨X, hX⟩ : ∃ Zz, Zz = W3.setCell ⟨K + 1, 0, none⟩ (.int .i64 4) := ⟨_, rfl⟩
    have ks : Bk X (K + 1) 25 #[.int .i64 4, .int .i64 a, .int .i64 l, .bool false] := by rw [hX]; have := K1.out.set 0 (.int .i64 4); simpa using this
    have ke : Bk X (K + 1 + 1) 42 #[.int .i64 5, .int .i64 0, .int .i64 0] := by rw [hX]; exact K2.out.far (by simp only; omega) _
    have kr : Bk X (K + 1 + 1 + 1) 25 #[.int .i64 0, .int .i64 0, .int .i64 0, .bool false] := by rw [hX]; exact K3.out.far (by simp only; omega) _
    have hbx : Below w.heap.size w X := by rw [hX]; exact HB1.out.setCell (p := ⟨K + 1, 0, none⟩) (by have := HKW.out; simp only; omega) _
    rw [← hX]
    clear hX
    have KS := Lib.hid ks
    have KE := Lib.hid ke
    have KR := Lib.hid kr
    have HBX := Lib.hid hbx
    clear ks ke kr hbx
    clear e0 e1 e2 s0 s1 s2 s3 r0 r1 r2 r3 fs0 fs1 fs2 fs3 fr0 fr1 fr2 fr3 l3
    obtain ⟨e0, e1, e2⟩ := bx3 KE.out
    have le := KE.out.lt
    go_wp2_with fail
    refine (chgN_any 5 0 0 _ (by omega) (by omega)).mono ?_
    rintro e Y ⟨rfl, hb5⟩
    clear e0 e1 e2 le
    replace KS := Lib.hid (KS.out.next hb5)
    replace KR := Lib.hid (KR.out.next hb5)
    replace HBX := Lib.hid (bt hb5 HBX.out)
    clear hb5
    go_wp2_with fail
    refine (act4_any _ _).mono ?_
    rintro e Y' ⟨rfl, rfl⟩
    obtain ⟨s0, s1, s2, s3⟩ := bx4 KS.out
    obtain ⟨r0, r1, r2, r3⟩ := bx4 KR.out
    have fr0 := KR.out.frozen 0
    have fr1 := KR.out.frozen 1
    have fr2 := KR.out.frozen 2
    have fr3 := KR.out.frozen 3
    have ls := KS.out.lt
    have lr := KR.out.lt
    go_wp2
    obtain ⟨Y5, hY5⟩ : ∃ Zz, Zz = (((Y.setCell ⟨K + 1 + 1 + 1, 0, none⟩ (.int .i64 4)).setCell ⟨K + 1 + 1 + 1, 1, none⟩ (.int .i64 a)).setCell ⟨K + 1 + 1 + 1, 2, none⟩ (.int .i64 l)).setCell ⟨K + 1 + 1 + 1, 3, none⟩ (.bool false) := ⟨_, rfl⟩
    have k5 : Bk Y5 (K + 1 + 1 + 1) 25 #[.int .i64 4, .int .i64 a, .int .i64 l, .bool false] := by rw [hY5]; have := ((((KR.out.set 0 ((.int .i64 4))).set 1 ((.int .i64 a))).set 2 ((.int .i64 l))).set 3 ((.bool false))); simpa using this
    have hb5 : Below w.heap.size w Y5 := by rw [hY5]; exact ((((HBX.out.setCell (p := ⟨K + 1 + 1 + 1, 0, none⟩) (by have := HKW.out; simp only; omega) _).setCell (p := ⟨K + 1 + 1 + 1, 1, none⟩) (by have := HKW.out; simp only; omega) _).setCell (p := ⟨K + 1 + 1 + 1, 2, none⟩) (by have := HKW.out; simp only; omega) _).setCell (p := ⟨K + 1 + 1 + 1, 3, none⟩) (by have := HKW.out; simp only; omega) _)
    rw [← hY5]
    clear hY5
    obtain ⟨q0, q1, q2, q3⟩ := bx4 k5
    exact bodyPost_ret (v := .tuple #[.agg #[.int .i64 4, .int .i64 a, .int .i64 l, .bool false], .int .i64 0]) (by simp [results, Tryd.results8, go_sem, q0, q1, q2, q3]) rfl ⟨_, _, _, _, rfl, fun _ => ⟨4, by omega, rfl, rfl, rfl⟩, hb5⟩
set_option maxHeartbeats 4000000 in
theorem Step_6 (c : Chg) (p : Nat) (a l : Int) (w : World) (hc : c.Ok) (hs : Cst.Ok c ⟨p, a, l, false⟩) (hA : Af w) : Calls Tryd.prog 8 #[.agg #[.string c.nm, .int .i64 c.no, .int .i64 c.ph, .int .i64 c.mn, .int .i64 c.mx, .int .i64 c.st, .int .i64 c.fb, .int .i64 c.ow], .agg #[.int .i64 (p : Int), .int .i64 a, .int .i64 l, .bool false], .agg #[.int .i64 6, .int .i64 0, .int .i64 0]] w (EvtP c p a l w) := by
  have HC := Lib.hid hc
  have HS := Lib.hid hs
  have HA := Lib.hid hA
  have hp : p ≤ 5 := by have := hs.2.1; simp only at this; omega
  clear hc hs hA
  go_enter Tryd.func8, Tryd.ntmps8
  go_wp2_with fail
  obtain ⟨K, hK⟩ : ∃ K, K = w.heap.size := ⟨_, rfl⟩
  rw [← hK]
  obtain ⟨V0, hV0⟩ : ∃ Zz, Zz = (((w.alloc (.cells #[.string c.nm, .int .i64 c.no, .int .i64 c.ph, .int .i64 c.mn, .int .i64 c.mx, .int .i64 c.st, .int .i64 c.fb, .int .i64 c.ow] 23)).alloc (.cells #[.int .i64 (p : Int), .int .i64 a, .int .i64 l, .bool false] 25)).alloc (.cells #[.int .i64 6, .int .i64 0, .int .i64 0] 42)).alloc (.cells #[.int .i64 0, .int .i64 0, .int .i64 0, .bool false] 25) := ⟨_, rfl⟩
  have k0 : Bk V0 K 23 #[.string c.nm, .int .i64 c.no, .int .i64 c.ph, .int .i64 c.mn, .int .i64 c.mx, .int .i64 c.st, .int .i64 c.fb, .int .i64 c.ow] := by rw [hV0, hK]; exact bkOf (by simp [at?_alloc, en2, en3])
  have k1 : Bk V0 (K + 1) 25 #[.int .i64 (p : Int), .int .i64 a, .int .i64 l, .bool false] := by rw [hV0, hK]; exact bkOf (by simp [at?_alloc, en2, en3])
  have k2 : Bk V0 (K + 1 + 1) 42 #[.int .i64 6, .int .i64 0, .int .i64 0] := by rw [hV0, hK]; exact bkOf (by simp [at?_alloc, en2, en3])
  have k3 : Bk V0 (K + 1 + 1 + 1) 25 #[.int .i64 0, .int .i64 0, .int .i64 0, .bool false] := by rw [hV0, hK]; exact bkOf (by simp [at?_alloc, en2, en3])
  have hbV : Below w.heap.size w V0 := by rw [hV0]; exact (al3 _ _ _ _).alloc (by simp; omega) _
  rw [← hV0]
  clear hV0
  have HKW := Lib.hid hK
  clear hK
  refine (CValid_yes c ⟨p, a, l, false⟩ V0 HC.out HS.out).mono ?_
  rintro e W1 ⟨rfl, hb1⟩
  have K0 := Lib.hid (k0.next hb1)
  have K1 := Lib.hid (k1.next hb1)
  have K2 := Lib.hid (k2.next hb1)
  have K3 := Lib.hid (k3.next hb1)
  have HB1 := Lib.hid (bt hb1 hbV)
  clear k0 k1 k2 k3 hb1 hbV
  obtain ⟨e0, e1, e2⟩ := bx3 K2.out
  obtain ⟨c0, c1, c2, c3, c4, c5, c6, c7⟩ := bx8 K0.out
  have lt := K3.out.lt
  go_wp2_with fail
  refine (cinside_yes 6 1 9 _ (by omega) (by omega)).mono ?_
  rintro e w' ⟨rfl, rfl⟩
  go_wp2_with fail
  refine (vEvent_yes c 6 0 0 _ (by omega) (by omega) (by omega) (by omega)).mono ?_
  rintro e W2 ⟨rfl, hb2⟩
  clear e0 e1 e2 c0 c1 c2 c3 c4 c5 c6 c7 lt
  replace K0 := Lib.hid (K0.out.next hb2)
  replace K1 := Lib.hid (K1.out.next hb2)
  replace K2 := Lib.hid (K2.out.next hb2)
  replace K3 := Lib.hid (K3.out.next hb2)
  replace HB1 := Lib.hid (bt hb2 HB1.out)
  clear hb2
  have HA2 := Lib.hid (HA.out.next HB1.out)
  obtain ⟨v, hv⟩ : ∃ v, v = tabL.getD (6 * 6 + p) 0 := ⟨_, rfl⟩
  have t0 := HA2.out.2 (6 * 6 + p) (by omega)
  rw [← hv] at t0
  have hvs := (show ∀ p, p < 6 → (tabL.getD (6 * 6 + p) 0 = -3 ∨ tabL.getD (6 * 6 + p) 0 = -1) by decide) p (by omega)
  rw [← hv] at hvs
  have HVS := Lib.hid hvs
  have hpI : (0 : Int) ≤ (p : Int) := by omega
  have hpJ : (p : Int) < 6 := by omega
  obtain ⟨e0, e1, e2⟩ := bx3 K2.out
  obtain ⟨s0, s1, s2, s3⟩ := bx4 K1.out
  have l1 := K1.out.lt
  have l3 := K3.out.lt
  clear hv hvs
  go_wp2
  go_quiet (fail)
  obtain ⟨W3, hW3⟩ : ∃ Zz, Zz = W2.drewN nq := ⟨_, rfl⟩
  have hb3 : Below W2.heap.size W2 W3 := by rw [hW3]; exact belowDrew (Below.refl _ _) _
  rw [← hW3]
  clear hW3
  replace K0 := Lib.hid (K0.out.next hb3)
  replace K1 := Lib.hid (K1.out.next hb3)
  replace K2 := Lib.hid (K2.out.next hb3)
  replace K3 := Lib.hid (K3.out.next hb3)
  replace HB1 := Lib.hid (bt hb3 HB1.out)
  clear e0 e1 e2 s0 s1 s2 s3 t0 l1 l3 hb3 HA2
  obtain ⟨e0, e1, e2⟩ := bx3 K2.out
  obtain ⟨s0, s1, s2, s3⟩ := bx4 K1.out
  obtain ⟨r0, r1, r2, r3⟩ := bx4 K3.out
  have fs0 := K1.out.frozen 0
  have fs1 := K1.out.frozen 1
  have fs2 := K1.out.frozen 2
  have fs3 := K1.out.frozen 3
  have fr0 := K3.out.frozen 0
  have fr1 := K3.out.frozen 1
  have fr2 := K3.out.frozen 2
  have fr3 := K3.out.frozen 3
  have l3 := K3.out.lt
  rcases HVS.out with rfl | rfl
  · go_wp2_with fail
    refine (decided_evt _ a l 6 0 1 0 _ (by omega)).mono ?_
    rintro e W4 ⟨rfl, hb4⟩
    replace K1 := Lib.hid (K1.out.next hb4)
    replace K2 := Lib.hid (K2.out.next hb4)
    replace K3 := Lib.hid (K3.out.next hb4)
    replace HB1 := Lib.hid (bt hb4 HB1.out)
    clear e0 e1 e2 s0 s1 s2 s3 r0 r1 r2 r3 fs0 fs1 fs2 fs3 fr0 fr1 fr2 fr3 l3 hb4
    obtain ⟨s0, s1, s2, s3⟩ := bx4 K1.out
    have fs0 := K1.out.frozen 0
    have fs1 := K1.out.frozen 1
    have fs2 := K1.out.frozen 2
    have fs3 := K1.out.frozen 3
    obtain ⟨e0, e1, e2⟩ := bx3 K2.out
    have le := K2.out.lt
    have l3 := K3.out.lt
    go_wp2_with fail
    obtain ⟨X, hX⟩ : ∃ Zz, Zz = (((W4.setCell ⟨K + 1, 0, none⟩ (.int .i64 1)).setCell ⟨K + 1, 1, none⟩ (.int .i64 a)).setCell ⟨K + 1, 2, none⟩ (.int .i64 l)).setCell ⟨K + 1, 3, none⟩ (.bool false) := ⟨_, rfl⟩
    have ks : Bk X (K + 1) 25 #[.int .i64 1, .int .i64 a, .int .i64 l, .bool false] := by rw [hX]; have := ((((K1.out.set 0 ((.int .i64 1))).set 1 ((.int .i64 a))).set 2 ((.int .i64 l))).set 3 ((.bool false))); simpa using this
    have ke : Bk X (K + 1 + 1) 42 #[.int .i64 6, .int .i64 0, .int .i64 0] := by rw [hX]; exact ((((K2.out.far (p := ⟨K + 1, 0, none⟩) (by simp only; omega) ((.int .i64 1))).far (p := ⟨K + 1, 1, none⟩) (by simp only; omega) ((.int .i64 a))).far (p := ⟨K + 1, 2, none⟩) (by simp only; omega) ((.int .i64 l))).far (p := ⟨K + 1, 3, none⟩) (by simp only; omega) ((.bool false)))
    have kr : Bk X (K + 1 + 1 + 1) 25 #[.int .i64 0, .int .i64 0, .int .i64 0, .bool false] := by rw [hX]; exact ((((K3.out.far (p := ⟨K + 1, 0, none⟩) (by simp only; omega) ((.int .i64 1))).far (p := ⟨K + 1, 1, none⟩) (by simp only; omega) ((.int .i64 a))).far (p := ⟨K + 1, 2, none⟩) (by simp only; omega) ((.int .i64 l))).far (p := ⟨K + 1, 3, none⟩) (by simp only; omega) ((.bool false)))
    have hbx : Below w.heap.size w X := by rw [hX]; exact ((((HB1.out.setCell (p := ⟨K + 1, 0, none⟩) (by have := HKW.out; simp only; omega) _).setCell (p := ⟨K + 1, 1, none⟩) (by have := HKW.out; simp only; omega) _).setCell (p := ⟨K + 1, 2, none⟩) (by have := HKW.out; simp only; omega) _).setCell (p := ⟨K + 1, 3, none⟩) (by have := HKW.out; simp only; omega) _)
    rw [← hX]
    clear hX
    have KS := Lib.hid ks
    have KE := Lib.hid ke
    have KR := Lib.hid kr
    have HBX := Lib.hid hbx
    clear ks ke kr hbx s0 s1 s2 s3 fs0 fs1 fs2 fs3 e0 e1 e2 le l3
    obtain ⟨e0, e1, e2⟩ := bx3 KE.out
    have le := KE.out.lt
    go_wp2_with fail
    refine (chgN_any 6 0 0 _ (by omega) (by omega)).mono ?_
    rintro e Y ⟨rfl, hb5⟩
    clear e0 e1 e2 le
    replace KS := Lib.hid (KS.out.next hb5)
    replace KR := Lib.hid (KR.out.next hb5)
    replace HBX := Lib.hid (bt hb5 HBX.out)
    clear hb5
    go_wp2_with fail
    refine (act4_any _ _).mono ?_
    rintro e Y' ⟨rfl, rfl⟩
    obtain ⟨s0, s1, s2, s3⟩ := bx4 KS.out
    obtain ⟨r0, r1, r2, r3⟩ := bx4 KR.out
    have fr0 := KR.out.frozen 0
    have fr1 := KR.out.frozen 1
    have fr2 := KR.out.frozen 2
    have fr3 := KR.out.frozen 3
    have ls := KS.out.lt
    have lr := KR.out.lt
    go_wp2
    obtain ⟨Y5, hY5⟩ : ∃ Zz, Zz = (((Y.setCell ⟨K + 1 + 1 + 1, 0, none⟩ (.int .i64 1)).setCell ⟨K + 1 + 1 + 1, 1, none⟩ (.int .i64 a)).setCell ⟨K + 1 + 1 + 1, 2, none⟩ (.int .i64 l)).setCell ⟨K + 1 + 1 + 1, 3, none⟩ (.bool false) := ⟨_, rfl⟩
    have k5 : Bk Y5 (K + 1 + 1 + 1) 25 #[.int .i64 1, .int .i64 a, .int .i64 l, .bool false] := by rw [hY5]; have := ((((KR.out.set 0 ((.int .i64 1))).set 1 ((.int .i64 a))).set 2 ((.int .i64 l))).set 3 ((.bool false))); simpa using this
    have hb5 : Below w.heap.size w Y5 := by rw [hY5]; exact ((((HBX.out.setCell (p := ⟨K + 1 + 1 + 1, 0, none⟩) (by have := HKW.out; simp only; omega) _).setCell (p := ⟨K + 1 + 1 + 1, 1, none⟩) (by have := HKW.out; simp only; omega) _).setCell (p := ⟨K + 1 + 1 + 1, 2, none⟩) (by have := HKW.out; simp only; omega) _).setCell (p := ⟨K + 1 + 1 + 1, 3, none⟩) (by have := HKW.out; simp only; omega) _)
    rw [← hY5]
    clear hY5
    obtain ⟨q0, q1, q2, q3⟩ := bx4 k5
    exact bodyPost_ret (v := .tuple #[.agg #[.int .i64 1, .int .i64 a, .int .i64 l, .bool false], .int .i64 0]) (by simp [results, Tryd.results8, go_sem, q0, q1, q2, q3]) rfl ⟨_, _, _, _, rfl, fun _ => ⟨1, by omega, rfl, rfl, rfl⟩, hb5⟩
  · go_wp2
    obtain ⟨W4, hW4⟩ : ∃ Zz, Zz = (((W3.setCell ⟨K + 1 + 1 + 1, 0, none⟩ (.int .i64 0)).setCell ⟨K + 1 + 1 + 1, 1, none⟩ (.int .i64 0)).setCell ⟨K + 1 + 1 + 1, 2, none⟩ (.int .i64 0)).setCell ⟨K + 1 + 1 + 1, 3, none⟩ (.bool false) := ⟨_, rfl⟩
    have k4 : Bk W4 (K + 1 + 1 + 1) 25 #[.int .i64 0, .int .i64 0, .int .i64 0, .bool false] := by rw [hW4]; have := ((((K3.out.set 0 ((.int .i64 0))).set 1 ((.int .i64 0))).set 2 ((.int .i64 0))).set 3 ((.bool false))); simpa using this
    have hb4 : Below w.heap.size w W4 := by rw [hW4]; exact ((((HB1.out.setCell (p := ⟨K + 1 + 1 + 1, 0, none⟩) (by have := HKW.out; simp only; omega) _).setCell (p := ⟨K + 1 + 1 + 1, 1, none⟩) (by have := HKW.out; simp only; omega) _).setCell (p := ⟨K + 1 + 1 + 1, 2, none⟩) (by have := HKW.out; simp only; omega) _).setCell (p := ⟨K + 1 + 1 + 1, 3, none⟩) (by have := HKW.out; simp only; omega) _)
    rw [← hW4]
    clear hW4
    obtain ⟨q0, q1, q2, q3⟩ := bx4 k4
    exact bodyPost_ret (v := .tuple #[.agg #[.int .i64 0, .int .i64 0, .int .i64 0, .bool false], .int .i64 6]) (by simp [results, Tryd.results8, go_sem, q0, q1, q2, q3]) rfl ⟨_, _, _, _, rfl, fun h => absurd h (by decide), hb4⟩
set_option maxHeartbeats 4000000 in
theorem Step_7 (c : Chg) (p : Nat) (a l n m : Int) (w : World) (hc : c.Ok) (hs : Cst.Ok c ⟨p, a, l, false⟩) (hA : Af w) (n0 : 0 ≤ n) (n1 : n ≤ c.mx) (m0 : 1 ≤ m) (m1 : m ≤ 1000000) : Calls Tryd.prog 8 #[.agg #[.string c.nm, .int .i64 c.no, .int .i64 c.ph, .int .i64 c.mn, .int .i64 c.mx, .int .i64 c.st, .int .i64 c.fb, .int .i64 c.ow], .agg #[.int .i64 (p : Int), .int .i64 a, .int .i64 l, .bool false], .agg #[.int .i64 7, .int .i64 n, .int .i64 m]] w fun e w' => e = .returned (.tuple #[.agg #[.int .i64 (p : Int), .int .i64 n, .int .i64 m, .bool false], .int .i64 0]) ∧ Below w.heap.size w w' := by
  have HC := Lib.hid hc
  have HS := Lib.hid hs
  have HA := Lib.hid hA
  have hp : p ≤ 5 := by have := hs.2.1; simp only at this; omega
  clear hc hs hA
  go_enter Tryd.func8, Tryd.ntmps8
  go_wp2_with fail
  obtain ⟨K, hK⟩ : ∃ K, K = w.heap.size := ⟨_, rfl⟩
  rw [← hK]
  obtain ⟨V0, hV0⟩ : ∃ Zz, Zz = (((w.alloc (.cells #[.string c.nm, .int .i64 c.no, .int .i64 c.ph, .int .i64 c.mn, .int .i64 c.mx, .int .i64 c.st, .int .i64 c.fb, .int .i64 c.ow] 23)).alloc (.cells #[.int .i64 (p : Int), .int .i64 a, .int .i64 l, .bool false] 25)).alloc (.cells #[.int .i64 7, .int .i64 n, .int .i64 m] 42)).alloc (.cells #[.int .i64 0, .int .i64 0, .int .i64 0, .bool false] 25) := ⟨_, rfl⟩
  have k0 : Bk V0 K 23 #[.string c.nm, .int .i64 c.no, .int .i64 c.ph, .int .i64 c.mn, .int .i64 c.mx, .int .i64 c.st, .int .i64 c.fb, .int .i64 c.ow] := by rw [hV0, hK]; exact bkOf (by simp [at?_alloc, en2, en3])
  have k1 : Bk V0 (K + 1) 25 #[.int .i64 (p : Int), .int .i64 a, .int .i64 l, .bool false] := by rw [hV0, hK]; exact bkOf (by simp [at?_alloc, en2, en3])
  have k2 : Bk V0 (K + 1 + 1) 42 #[.int .i64 7, .int .i64 n, .int .i64 m] := by rw [hV0, hK]; exact bkOf (by simp [at?_alloc, en2, en3])
  have k3 : Bk V0 (K + 1 + 1 + 1) 25 #[.int .i64 0, .int .i64 0, .int .i64 0, .bool false] := by rw [hV0, hK]; exact bkOf (by simp [at?_alloc, en2, en3])
  have hbV : Below w.heap.size w V0 := by rw [hV0]; exact (al3 _ _ _ _).alloc (by simp; omega) _
  rw [← hV0]
  clear hV0
  have HKW := Lib.hid hK
  clear hK
  refine (CValid_yes c ⟨p, a, l, false⟩ V0 HC.out HS.out).mono ?_
  rintro e W1 ⟨rfl, hb1⟩
  have K0 := Lib.hid (k0.next hb1)
  have K1 := Lib.hid (k1.next hb1)
  have K2 := Lib.hid (k2.next hb1)
  have K3 := Lib.hid (k3.next hb1)
  have HB1 := Lib.hid (bt hb1 hbV)
  clear k0 k1 k2 k3 hb1 hbV
  obtain ⟨e0, e1, e2⟩ := bx3 K2.out
  obtain ⟨c0, c1, c2, c3, c4, c5, c6, c7⟩ := bx8 K0.out
  have lt := K3.out.lt
  go_wp2_with fail
  refine (cinside_yes 7 1 9 _ (by omega) (by omega)).mono ?_
  rintro e w' ⟨rfl, rfl⟩
  go_wp2_with fail
  refine (vEvent_yes c 7 n m _ (by omega) (by omega) (by omega) (by omega)).mono ?_
  rintro e W2 ⟨rfl, hb2⟩
  clear e0 e1 e2 c0 c1 c2 c3 c4 c5 c6 c7 lt
  replace K0 := Lib.hid (K0.out.next hb2)
  replace K1 := Lib.hid (K1.out.next hb2)
  replace K2 := Lib.hid (K2.out.next hb2)
  replace K3 := Lib.hid (K3.out.next hb2)
  replace HB1 := Lib.hid (bt hb2 HB1.out)
  clear hb2
  have HA2 := Lib.hid (HA.out.next HB1.out)
  obtain ⟨v, hv⟩ : ∃ v, v = tabL.getD (7 * 6 + p) 0 := ⟨_, rfl⟩
  have t0 := HA2.out.2 (7 * 6 + p) (by omega)
  rw [← hv] at t0
  have hvs := (show ∀ p, p < 6 → (tabL.getD (7 * 6 + p) 0 = -2) by decide) p (by omega)
  rw [← hv] at hvs
  have HVS := Lib.hid hvs
  have hpI : (0 : Int) ≤ (p : Int) := by omega
  have hpJ : (p : Int) < 6 := by omega
  obtain ⟨e0, e1, e2⟩ := bx3 K2.out
  obtain ⟨s0, s1, s2, s3⟩ := bx4 K1.out
  have l1 := K1.out.lt
  have l3 := K3.out.lt
  clear hv hvs
  go_wp2
  go_quiet (fail)
  obtain ⟨W3, hW3⟩ : ∃ Zz, Zz = W2.drewN nq := ⟨_, rfl⟩
  have hb3 : Below W2.heap.size W2 W3 := by rw [hW3]; exact belowDrew (Below.refl _ _) _
  rw [← hW3]
  clear hW3
  replace K0 := Lib.hid (K0.out.next hb3)
  replace K1 := Lib.hid (K1.out.next hb3)
  replace K2 := Lib.hid (K2.out.next hb3)
  replace K3 := Lib.hid (K3.out.next hb3)
  replace HB1 := Lib.hid (bt hb3 HB1.out)
  clear e0 e1 e2 s0 s1 s2 s3 t0 l1 l3 hb3 HA2
  obtain ⟨e0, e1, e2⟩ := bx3 K2.out
  obtain ⟨s0, s1, s2, s3⟩ := bx4 K1.out
  obtain ⟨r0, r1, r2, r3⟩ := bx4 K3.out
  have fs0 := K1.out.frozen 0
  have fs1 := K1.out.frozen 1
  have fs2 := K1.out.frozen 2
  have fs3 := K1.out.frozen 3
  have fr0 := K3.out.frozen 0
  have fr1 := K3.out.frozen 1
  have fr2 := K3.out.frozen 2
  have fr3 := K3.out.frozen 3
  have l3 := K3.out.lt
  obtain rfl := HVS.out
  have KS := K1
  have KE := K2
  have KR := K3
  have HBX := HB1
  clear K1 K2 K3 HB1 e0 e1 e2 s0 s1 s2 s3 r0 r1 r2 r3 fs0 fs1 fs2 fs3 fr0 fr1 fr2 fr3 l3
  obtain ⟨e0, e1, e2⟩ := bx3 KE.out
  have le := KE.out.lt
  go_wp2_with fail
  refine (chg7_any n m _).mono ?_
  rintro e Y ⟨bq, rfl, hbq, kq, hb5⟩
  have KQ := Lib.hid kq
  have HBQ := Lib.hid hbq
  clear kq hbq
  clear e0 e1 e2 le
  replace KS := Lib.hid (KS.out.next hb5)
  replace KR := Lib.hid (KR.out.next hb5)
  replace HBX := Lib.hid (bt hb5 HBX.out)
  clear hb5
  go_wp2_with fail
  refine (act1_any _ a l n m false (K + 1) bq Y KS.out KQ.out).mono ?_
  rintro e Y2 ⟨rfl, ks, hg⟩
  replace KS := Lib.hid ks
  replace KR := Lib.hid (KR.out.grown hg (by simp <;> omega))
  replace HBX := Lib.hid (HBX.out.grown hg HBX.out.size (fun j hj => by injection hj with hj; have := HKW.out; omega))
  clear ks hg
  obtain ⟨s0, s1, s2, s3⟩ := bx4 KS.out
  obtain ⟨r0, r1, r2, r3⟩ := bx4 KR.out
  have fr0 := KR.out.frozen 0
  have fr1 := KR.out.frozen 1
  have fr2 := KR.out.frozen 2
  have fr3 := KR.out.frozen 3
  have ls := KS.out.lt
  have lr := KR.out.lt
  go_wp2
  obtain ⟨Y5, hY5⟩ : ∃ Zz, Zz = (((Y2.setCell ⟨K + 1 + 1 + 1, 0, none⟩ (.int .i64 (p : Int))).setCell ⟨K + 1 + 1 + 1, 1, none⟩ (.int .i64 n)).setCell ⟨K + 1 + 1 + 1, 2, none⟩ (.int .i64 m)).setCell ⟨K + 1 + 1 + 1, 3, none⟩ (.bool false) := ⟨_, rfl⟩
  have k5 : Bk Y5 (K + 1 + 1 + 1) 25 #[.int .i64 (p : Int), .int .i64 n, .int .i64 m, .bool false] := by rw [hY5]; have := ((((KR.out.set 0 ((.int .i64 (p : Int)))).set 1 ((.int .i64 n))).set 2 ((.int .i64 m))).set 3 ((.bool false))); simpa using this
  have hb5 : Below w.heap.size w Y5 := by rw [hY5]; exact ((((HBX.out.setCell (p := ⟨K + 1 + 1 + 1, 0, none⟩) (by have := HKW.out; simp only; omega) _).setCell (p := ⟨K + 1 + 1 + 1, 1, none⟩) (by have := HKW.out; simp only; omega) _).setCell (p := ⟨K + 1 + 1 + 1, 2, none⟩) (by have := HKW.out; simp only; omega) _).setCell (p := ⟨K + 1 + 1 + 1, 3, none⟩) (by have := HKW.out; simp only; omega) _)
  rw [← hY5]
  clear hY5
  obtain ⟨q0, q1, q2, q3⟩ := bx4 k5
  exact bodyPost_ret (v := .tuple #[.agg #[.int .i64 (p : Int), .int .i64 n, .int .i64 m, .bool false], .int .i64 0]) (by simp [results, Tryd.results8, go_sem, q0, q1, q2, q3]) rfl ⟨rfl, hb5⟩
set_option maxHeartbeats 4000000 in
theorem Step_8 (c : Chg) (p : Nat) (a l a2 l2 : Int) (w : World) (ha2 : a2 = if l ≤ 1 then 0 else a) (hl2 : l2 = if l ≤ 1 then 0 else l - 1) (hc : c.Ok) (hs : Cst.Ok c ⟨p, a, l, false⟩) (hA : Af w) : Calls Tryd.prog 8 #[.agg #[.string c.nm, .int .i64 c.no, .int .i64 c.ph, .int .i64 c.mn, .int .i64 c.mx, .int .i64 c.st, .int .i64 c.fb, .int .i64 c.ow], .agg #[.int .i64 (p : Int), .int .i64 a, .int .i64 l, .bool false], .agg #[.int .i64 8, .int .i64 0, .int .i64 0]] w fun e w' => e = .returned (.tuple #[.agg #[.int .i64 (p : Int), .int .i64 a2, .int .i64 l2, .bool false], .int .i64 0]) ∧ Below w.heap.size w w' := by
  have HC := Lib.hid hc
  have HS := Lib.hid hs
  have HA := Lib.hid hA
  have hp : p ≤ 5 := by have := hs.2.1; simp only at this; omega
  have HA2 := Lib.hid ha2
  have HL2 := Lib.hid hl2
  clear ha2 hl2
  have l0 : 0 ≤ l := hs.2.2.1
  have l1 : l ≤ 1000000 := hs.2.2.2.1
  clear hc hs hA
  go_enter Tryd.func8, Tryd.ntmps8
  go_wp2_with fail
  obtain ⟨K, hK⟩ : ∃ K, K = w.heap.size := ⟨_, rfl⟩
  rw [← hK]
  obtain ⟨V0, hV0⟩ : ∃ Zz, Zz = (((w.alloc (.cells #[.string c.nm, .int .i64 c.no, .int .i64 c.ph, .int .i64 c.mn, .int .i64 c.mx, .int .i64 c.st, .int .i64 c.fb, .int .i64 c.ow] 23)).alloc (.cells #[.int .i64 (p : Int), .int .i64 a, .int .i64 l, .bool false] 25)).alloc (.cells #[.int .i64 8, .int .i64 0, .int .i64 0] 42)).alloc (.cells #[.int .i64 0, .int .i64 0, .int .i64 0, .bool false] 25) := ⟨_, rfl⟩
  have k0 : Bk V0 K 23 #[.string c.nm, .int .i64 c.no, .int .i64 c.ph, .int .i64 c.mn, .int .i64 c.mx, .int .i64 c.st, .int .i64 c.fb, .int .i64 c.ow] := by rw [hV0, hK]; exact bkOf (by simp [at?_alloc, en2, en3])
  have k1 : Bk V0 (K + 1) 25 #[.int .i64 (p : Int), .int .i64 a, .int .i64 l, .bool false] := by rw [hV0, hK]; exact bkOf (by simp [at?_alloc, en2, en3])
  have k2 : Bk V0 (K + 1 + 1) 42 #[.int .i64 8, .int .i64 0, .int .i64 0] := by rw [hV0, hK]; exact bkOf (by simp [at?_alloc, en2, en3])
  have k3 : Bk V0 (K + 1 + 1 + 1) 25 #[.int .i64 0, .int .i64 0, .int .i64 0, .bool false] := by rw [hV0, hK]; exact bkOf (by simp [at?_alloc, en2, en3])
  have hbV : Below w.heap.size w V0 := by rw [hV0]; exact (al3 _ _ _ _).alloc (by simp; omega) _
  rw [← hV0]
  clear hV0
  have HKW := Lib.hid hK
  clear hK
  refine (CValid_yes c ⟨p, a, l, false⟩ V0 HC.out HS.out).mono ?_
  rintro e W1 ⟨rfl, hb1⟩
  have K0 := Lib.hid (k0.next hb1)
  have K1 := Lib.hid (k1.next hb1)
  have K2 := Lib.hid (k2.next hb1)
  have K3 := Lib.hid (k3.next hb1)
  have HB1 := Lib.hid (bt hb1 hbV)
  clear k0 k1 k2 k3 hb1 hbV
  obtain ⟨e0, e1, e2⟩ := bx3 K2.out
  obtain ⟨c0, c1, c2, c3, c4, c5, c6, c7⟩ := bx8 K0.out
  have lt := K3.out.lt
  go_wp2_with fail
  refine (cinside_yes 8 1 9 _ (by omega) (by omega)).mono ?_
  rintro e w' ⟨rfl, rfl⟩
  go_wp2_with fail
  refine (vEvent_yes c 8 0 0 _ (by omega) (by omega) (by omega) (by omega)).mono ?_
  rintro e W2 ⟨rfl, hb2⟩
  clear e0 e1 e2 c0 c1 c2 c3 c4 c5 c6 c7 lt
  replace K0 := Lib.hid (K0.out.next hb2)
  replace K1 := Lib.hid (K1.out.next hb2)
  replace K2 := Lib.hid (K2.out.next hb2)
  replace K3 := Lib.hid (K3.out.next hb2)
  replace HB1 := Lib.hid (bt hb2 HB1.out)
  clear hb2
  have HA2 := Lib.hid (HA.out.next HB1.out)
  obtain ⟨v, hv⟩ : ∃ v, v = tabL.getD (8 * 6 + p) 0 := ⟨_, rfl⟩
  have t0 := HA2.out.2 (8 * 6 + p) (by omega)
  rw [← hv] at t0
  have hvs := (show ∀ p, p < 6 → (tabL.getD (8 * 6 + p) 0 = -2) by decide) p (by omega)
  rw [← hv] at hvs
  have HVS := Lib.hid hvs
  have hpI : (0 : Int) ≤ (p : Int) := by omega
  have hpJ : (p : Int) < 6 := by omega
  obtain ⟨e0, e1, e2⟩ := bx3 K2.out
  obtain ⟨s0, s1, s2, s3⟩ := bx4 K1.out
  have lk1 := K1.out.lt
  have l3 := K3.out.lt
  clear hv hvs
  go_wp2
  go_quiet (fail)
  obtain ⟨W3, hW3⟩ : ∃ Zz, Zz = W2.drewN nq := ⟨_, rfl⟩
  have hb3 : Below W2.heap.size W2 W3 := by rw [hW3]; exact belowDrew (Below.refl _ _) _
  rw [← hW3]
  clear hW3
  replace K0 := Lib.hid (K0.out.next hb3)
  replace K1 := Lib.hid (K1.out.next hb3)
  replace K2 := Lib.hid (K2.out.next hb3)
  replace K3 := Lib.hid (K3.out.next hb3)
  replace HB1 := Lib.hid (bt hb3 HB1.out)
  clear e0 e1 e2 s0 s1 s2 s3 t0 lk1 l3 hb3 HA2
  obtain ⟨e0, e1, e2⟩ := bx3 K2.out
  obtain ⟨s0, s1, s2, s3⟩ := bx4 K1.out
  obtain ⟨r0, r1, r2, r3⟩ := bx4 K3.out
  have fs0 := K1.out.frozen 0
  have fs1 := K1.out.frozen 1
  have fs2 := K1.out.frozen 2
  have fs3 := K1.out.frozen 3
  have fr0 := K3.out.frozen 0
  have fr1 := K3.out.frozen 1
  have fr2 := K3.out.frozen 2
  have fr3 := K3.out.frozen 3
  have l3 := K3.out.lt
  obtain rfl := HVS.out
  have KS := K1
  have KE := K2
  have KR := K3
  have HBX := HB1
  clear K1 K2 K3 HB1 e0 e1 e2 s0 s1 s2 s3 r0 r1 r2 r3 fs0 fs1 fs2 fs3 fr0 fr1 fr2 fr3 l3
  obtain ⟨e0, e1, e2⟩ := bx3 KE.out
  have le := KE.out.lt
  go_wp2_with fail
  refine (chg8_any 0 0 _).mono ?_
  rintro e Y ⟨rfl, hb5⟩
  clear e0 e1 e2 le
  replace KS := Lib.hid (KS.out.next hb5)
  replace KR := Lib.hid (KR.out.next hb5)
  replace HBX := Lib.hid (bt hb5 HBX.out)
  clear hb5
  go_wp2_with fail
  refine (act2_any _ a l false (K + 1) Y KS.out (by omega) (by omega)).mono ?_
  rintro e Y2 ⟨rfl, ks, hg⟩
  rw [← HA2.out, ← HL2.out] at ks
  replace KS := Lib.hid ks
  replace KR := Lib.hid (KR.out.grown hg (by simp <;> omega))
  replace HBX := Lib.hid (HBX.out.grown hg HBX.out.size (fun j hj => by injection hj with hj; have := HKW.out; omega))
  clear ks hg
  obtain ⟨s0, s1, s2, s3⟩ := bx4 KS.out
  obtain ⟨r0, r1, r2, r3⟩ := bx4 KR.out
  have fr0 := KR.out.frozen 0
  have fr1 := KR.out.frozen 1
  have fr2 := KR.out.frozen 2
  have fr3 := KR.out.frozen 3
  have ls := KS.out.lt
  have lr := KR.out.lt
  go_wp2
  obtain ⟨Y5, hY5⟩ : ∃ Zz, Zz = (((Y2.setCell ⟨K + 1 + 1 + 1, 0, none⟩ (.int .i64 (p : Int))).setCell ⟨K + 1 + 1 + 1, 1, none⟩ (.int .i64 a2)).setCell ⟨K + 1 + 1 + 1, 2, none⟩ (.int .i64 l2)).setCell ⟨K + 1 + 1 + 1, 3, none⟩ (.bool false) := ⟨_, rfl⟩
  have k5 : Bk Y5 (K + 1 + 1 + 1) 25 #[.int .i64 (p : Int), .int .i64 a2, .int .i64 l2, .bool false] := by rw [hY5]; have := ((((KR.out.set 0 ((.int .i64 (p : Int)))).set 1 ((.int .i64 a2))).set 2 ((.int .i64 l2))).set 3 ((.bool false))); simpa using this
  have hb5 : Below w.heap.size w Y5 := by rw [hY5]; exact ((((HBX.out.setCell (p := ⟨K + 1 + 1 + 1, 0, none⟩) (by have := HKW.out; simp only; omega) _).setCell (p := ⟨K + 1 + 1 + 1, 1, none⟩) (by have := HKW.out; simp only; omega) _).setCell (p := ⟨K + 1 + 1 + 1, 2, none⟩) (by have := HKW.out; simp only; omega) _).setCell (p := ⟨K + 1 + 1 + 1, 3, none⟩) (by have := HKW.out; simp only; omega) _)
  rw [← hY5]
  clear hY5
  obtain ⟨q0, q1, q2, q3⟩ := bx4 k5
  exact bodyPost_ret (v := .tuple #[.agg #[.int .i64 (p : Int), .int .i64 a2, .int .i64 l2, .bool false], .int .i64 0]) (by simp [results, Tryd.results8, go_sem, q0, q1, q2, q3]) rfl ⟨rfl, hb5⟩
theorem Step_evt (c : Chg) (p : Nat) (a l k n : Int) (w : World) (hc : c.Ok) (hs : Cst.Ok c ⟨p, a, l, false⟩) (hA : Af w) (h1 : 1 ≤ k) (h2 : k ≤ 6) (hn : (k = 4 ∧ n = 1) ∨ (k ≠ 4 ∧ n = 0)) : Calls Tryd.prog 8 #[.agg #[.string c.nm, .int .i64 c.no, .int .i64 c.ph, .int .i64 c.mn, .int .i64 c.mx, .int .i64 c.st, .int .i64 c.fb, .int .i64 c.ow], .agg #[.int .i64 (p : Int), .int .i64 a, .int .i64 l, .bool false], .agg #[.int .i64 k, .int .i64 n, .int .i64 0]] w (EvtP c p a l w) := by
  rcases (by omega : (k = 1 ∧ n = 0) ∨ (k = 2 ∧ n = 0) ∨ (k = 3 ∧ n = 0) ∨ (k = 4 ∧ n = 1) ∨ (k = 5 ∧ n = 0) ∨ (k = 6 ∧ n = 0)) with ⟨rfl, rfl⟩ | ⟨rfl, rfl⟩ | ⟨rfl, rfl⟩ | ⟨rfl, rfl⟩ | ⟨rfl, rfl⟩ | ⟨rfl, rfl⟩
  · exact Step_1 c p a l w hc hs hA
  · exact Step_2 c p a l w hc hs hA
  · exact Step_3 c p a l w hc hs hA
  · exact Step_4 c p a l w hc hs hA
  · exact Step_5 c p a l w hc hs hA
  · exact Step_6 c p a l w hc hs hA
end Go.Proofs.YtlfogcidklpeiaaDoor
