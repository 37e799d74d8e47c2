/- charger.Allowed; the reference's validity; the non-vacuity check. -/
import Derived.Test.YtlfogcidklpeiaaDoorEb
set_option maxRecDepth 100000
set_option linter.unusedVariables false
set_option linter.unusedSimpArgs false
namespace Go.Proofs.YtlfogcidklpeiaaDoor
open Go.RowKit Go.Sort

def rChP (c : Chg) (w : World) (e : Ending) (w' : World) : Prop := ∃ v, e = .returned (.bool v) ∧ (v = true → c.Ok) ∧ Below w.heap.size w w'
def rVaP (c : Chg) (p a l : Int) (w : World) (e : Ending) (w' : World) : Prop := ∃ v, e = .returned (.bool v) ∧ (v = true → c.Ok ∧ 0 ≤ p ∧ p ≤ 5 ∧ 0 ≤ l ∧ l ≤ 1000000 ∧ 0 ≤ a ∧ a ≤ c.mx ∧ (l = 0 → a = 0)) ∧ Below w.heap.size w w'
def alw (c : Chg) (p a l : Int) : Int := if p ≠ 4 then 0 else if l ≠ 0 then a else c.fb
set_option maxHeartbeats 2000000 in
theorem Allowed_lit (c : Chg) (p : Nat) (a l r : Int) (w : World) (hc : c.Ok) (hs : Cst.Ok c ⟨p, a, l, false⟩) (hr : alw c p a l = r) : Calls Tryd.prog 9 #[.agg #[.string c.nm, .int .i64 c.no, .int .i64 c.ph, .int .i64 c.mn, .int .i64 c.mx, .int .i64 c.st, .int .i64 c.fb, .int .i64 c.ow], .agg #[.int .i64 (p : Int), .int .i64 a, .int .i64 l, .bool false]] w fun e w' => e = .returned (.int .i64 r) ∧ Below w.heap.size w w' := by
  have HC := Lib.hid hc
  have HS := Lib.hid hs
  have HR := Lib.hid hr
  clear hc hs hr
  go_enter Tryd.func9, Tryd.ntmps9
  go_wp2_with fail
  obtain ⟨K, hK⟩ : ∃ K, K = w.heap.size := ⟨_, rfl⟩
  rw [← hK]
  obtain ⟨V0, hV0⟩ : ∃ Zz, Zz = (w.alloc (.cells #[.string c.nm, .int .i64 c.no, .int .i64 c.ph, .int .i64 c.mn, .int .i64 c.mx, .int .i64 c.st, .int .i64 c.fb, .int .i64 c.ow] 23)).alloc (.cells #[.int .i64 (p : Int), .int .i64 a, .int .i64 l, .bool false] 25) := ⟨_, rfl⟩
  have k0 : Bk V0 K 23 #[.string c.nm, .int .i64 c.no, .int .i64 c.ph, .int .i64 c.mn, .int .i64 c.mx, .int .i64 c.st, .int .i64 c.fb, .int .i64 c.ow] := by rw [hV0, hK]; exact bkOf (by simp [at?_alloc])
  have k1 : Bk V0 (K + 1) 25 #[.int .i64 (p : Int), .int .i64 a, .int .i64 l, .bool false] := by rw [hV0, hK]; exact bkOf (by simp [at?_alloc])
  have hbV : Below w.heap.size w V0 := by rw [hV0]; exact al2 _ _ _
  rw [← hV0]
  clear hV0
  clear hK
  refine (CValid_yes c ⟨p, a, l, false⟩ V0 HC.out HS.out).mono ?_
  rintro e W1 ⟨rfl, hb1⟩
  have HB := Lib.hid (bt hb1 hbV)
  have r0 := (k0.next hb1).cell 4
  have r9 := (k0.next hb1).cell 6
  obtain ⟨r1, r2, r3, r4⟩ := bx4 (k1.next hb1)
  have lt := (k1.next hb1).lt
  clear k0 k1 hb1 hbV
  by_cases hp : (p : Int) = 4
  · have hp2 : p = 4 := by omega
    subst hp2
    by_cases hl : l = 0
    · subst hl
      have HE : Hid (c.fb = r) := by show _ = _; have := HR.out; simpa [alw] using this
      go_wp2
      go_ret
      exact ⟨ret_int HE.out, HB.out⟩
    · have hl1 : (l != 0) = true := by simpa [bne_iff_ne] using hl
      have HE : Hid (a = r) := by show _ = _; have := HR.out; simpa [alw, hl] using this
      go_wp2
      go_ret
      exact ⟨ret_int HE.out, HB.out⟩
  · have hp1 : ((p : Int) != 4) = true := by simpa [bne_iff_ne] using hp
    have HE : Hid (0 = r) := by show _ = _; have := HR.out; unfold alw at this; rw [if_pos hp] at this; exact this
    go_wp2
    go_ret
    exact ⟨ret_int HE.out, HB.out⟩
set_option maxHeartbeats 2000000 in
theorem rCharger_any (c : Chg) (w : World) : Calls Tryd.prog 10 #[.agg #[.string c.nm, .int .i64 c.no, .int .i64 c.ph, .int .i64 c.mn, .int .i64 c.mx, .int .i64 c.st, .int .i64 c.fb, .int .i64 c.ow]] w (rChP c w) := by
  obtain ⟨nm, no, ph, mn, mx, st, fb, ow⟩ := c
  dsimp only at *
  have HB := Lib.hid (al1 w)
  go_enter Tryd.func10, Tryd.ntmps10
  by_cases h7 : ph < 1
  · go_wp2
    go_ret
    exact ⟨false, rfl, (fun h => by cases h), HB.out _⟩
  · by_cases h6 : 7 < ph
    · go_wp2
      go_ret
      exact ⟨false, rfl, (fun h => by cases h), HB.out _⟩
    · by_cases h5 : mn < 1
      · go_wp2
        go_ret
        exact ⟨false, rfl, (fun h => by cases h), HB.out _⟩
      · by_cases h4 : 80 < mx
        · go_wp2
          go_ret
          exact ⟨false, rfl, (fun h => by cases h), HB.out _⟩
        · by_cases h3 : mx < mn
          · go_wp2
            go_ret
            exact ⟨false, rfl, (fun h => by cases h), HB.out _⟩
          · by_cases h2 : st < 1
            · go_wp2
              go_ret
              exact ⟨false, rfl, (fun h => by cases h), HB.out _⟩
            · by_cases h1 : 80 < st
              · go_wp2
                go_ret
                exact ⟨false, rfl, (fun h => by cases h), HB.out _⟩
              · by_cases h0 : fb = 0
                · subst h0
                  go_wp2
                  go_ret
                  exact ⟨true, rfl, (fun _ => ⟨by simp only; omega, by simp only; omega, by simp only; omega, by simp only; omega, by simp only; omega, by simp only; omega, by simp only; omega, Or.inl rfl⟩), HB.out _⟩
                · have h11 : (fb == 0) = false := by rw [beq_eq_false_iff_ne]; exact h0
                  by_cases ha : mn ≤ fb
                  · by_cases hb : fb ≤ mx
                    · go_wp2
                      go_ret
                      exact ⟨true, rfl, (fun _ => ⟨by simp only; omega, by simp only; omega, by simp only; omega, by simp only; omega, by simp only; omega, by simp only; omega, by simp only; omega, Or.inr ⟨ha, hb⟩⟩), HB.out _⟩
                    · go_wp2
                      go_ret
                      exact ⟨false, rfl, (fun h => by cases h), HB.out _⟩
                  · go_wp2
                    go_ret
                    exact ⟨false, rfl, (fun h => by cases h), HB.out _⟩
set_option maxHeartbeats 2000000 in
theorem rValid_any (c : Chg) (p a l : Int) (wd : Bool) (w : World) : Calls Tryd.prog 5 #[.agg #[.string c.nm, .int .i64 c.no, .int .i64 c.ph, .int .i64 c.mn, .int .i64 c.mx, .int .i64 c.st, .int .i64 c.fb, .int .i64 c.ow], .agg #[.int .i64 p, .int .i64 a, .int .i64 l, .bool wd]] w (rVaP c p a l w) := by
  go_enter Tryd.func5, Tryd.ntmps5
  go_wp2_with fail
  obtain ⟨K, hK⟩ : ∃ K, K = w.heap.size := ⟨_, rfl⟩
  rw [← hK]
  obtain ⟨V0, hV0⟩ : ∃ Zz, Zz = (w.alloc (.cells #[.string c.nm, .int .i64 c.no, .int .i64 c.ph, .int .i64 c.mn, .int .i64 c.mx, .int .i64 c.st, .int .i64 c.fb, .int .i64 c.ow] 23)).alloc (.cells #[.int .i64 p, .int .i64 a, .int .i64 l, .bool wd] 25) := ⟨_, rfl⟩
  have k0 : Bk V0 K 23 #[.string c.nm, .int .i64 c.no, .int .i64 c.ph, .int .i64 c.mn, .int .i64 c.mx, .int .i64 c.st, .int .i64 c.fb, .int .i64 c.ow] := by rw [hV0, hK]; exact bkOf (by simp [at?_alloc])
  have k1 : Bk V0 (K + 1) 25 #[.int .i64 p, .int .i64 a, .int .i64 l, .bool wd] := by rw [hV0, hK]; exact bkOf (by simp [at?_alloc])
  have hbV : Below w.heap.size w V0 := by rw [hV0]; exact al2 _ _ _
  rw [← hV0]
  clear hV0
  clear hK
  refine (rCharger_any c V0).mono ?_
  rintro e W1 ⟨v, rfl, hv, hb1⟩
  have HV := Lib.hid hv
  have HB := Lib.hid (bt hb1 hbV)
  have r0 := (k0.next hb1).cell 4
  obtain ⟨r1, r2, r3, r4⟩ := bx4 (k1.next hb1)
  have lt := (k1.next hb1).lt
  clear k0 k1 hb1 hbV hv
  cases v
  · go_wp2
    go_ret
    exact ⟨false, rfl, (fun h => by cases h), HB.out⟩
  · have HOK := Lib.hid (HV.out rfl)
    clear HV
    by_cases h6 : p < 0
    · go_wp2
      go_ret
      exact ⟨false, rfl, (fun h => by cases h), HB.out⟩
    · by_cases h5 : 5 < p
      · go_wp2
        go_ret
        exact ⟨false, rfl, (fun h => by cases h), HB.out⟩
      · by_cases h4 : l < 0
        · go_wp2
          go_ret
          exact ⟨false, rfl, (fun h => by cases h), HB.out⟩
        · by_cases h3 : 1000000 < l
          · go_wp2
            go_ret
            exact ⟨false, rfl, (fun h => by cases h), HB.out⟩
          · by_cases h2 : a < 0
            · go_wp2
              go_ret
              exact ⟨false, rfl, (fun h => by cases h), HB.out⟩
            · by_cases h1 : c.mx < a
              · go_wp2
                go_ret
                exact ⟨false, rfl, (fun h => by cases h), HB.out⟩
              · by_cases hl : l = 0
                · subst hl
                  by_cases ha : a = 0
                  · subst ha
                    cases wd
                    · go_wp2
                      go_ret
                      exact ⟨true, rfl, (fun _ => ⟨HOK.out, by omega, by omega, by omega, by omega, by omega, by omega, fun _ => rfl⟩), HB.out⟩
                    · by_cases hp5 : p = 5
                      · subst hp5
                        go_wp2
                        go_ret
                        exact ⟨true, rfl, (fun _ => ⟨HOK.out, by omega, by omega, by omega, by omega, by omega, by omega, fun _ => rfl⟩), HB.out⟩
                      · have hp6 : (p == 5) = false := by rw [beq_eq_false_iff_ne]; exact hp5
                        go_wp2
                        go_ret
                        exact ⟨false, rfl, (fun h => by cases h), HB.out⟩
                  · have ha1 : (a != 0) = true := by simpa [bne_iff_ne] using ha
                    go_wp2
                    go_ret
                    exact ⟨false, rfl, (fun h => by cases h), HB.out⟩
                · have hl1 : (l == 0) = false := by rw [beq_eq_false_iff_ne]; exact hl
                  cases wd
                  · go_wp2
                    go_ret
                    exact ⟨true, rfl, (fun _ => ⟨HOK.out, by omega, by omega, by omega, by omega, by omega, by omega, fun h => absurd h hl⟩), HB.out⟩
                  · by_cases hp5 : p = 5
                    · subst hp5
                      go_wp2
                      go_ret
                      exact ⟨true, rfl, (fun _ => ⟨HOK.out, by omega, by omega, by omega, by omega, by omega, by omega, fun h => absurd h hl⟩), HB.out⟩
                    · have hp6 : (p == 5) = false := by rw [beq_eq_false_iff_ne]; exact hp5
                      go_wp2
                      go_ret
                      exact ⟨false, rfl, (fun h => by cases h), HB.out⟩
def chg0 : Chg := ⟨⟨#[]⟩, 0, 1, 6, 32, 1, 6, 0⟩
theorem chg0_ok : chg0.Ok := by unfold chg0 Chg.Ok; decide
theorem cst0_ok {a l : Int} (h0 : 0 ≤ a) (h1 : a ≤ 32) (h2 : 0 ≤ l) (h3 : l ≤ 1000000) (h4 : l = 0 → a = 0) : Cst.Ok chg0 ⟨(4 : Nat), a, l, false⟩ := by
  refine ⟨by simp only; omega, by simp only; omega, h2, h3, h0, h1, h4, rfl⟩
set_option maxHeartbeats 4000000 in
theorem r7Lease_any (w : World) (hA : Af w) : Calls Tryd.prog 4 #[] w fun e w' => e = .returned (.bool true) ∧ Below w.heap.size w w' := by
  have HA := Lib.hid hA
  clear hA
  go_enter Tryd.func4, Tryd.ntmps4
  go_wp2_with fail
  obtain ⟨K, hK⟩ : ∃ K, K = w.heap.size := ⟨_, rfl⟩
  rw [← hK]
  obtain ⟨V0, hV0⟩ : ∃ Zz, Zz = (w.alloc (.cells #[.string ⟨#[]⟩, .int .i64 0, .int .i64 1, .int .i64 6, .int .i64 32, .int .i64 1, .int .i64 6, .int .i64 0] 23)).alloc (.cells #[.int .i64 4, .int .i64 0, .int .i64 0, .bool false] 25) := ⟨_, rfl⟩
  have k1 : Bk V0 K 23 #[.string ⟨#[]⟩, .int .i64 0, .int .i64 1, .int .i64 6, .int .i64 32, .int .i64 1, .int .i64 6, .int .i64 0] := by rw [hV0, hK]; exact bkOf (by simp [at?_alloc])
  have k2 : Bk V0 (K + 1) 25 #[.int .i64 4, .int .i64 0, .int .i64 0, .bool false] := by rw [hV0, hK]; exact bkOf (by simp [at?_alloc])
  have hbV : Below w.heap.size w V0 := by rw [hV0]; exact al2 _ _ _
  rw [← hV0]
  clear hV0
  have K1 := Lib.hid k1
  have K2 := Lib.hid k2
  have HB := Lib.hid hbV
  have HKW := Lib.hid hK
  clear hK k1 k2 hbV
  refine (Step_7 chg0 4 0 0 20 12 V0 chg0_ok (cst0_ok (by omega) (by omega) (by omega) (by omega) (by omega)) (HA.out.next HB.out) (by omega) (by decide) (by omega) (by omega)).mono ?_
  rintro e W1 ⟨rfl, hb⟩
  replace K1 := Lib.hid (K1.out.next hb)
  replace K2 := Lib.hid (K2.out.next hb)
  replace HB := Lib.hid (bt hb HB.out)
  clear hb
  obtain ⟨c0, c1, c2, c3, c4, c5, c6, c7⟩ := bx8 K1.out
  obtain ⟨s0, s1, s2, s3⟩ := bx4 K2.out
  have fs0 := K2.out.frozen 0
  have fs1 := K2.out.frozen 1
  have fs2 := K2.out.frozen 2
  have fs3 := K2.out.frozen 3
  have ls := K2.out.lt
  go_wp2_with fail
  obtain ⟨V1, hV1⟩ : ∃ Zz, Zz = (((W1.setCell ⟨K + 1, 0, none⟩ (.int .i64 4)).setCell ⟨K + 1, 1, none⟩ (.int .i64 20)).setCell ⟨K + 1, 2, none⟩ (.int .i64 12)).setCell ⟨K + 1, 3, none⟩ (.bool false) := ⟨_, rfl⟩
  have k1 : Bk V1 K 23 #[.string ⟨#[]⟩, .int .i64 0, .int .i64 1, .int .i64 6, .int .i64 32, .int .i64 1, .int .i64 6, .int .i64 0] := by rw [hV1]; exact ((((K1.out.far (p := ⟨K + 1, 0, none⟩) (by simp only; omega) ((.int .i64 4))).far (p := ⟨K + 1, 1, none⟩) (by simp only; omega) ((.int .i64 20))).far (p := ⟨K + 1, 2, none⟩) (by simp only; omega) ((.int .i64 12))).far (p := ⟨K + 1, 3, none⟩) (by simp only; omega) ((.bool false)))
  have k2 : Bk V1 (K + 1) 25 #[.int .i64 4, .int .i64 20, .int .i64 12, .bool false] := by rw [hV1]; have := ((((K2.out.set 0 ((.int .i64 4))).set 1 ((.int .i64 20))).set 2 ((.int .i64 12))).set 3 ((.bool false))); simpa using this
  have hbx : Below w.heap.size w V1 := by rw [hV1]; exact ((((HB.out.setCell (p := ⟨K + 1, 0, none⟩) (by have := HKW.out; simp only; omega) _).setCell (p := ⟨K + 1, 1, none⟩) (by have := HKW.out; simp only; omega) _).setCell (p := ⟨K + 1, 2, none⟩) (by have := HKW.out; simp only; omega) _).setCell (p := ⟨K + 1, 3, none⟩) (by have := HKW.out; simp only; omega) _)
  rw [← hV1]
  clear hV1
  replace K1 := Lib.hid k1
  replace K2 := Lib.hid k2
  replace HB := Lib.hid hbx
  clear k1 k2 hbx
  clear c0 c1 c2 c3 c4 c5 c6 c7 s0 s1 s2 s3 fs0 fs1 fs2 fs3 ls
  go_loopw [15] (fun i wr => ∃ k : Nat, i = .int .i64 (k : Int) ∧ k ≤ 11 ∧ Bk wr K 23 #[.string ⟨#[]⟩, .int .i64 0, .int .i64 1, .int .i64 6, .int .i64 32, .int .i64 1, .int .i64 6, .int .i64 0] ∧ Bk wr (K + 1) 25 #[.int .i64 4, .int .i64 20, .int .i64 (12 - (k : Int)), .bool false] ∧ Below w.heap.size w wr) (fun i _ => 11 - (intOf i).toNat)
  case atStart => exact ⟨0, rfl, by omega, K1.out, K2.out, HB.out⟩
  case round =>
    obtain ⟨k, rfl, hk, k1, k2, hbw⟩ := hrel
    clear K1 K2 HB
    have K1 := Lib.hid k1
    have K2 := Lib.hid k2
    have HB := Lib.hid hbw
    clear k1 k2 hbw
    by_cases hlt : k < 11
    · obtain ⟨L, hL⟩ : ∃ L : Int, L = 12 - (k : Int) := ⟨_, rfl⟩
      rw [← hL] at K2
      have hL1 : 2 ≤ L := by omega
      have hL2 : L ≤ 12 := by omega
      have HLK : Hid (L - 1 = 12 - ((k + 1 : Nat) : Int)) := by show _ = _; push_cast; omega
      have k0 : (k : Int) < 11 := by omega
      clear hL
      obtain ⟨c0, c1, c2, c3, c4, c5, c6, c7⟩ := bx8 K1.out
      obtain ⟨s0, s1, s2, s3⟩ := bx4 K2.out
      have fs0 := K2.out.frozen 0
      have fs1 := K2.out.frozen 1
      have fs2 := K2.out.frozen 2
      have fs3 := K2.out.frozen 3
      have ls := K2.out.lt
      go_wp2_with fail
      refine (Step_8 chg0 4 20 L 20 (L - 1) _ (by rw [if_neg (by omega)]) (by rw [if_neg (by omega)]) chg0_ok (cst0_ok (by omega) (by omega) (by omega) (by omega) (by omega)) (HA.out.next HB.out)).mono ?_
      rintro e W1 ⟨rfl, hb⟩
      clear c0 c1 c2 c3 c4 c5 c6 c7 s0 s1 s2 s3 fs0 fs1 fs2 fs3 ls
      replace K1 := Lib.hid (K1.out.next hb)
      replace K2 := Lib.hid (K2.out.next hb)
      replace HB := Lib.hid (bt hb HB.out)
      clear hb
      obtain ⟨c0, c1, c2, c3, c4, c5, c6, c7⟩ := bx8 K1.out
      obtain ⟨s0, s1, s2, s3⟩ := bx4 K2.out
      have fs0 := K2.out.frozen 0
      have fs1 := K2.out.frozen 1
      have fs2 := K2.out.frozen 2
      have fs3 := K2.out.frozen 3
      have ls := K2.out.lt
      go_wp2
      obtain ⟨V1, hV1⟩ : ∃ Zz, Zz = (((W1.setCell ⟨K + 1, 0, none⟩ (.int .i64 4)).setCell ⟨K + 1, 1, none⟩ (.int .i64 20)).setCell ⟨K + 1, 2, none⟩ (.int .i64 (L - 1))).setCell ⟨K + 1, 3, none⟩ (.bool false) := ⟨_, rfl⟩
      have k1 : Bk V1 K 23 #[.string ⟨#[]⟩, .int .i64 0, .int .i64 1, .int .i64 6, .int .i64 32, .int .i64 1, .int .i64 6, .int .i64 0] := by rw [hV1]; exact ((((K1.out.far (p := ⟨K + 1, 0, none⟩) (by simp only; omega) ((.int .i64 4))).far (p := ⟨K + 1, 1, none⟩) (by simp only; omega) ((.int .i64 20))).far (p := ⟨K + 1, 2, none⟩) (by simp only; omega) ((.int .i64 (L - 1)))).far (p := ⟨K + 1, 3, none⟩) (by simp only; omega) ((.bool false)))
      have k2 : Bk V1 (K + 1) 25 #[.int .i64 4, .int .i64 20, .int .i64 (L - 1), .bool false] := by rw [hV1]; have := ((((K2.out.set 0 ((.int .i64 4))).set 1 ((.int .i64 20))).set 2 ((.int .i64 (L - 1)))).set 3 ((.bool false))); simpa using this
      have hbx : Below w.heap.size w V1 := by rw [hV1]; exact ((((HB.out.setCell (p := ⟨K + 1, 0, none⟩) (by have := HKW.out; simp only; omega) _).setCell (p := ⟨K + 1, 1, none⟩) (by have := HKW.out; simp only; omega) _).setCell (p := ⟨K + 1, 2, none⟩) (by have := HKW.out; simp only; omega) _).setCell (p := ⟨K + 1, 3, none⟩) (by have := HKW.out; simp only; omega) _)
      rw [← hV1]
      clear hV1
      replace K1 := Lib.hid k1
      replace K2 := Lib.hid k2
      replace HB := Lib.hid hbx
      clear k1 k2 hbx
      clear c0 c1 c2 c3 c4 c5 c6 c7 s0 s1 s2 s3 fs0 fs1 fs2 fs3 ls
      go_roundw
      case rel => exact ⟨k + 1, by go_num, by omega, K1.out, by rw [← HLK.out]; exact K2.out, HB.out⟩
      case measure => simp [intOf]; omega
    · obtain rfl : k = 11 := by omega
      replace K2 : Hid (Bk wr (K + 1) 25 #[.int .i64 4, .int .i64 20, .int .i64 1, .bool false]) := K2
      clear hk hlt
      obtain ⟨c0, c1, c2, c3, c4, c5, c6, c7⟩ := bx8 K1.out
      obtain ⟨s0, s1, s2, s3⟩ := bx4 K2.out
      have fs0 := K2.out.frozen 0
      have fs1 := K2.out.frozen 1
      have fs2 := K2.out.frozen 2
      have fs3 := K2.out.frozen 3
      have ls := K2.out.lt
      go_wp2_with fail
      refine (Allowed_lit chg0 4 20 1 20 _ chg0_ok (cst0_ok (by omega) (by omega) (by omega) (by omega) (by omega)) (by decide)).mono ?_
      rintro e W1 ⟨rfl, hb⟩
      clear c0 c1 c2 c3 c4 c5 c6 c7 s0 s1 s2 s3 fs0 fs1 fs2 fs3 ls
      replace K1 := Lib.hid (K1.out.next hb)
      replace K2 := Lib.hid (K2.out.next hb)
      replace HB := Lib.hid (bt hb HB.out)
      clear hb
      obtain ⟨c0, c1, c2, c3, c4, c5, c6, c7⟩ := bx8 K1.out
      obtain ⟨s0, s1, s2, s3⟩ := bx4 K2.out
      have fs0 := K2.out.frozen 0
      have fs1 := K2.out.frozen 1
      have fs2 := K2.out.frozen 2
      have fs3 := K2.out.frozen 3
      have ls := K2.out.lt
      go_wp2_with fail
      refine (Step_8 chg0 4 20 1 0 0 _ (by rw [if_pos (by omega)]) (by rw [if_pos (by omega)]) chg0_ok (cst0_ok (by omega) (by omega) (by omega) (by omega) (by omega)) (HA.out.next HB.out)).mono ?_
      rintro e W2 ⟨rfl, hb⟩
      clear c0 c1 c2 c3 c4 c5 c6 c7 s0 s1 s2 s3 fs0 fs1 fs2 fs3 ls
      replace K1 := Lib.hid (K1.out.next hb)
      replace K2 := Lib.hid (K2.out.next hb)
      replace HB := Lib.hid (bt hb HB.out)
      clear hb
      obtain ⟨c0, c1, c2, c3, c4, c5, c6, c7⟩ := bx8 K1.out
      obtain ⟨s0, s1, s2, s3⟩ := bx4 K2.out
      have fs0 := K2.out.frozen 0
      have fs1 := K2.out.frozen 1
      have fs2 := K2.out.frozen 2
      have fs3 := K2.out.frozen 3
      have ls := K2.out.lt
      go_wp2_with fail
      obtain ⟨V1, hV1⟩ : ∃ Zz, Zz = (((W2.setCell ⟨K + 1, 0, none⟩ (.int .i64 4)).setCell ⟨K + 1, 1, none⟩ (.int .i64 0)).setCell ⟨K + 1, 2, none⟩ (.int .i64 0)).setCell ⟨K + 1, 3, none⟩ (.bool false) := ⟨_, rfl⟩
      have k1 : Bk V1 K 23 #[.string ⟨#[]⟩, .int .i64 0, .int .i64 1, .int .i64 6, .int .i64 32, .int .i64 1, .int .i64 6, .int .i64 0] := by rw [hV1]; exact ((((K1.out.far (p := ⟨K + 1, 0, none⟩) (by simp only; omega) ((.int .i64 4))).far (p := ⟨K + 1, 1, none⟩) (by simp only; omega) ((.int .i64 0))).far (p := ⟨K + 1, 2, none⟩) (by simp only; omega) ((.int .i64 0))).far (p := ⟨K + 1, 3, none⟩) (by simp only; omega) ((.bool false)))
      have k2 : Bk V1 (K + 1) 25 #[.int .i64 4, .int .i64 0, .int .i64 0, .bool false] := by rw [hV1]; have := ((((K2.out.set 0 ((.int .i64 4))).set 1 ((.int .i64 0))).set 2 ((.int .i64 0))).set 3 ((.bool false))); simpa using this
      have hbx : Below w.heap.size w V1 := by rw [hV1]; exact ((((HB.out.setCell (p := ⟨K + 1, 0, none⟩) (by have := HKW.out; simp only; omega) _).setCell (p := ⟨K + 1, 1, none⟩) (by have := HKW.out; simp only; omega) _).setCell (p := ⟨K + 1, 2, none⟩) (by have := HKW.out; simp only; omega) _).setCell (p := ⟨K + 1, 3, none⟩) (by have := HKW.out; simp only; omega) _)
      rw [← hV1]
      clear hV1
      replace K1 := Lib.hid k1
      replace K2 := Lib.hid k2
      replace HB := Lib.hid hbx
      clear k1 k2 hbx
      clear c0 c1 c2 c3 c4 c5 c6 c7 s0 s1 s2 s3 fs0 fs1 fs2 fs3 ls
      obtain ⟨c0, c1, c2, c3, c4, c5, c6, c7⟩ := bx8 K1.out
      obtain ⟨s0, s1, s2, s3⟩ := bx4 K2.out
      have fs0 := K2.out.frozen 0
      have fs1 := K2.out.frozen 1
      have fs2 := K2.out.frozen 2
      have fs3 := K2.out.frozen 3
      have ls := K2.out.lt
      refine (Allowed_lit chg0 4 0 0 6 _ chg0_ok (cst0_ok (by omega) (by omega) (by omega) (by omega) (by omega)) (by decide)).mono ?_
      rintro e W3 ⟨rfl, hb⟩
      clear c0 c1 c2 c3 c4 c5 c6 c7 s0 s1 s2 s3 fs0 fs1 fs2 fs3 ls
      replace K1 := Lib.hid (K1.out.next hb)
      replace K2 := Lib.hid (K2.out.next hb)
      replace HB := Lib.hid (bt hb HB.out)
      clear hb
      go_wp2
      go_ret
      exact ⟨rfl, HB.out⟩
end Go.Proofs.YtlfogcidklpeiaaDoor
