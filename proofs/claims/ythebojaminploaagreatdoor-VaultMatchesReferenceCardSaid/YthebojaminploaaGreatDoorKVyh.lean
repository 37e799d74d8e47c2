/- The vault's reference: Store. -/
import Derived.Test.YthebojaminploaaGreatDoorKVX
import Derived.Test.YthebojaminploaaGreatDoorKVY
import Derived.Test.YthebojaminploaaGreatDoorKJrh
import Derived.BigQuiet
set_option maxRecDepth 100000
set_option linter.unusedVariables false
set_option linter.unusedSimpArgs false
namespace Go.Proofs.YthebojaminploaaGreatDoor
open Go.RowKit Go.Sort Go.Shelf
theorem rOne_lit (b : Bool) (x : Lea) (w : World) (h : oneB x = b) :
    Calls Tryz.prog 22 #[.agg #[.int .i64 x.n, .int .i64 x.c, .int .i64 x.a, .int .i64 x.f, .int .i64 x.t]] w fun e w' => e = .returned (.bool b) ∧ Below w.heap.size w w' := h ▸ Ls.rOne_any x w
theorem keepR_room {m : Mem} (h : loadE m = 0) (x : Lea) (tick : Int) : room (keepR m x tick) ≤ 900000 := by
  obtain ⟨_, _, _, _, h5⟩ := load_ok h
  have h1 := (kept_sub h5 tick).1.length_le
  have h2 := (load_len h).2
  rw [keepR, room_pack]
  simp
  omega
/-- between two leases that are kept -/
def KtI (V4 : World) (rs : List Rec) (v : Value) (W : World) : Prop :=
  ∃ its, Rw V4.heap.size its v W ∧ its.map (·.2.2) = rs ∧ Below V4.heap.size V4 W
set_option maxHeartbeats 8000000 in
theorem rvStore_any (m : Mem) (x : Lea) (tick : Int) (A : Option Addr) (c : Nat) (w : World) (hA : RdB w w.heap.size A m.2) (hc : m.2.length ≤ c) :
    Calls Tryz.prog 6 #[.agg #[.int .i64 m.1, .slice A m.2.length c], .agg #[.int .i64 x.n, .int .i64 x.c, .int .i64 x.a, .int .i64 x.f, .int .i64 x.t], .int .i64 tick] w (ListPost w (stoM m x tick) (stoE m x tick)) := by
  have HA := Lib.hid hA
  clear hA
  obtain ⟨L, hL⟩ : ∃ L, L = loadL m := ⟨_, rfl⟩
  have HL := Lib.hid hL
  by_cases h0 : loadE m = 0
  · have q0 : ((0 : Int) != 0) = false := rfl
    have hLn : L.length ≤ 64 := by rw [hL]; have := (load_len h0).2; omega
    have HE := Lib.hid h0
    by_cases ho : oneB x = true
    · by_cases ht1 : tick < 0
      · have ha : argB x tick = false := by simp [argB]; intro _ _; omega
        obtain ⟨e1, e2⟩ := sto_no h0 ha
        rw [e1, e2]
        have HO : Hid (oneB x = true) := Lib.hid ho
        clear e1 e2 h0 hL ha ho
        have t1 : tick < 0 := ht1
        go_enter Tryz.func6, Tryz.ntmps6
        go_wp2_with fail
        obtain ⟨U, hU⟩ : ∃ Zz, Zz = ((w.alloc (.cells #[.int .i64 m.1, .slice A m.2.length c] 24)).alloc (.cells #[.int .i64 x.n, .int .i64 x.c, .int .i64 x.a, .int .i64 x.f, .int .i64 x.t] 26)) := ⟨_, rfl⟩
        have hbU : Below w.heap.size w U := by rw [hU]; exact al2 _ _ _
        have kf : Bk U w.heap.size 24 #[.int .i64 m.1, .slice A m.2.length c] := by rw [hU]; exact (Bk.new _ _ _).alloc _
        have kx : Bk U (w.heap.size + 1) 26 #[.int .i64 x.n, .int .i64 x.c, .int .i64 x.a, .int .i64 x.f, .int .i64 x.t] := by rw [hU]; exact bkOf (by simp [at?_alloc])
        rw [← hU]
        clear hU
        refine (rvLoad_lit L 0 m A c _ HL.out.symm HE.out (HA.out.next hbU) hc).mono ?_
        rintro e V1 ⟨AL, cL, rfl, hcL, hrL, hb⟩
        have HRL := Lib.hid hrL
        have HB := Lib.hid (bt hb hbU)
        have HKF := Lib.hid (kf.next hb)
        have HKX := Lib.hid (kx.next hb)
        clear hrL hb hbU kf kx
        obtain ⟨x0, x1, x2, x3, x4⟩ := Ls.box5 HKX.out
        obtain ⟨f0, f1⟩ := box2 HKF.out
        have lx := HKX.out.lt
        go_wp2_with fail
        clear x0 x1 x2 x3 x4 f0 f1 lx
        refine (rOne_lit true x _ HO.out).mono ?_
        rintro e V2 ⟨rfl, hb⟩
        replace HRL := Lib.hid (HRL.out.next hb)
        replace HKF := Lib.hid (HKF.out.next hb)
        replace HKX := Lib.hid (HKX.out.next hb)
        replace HB := Lib.hid (bt hb HB.out)
        clear hb
        go_wp2
        go_ret2
        exact ⟨none, 0, rfl, Nat.le_refl _, RdFs.nil, HB.out⟩
      · by_cases ht2 : 1100000 < tick
        · have ha : argB x tick = false := by simp [argB]; intro _ _; omega
          obtain ⟨e1, e2⟩ := sto_no h0 ha
          rw [e1, e2]
          have HO : Hid (oneB x = true) := Lib.hid ho
          clear e1 e2 h0 hL ha ho
          have t1 : ¬ tick < 0 := ht1
          have t2 : 1100000 < tick := ht2
          go_enter Tryz.func6, Tryz.ntmps6
          go_wp2_with fail
          obtain ⟨U, hU⟩ : ∃ Zz, Zz = ((w.alloc (.cells #[.int .i64 m.1, .slice A m.2.length c] 24)).alloc (.cells #[.int .i64 x.n, .int .i64 x.c, .int .i64 x.a, .int .i64 x.f, .int .i64 x.t] 26)) := ⟨_, rfl⟩
          have hbU : Below w.heap.size w U := by rw [hU]; exact al2 _ _ _
          have kf : Bk U w.heap.size 24 #[.int .i64 m.1, .slice A m.2.length c] := by rw [hU]; exact (Bk.new _ _ _).alloc _
          have kx : Bk U (w.heap.size + 1) 26 #[.int .i64 x.n, .int .i64 x.c, .int .i64 x.a, .int .i64 x.f, .int .i64 x.t] := by rw [hU]; exact bkOf (by simp [at?_alloc])
          rw [← hU]
          clear hU
          refine (rvLoad_lit L 0 m A c _ HL.out.symm HE.out (HA.out.next hbU) hc).mono ?_
          rintro e V1 ⟨AL, cL, rfl, hcL, hrL, hb⟩
          have HRL := Lib.hid hrL
          have HB := Lib.hid (bt hb hbU)
          have HKF := Lib.hid (kf.next hb)
          have HKX := Lib.hid (kx.next hb)
          clear hrL hb hbU kf kx
          obtain ⟨x0, x1, x2, x3, x4⟩ := Ls.box5 HKX.out
          obtain ⟨f0, f1⟩ := box2 HKF.out
          have lx := HKX.out.lt
          go_wp2_with fail
          clear x0 x1 x2 x3 x4 f0 f1 lx
          refine (rOne_lit true x _ HO.out).mono ?_
          rintro e V2 ⟨rfl, hb⟩
          replace HRL := Lib.hid (HRL.out.next hb)
          replace HKF := Lib.hid (HKF.out.next hb)
          replace HKX := Lib.hid (HKX.out.next hb)
          replace HB := Lib.hid (bt hb HB.out)
          clear hb
          go_wp2
          go_ret2
          exact ⟨none, 0, rfl, Nat.le_refl _, RdFs.nil, HB.out⟩
        · have ha : argB x tick = true := by simp [argB, ho]; omega
          have HO : Hid (oneB x = true) := Lib.hid ho
          have HX := Lib.hid ho
          have t1 : ¬ tick < 0 := by omega
          have t2 : ¬ 1100000 < tick := by omega
          by_cases hlp : 0 < L.length
          · by_cases hold : oldB L x = true
            · obtain ⟨e1, e2⟩ := sto_old h0 ha (hL ▸ hold)
              rw [e1, e2]
              clear e1 e2 ha hL h0 ho
              rw [oldB, decide_eq_true hlp, Bool.true_and] at hold
              have hff : folB (lastL L) x = false := by simpa using hold
              have HFF := Lib.hid hff
              clear hold hff
              go_enter Tryz.func6, Tryz.ntmps6
              go_wp2_with fail
              obtain ⟨U, hU⟩ : ∃ Zz, Zz = ((w.alloc (.cells #[.int .i64 m.1, .slice A m.2.length c] 24)).alloc (.cells #[.int .i64 x.n, .int .i64 x.c, .int .i64 x.a, .int .i64 x.f, .int .i64 x.t] 26)) := ⟨_, rfl⟩
              have hbU : Below w.heap.size w U := by rw [hU]; exact al2 _ _ _
              have kf : Bk U w.heap.size 24 #[.int .i64 m.1, .slice A m.2.length c] := by rw [hU]; exact (Bk.new _ _ _).alloc _
              have kx : Bk U (w.heap.size + 1) 26 #[.int .i64 x.n, .int .i64 x.c, .int .i64 x.a, .int .i64 x.f, .int .i64 x.t] := by rw [hU]; exact bkOf (by simp [at?_alloc])
              rw [← hU]
              clear hU
              refine (rvLoad_lit L 0 m A c _ HL.out.symm HE.out (HA.out.next hbU) hc).mono ?_
              rintro e V1 ⟨AL, cL, rfl, hcL, hrL, hb⟩
              have HRL := Lib.hid hrL
              have HB := Lib.hid (bt hb hbU)
              have HKF := Lib.hid (kf.next hb)
              have HKX := Lib.hid (kx.next hb)
              clear hrL hb hbU kf kx
              obtain ⟨x0, x1, x2, x3, x4⟩ := Ls.box5 HKX.out
              obtain ⟨f0, f1⟩ := box2 HKF.out
              have lx := HKX.out.lt
              go_wp2_with fail
              clear x0 x1 x2 x3 x4 f0 f1 lx
              refine (rOne_lit true x _ HO.out).mono ?_
              rintro e V2 ⟨rfl, hb⟩
              replace HRL := Lib.hid (HRL.out.next hb)
              replace HKF := Lib.hid (HKF.out.next hb)
              replace HKX := Lib.hid (HKX.out.next hb)
              replace HB := Lib.hid (bt hb HB.out)
              clear hb
              have j4 : decide ((0 : Int) < (L.length : Int)) = true := by simp; omega
              have j6 : decide (0 < L.length) = true := by simp; omega
              obtain ⟨bk, ok, rfl, _, z0, z1, z2, z3, z4⟩ := HRL.out.at_ (i := L.length - 1) (by omega)
              obtain ⟨y, hy⟩ : ∃ y, y = lastL L := ⟨_, rfl⟩
              rw [← getD_of (by omega : L.length - 1 < L.length), show L.getD (L.length - 1) l0 = y from hy.symm] at z0 z1 z2 z3 z4
              obtain ⟨k, hk⟩ : ∃ k, k = L.length - 1 := ⟨_, rfl⟩
              rw [← hk] at z0 z1 z2 z3 z4
              have j0k : (L.length : Int) - 1 = (k : Int) := by omega
              have j1k : (0 : Int) ≤ (k : Int) := by omega
              have j2k : (k : Int) < (L.length : Int) := by omega
              have j3k : IntKind.i64.wrap ((L.length : Int) - 1) = (k : Int) := by rw [IntWalk.i64_in _ (by omega)]; omega
              have Hy := Lib.hid hy
              clear hk hy
              have hdec : ¬ (y.n < x.n ∧ y.f ≤ x.f) := by have := HFF.out; rw [← Hy.out] at this; simpa [folB] using this
              obtain ⟨x0, x1, x2, x3, x4⟩ := Ls.box5 HKX.out
              obtain ⟨f0, f1⟩ := box2 HKF.out
              have lx := HKX.out.lt
              by_cases hq : x.n ≤ y.n
              · have d1 : decide (x.n ≤ y.n) = true := by simpa using hq
                clear hdec
                go_wp2
                go_quiet (fail)
                obtain ⟨V3, hV3⟩ : ∃ Zz, Zz = V2.drewN nq := ⟨_, rfl⟩
                have hb3 : Below V2.heap.size V2 V3 := by rw [hV3]; exact belowDrew (Below.refl _ _) _
                rw [← hV3]
                clear hV3
                clear x0 x1 x2 x3 x4 f0 f1 lx
                replace HRL := Lib.hid (HRL.out.next hb3)
                replace HKF := Lib.hid (HKF.out.next hb3)
                replace HKX := Lib.hid (HKX.out.next hb3)
                replace HB := Lib.hid (bt hb3 HB.out)
                clear hb3
                go_wp2
                go_ret2
                exact ⟨none, 0, rfl, Nat.le_refl _, RdFs.nil, HB.out⟩
              · have d1 : decide (x.n ≤ y.n) = false := by simpa using hq
                have d2 : decide (x.f < y.f) = true := by simp; omega
                clear hdec hq
                go_wp2
                go_quiet (fail)
                obtain ⟨V3, hV3⟩ : ∃ Zz, Zz = V2.drewN nq := ⟨_, rfl⟩
                have hb3 : Below V2.heap.size V2 V3 := by rw [hV3]; exact belowDrew (Below.refl _ _) _
                rw [← hV3]
                clear hV3
                clear x0 x1 x2 x3 x4 f0 f1 lx
                replace HRL := Lib.hid (HRL.out.next hb3)
                replace HKF := Lib.hid (HKF.out.next hb3)
                replace HKX := Lib.hid (HKX.out.next hb3)
                replace HB := Lib.hid (bt hb3 HB.out)
                clear hb3
                go_wp2
                go_ret2
                exact ⟨none, 0, rfl, Nat.le_refl _, RdFs.nil, HB.out⟩
            · have hold : oldB L x = false := by simpa using hold
              have HFF : Hid (folB (lastL L) x = true) := by show _ = _; rw [oldB, decide_eq_true hlp, Bool.true_and] at hold; simpa using hold
              by_cases h10 : appE m (packL x) = 10
              · obtain ⟨e1, e2⟩ := sto_rew h0 ha (hL ▸ hold) h10
                obtain ⟨s1, s2⟩ := keepR_small h0 x tick
                obtain ⟨RM, hRM⟩ : ∃ RM, RM = rewM m (keepR m x tick) := ⟨_, rfl⟩
                obtain ⟨RE, hRE⟩ : ∃ RE, RE = rewE m (keepR m x tick) := ⟨_, rfl⟩
                rw [e1, e2, ← hRM, ← hRE]
                have HRMd := Lib.hid hRM
                have HREd := Lib.hid hRE
                have HS2 := Lib.hid s2
                have hrm := keepR_room h0 x tick
                have HRO := Lib.hid hrm
                clear hrm
                have HKR : Hid (keepR m x tick = (keptL L tick ++ [x]).map packL) := by show _ = _; rw [keepR, ← hL]
                have HVL : Hid (vlB L = true) := by show _ = _; rw [hL]; exact (load_ok h0).2.2.2.2
                obtain ⟨rs, hrs⟩ : ∃ rs, rs = keepR m x tick := ⟨_, rfl⟩
                rw [← hrs] at s1
                have HRSd := Lib.hid hrs
                obtain ⟨AM, hAM⟩ : ∃ AM, AM = appM m (packL x) := ⟨_, rfl⟩
                obtain ⟨AE, hAE⟩ : ∃ AE, AE = appE m (packL x) := ⟨_, rfl⟩
                have HAMd := Lib.hid hAM
                have HAEd := Lib.hid hAE
                rw [h10] at hAE
                subst hAE
                have HAEd' : Hid (10 = appE m (packL x)) := h10.symm
                clear e1 e2 ha hL h0 ho h10 hAM hRM hRE s2 hrs
                go_enter Tryz.func6, Tryz.ntmps6
                go_wp2_with fail
                obtain ⟨U, hU⟩ : ∃ Zz, Zz = ((w.alloc (.cells #[.int .i64 m.1, .slice A m.2.length c] 24)).alloc (.cells #[.int .i64 x.n, .int .i64 x.c, .int .i64 x.a, .int .i64 x.f, .int .i64 x.t] 26)) := ⟨_, rfl⟩
                have hbU : Below w.heap.size w U := by rw [hU]; exact al2 _ _ _
                have kf : Bk U w.heap.size 24 #[.int .i64 m.1, .slice A m.2.length c] := by rw [hU]; exact (Bk.new _ _ _).alloc _
                have kx : Bk U (w.heap.size + 1) 26 #[.int .i64 x.n, .int .i64 x.c, .int .i64 x.a, .int .i64 x.f, .int .i64 x.t] := by rw [hU]; exact bkOf (by simp [at?_alloc])
                rw [← hU]
                clear hU
                refine (rvLoad_lit L 0 m A c _ HL.out.symm HE.out (HA.out.next hbU) hc).mono ?_
                rintro e V1 ⟨AL, cL, rfl, hcL, hrL, hb⟩
                have HRL := Lib.hid hrL
                have HB := Lib.hid (bt hb hbU)
                have HKF := Lib.hid (kf.next hb)
                have HKX := Lib.hid (kx.next hb)
                clear hrL hb hbU kf kx
                obtain ⟨x0, x1, x2, x3, x4⟩ := Ls.box5 HKX.out
                obtain ⟨f0, f1⟩ := box2 HKF.out
                have lx := HKX.out.lt
                go_wp2_with fail
                clear x0 x1 x2 x3 x4 f0 f1 lx
                refine (rOne_lit true x _ HO.out).mono ?_
                rintro e V2 ⟨rfl, hb⟩
                replace HRL := Lib.hid (HRL.out.next hb)
                replace HKF := Lib.hid (HKF.out.next hb)
                replace HKX := Lib.hid (HKX.out.next hb)
                replace HB := Lib.hid (bt hb HB.out)
                clear hb
                have j4 : decide ((0 : Int) < (L.length : Int)) = true := by simp; omega
                have j6 : decide (0 < L.length) = true := by simp; omega
                obtain ⟨bk, ok, rfl, _, z0, z1, z2, z3, z4⟩ := HRL.out.at_ (i := L.length - 1) (by omega)
                obtain ⟨y, hy⟩ : ∃ y, y = lastL L := ⟨_, rfl⟩
                rw [← getD_of (by omega : L.length - 1 < L.length), show L.getD (L.length - 1) l0 = y from hy.symm] at z0 z1 z2 z3 z4
                obtain ⟨k, hk⟩ : ∃ k, k = L.length - 1 := ⟨_, rfl⟩
                rw [← hk] at z0 z1 z2 z3 z4
                have j0k : (L.length : Int) - 1 = (k : Int) := by omega
                have j1k : (0 : Int) ≤ (k : Int) := by omega
                have j2k : (k : Int) < (L.length : Int) := by omega
                have j3k : IntKind.i64.wrap ((L.length : Int) - 1) = (k : Int) := by rw [IntWalk.i64_in _ (by omega)]; omega
                have Hy := Lib.hid hy
                clear hk hy
                have hdec : y.n < x.n ∧ y.f ≤ x.f := by have := HFF.out; rw [← Hy.out] at this; simpa [folB] using this
                have d1 : decide (x.n ≤ y.n) = false := by simp; omega
                have d2 : decide (x.f < y.f) = false := by simp; omega
                clear hdec
                obtain ⟨x0, x1, x2, x3, x4⟩ := Ls.box5 HKX.out
                obtain ⟨f0, f1⟩ := box2 HKF.out
                have lx := HKX.out.lt
                go_wp2
                go_quiet (fail)
                obtain ⟨V3, hV3⟩ : ∃ Zz, Zz = V2.drewN nq := ⟨_, rfl⟩
                have hb3 : Below V2.heap.size V2 V3 := by rw [hV3]; exact belowDrew (Below.refl _ _) _
                rw [← hV3]
                clear hV3
                clear x0 x1 x2 x3 x4 f0 f1 lx
                replace HRL := Lib.hid (HRL.out.next hb3)
                replace HKF := Lib.hid (HKF.out.next hb3)
                replace HKX := Lib.hid (HKX.out.next hb3)
                replace HB := Lib.hid (bt hb3 HB.out)
                clear hb3
                go_wp2
                refine region_S (fun w' => w'.cell? ⟨w.heap.size, 0, none⟩ = some (.int .i64 m.1) ∧ w'.cell? ⟨w.heap.size, 1, none⟩ = some (.slice A m.2.length c) ∧ w'.cell? ⟨w.heap.size + 1, 0, none⟩ = some (.int .i64 x.n) ∧ w'.cell? ⟨w.heap.size + 1, 1, none⟩ = some (.int .i64 x.c) ∧ w'.cell? ⟨w.heap.size + 1, 2, none⟩ = some (.int .i64 x.a) ∧ w'.cell? ⟨w.heap.size + 1, 3, none⟩ = some (.int .i64 x.f) ∧ w'.cell? ⟨w.heap.size + 1, 4, none⟩ = some (.int .i64 x.t)) 8 (by kernel_rfl) ?_
                obtain ⟨W0, hW0⟩ : ∃ Zz, Zz = V3.drew := ⟨_, rfl⟩
                have hb0 : Below V3.heap.size V3 W0 := by rw [hW0]; exact (Below.refl _ _).drew
                rw [← hW0]
                clear hW0
                have HKS : Hid (∀ w', Below V3.heap.size V3 w' → (w'.cell? ⟨w.heap.size, 0, none⟩ = some (.int .i64 m.1) ∧ w'.cell? ⟨w.heap.size, 1, none⟩ = some (.slice A m.2.length c) ∧ w'.cell? ⟨w.heap.size + 1, 0, none⟩ = some (.int .i64 x.n) ∧ w'.cell? ⟨w.heap.size + 1, 1, none⟩ = some (.int .i64 x.c) ∧ w'.cell? ⟨w.heap.size + 1, 2, none⟩ = some (.int .i64 x.a) ∧ w'.cell? ⟨w.heap.size + 1, 3, none⟩ = some (.int .i64 x.f) ∧ w'.cell? ⟨w.heap.size + 1, 4, none⟩ = some (.int .i64 x.t))) := fun w' hW => ⟨(box2 (HKF.out.next hW)).1, (box2 (HKF.out.next hW)).2, Ls.box5 (HKX.out.next hW)⟩
                have HS0 := HKS.out _ hb0
                refine anyS_take (i := 0) rfl (by kernel_rfl) (by kernel_rfl) (by kernel_rfl) (by kernel_rfl) (fun _ _ _ h => h) (Or.inl ⟨by rfl, fun w' hS' => (by obtain ⟨s1, s2, s3, s4, s5, s6, s7⟩ := hS'; go_simp; try with_reducible rfl)⟩) HS0 ?_
                refine anyS_take (i := 1) rfl (by kernel_rfl) (by kernel_rfl) (by kernel_rfl) (by kernel_rfl) (fun _ _ _ h => h) (Or.inl ⟨by rfl, fun w' hS' => (by obtain ⟨s1, s2, s3, s4, s5, s6, s7⟩ := hS'; go_simp; try with_reducible rfl)⟩) HS0 ?_
                refine anyS_one (i := 2) (by kernel_rfl) rfl rfl (fun K hK => ?_)
                have HPK := Lib.hid (vBytes_any x W0 HX.out)
                go_simp
                refine HPK.out.mono ?_
                rintro e W1 ⟨A1, q1, rfl, hq1, hr1, hb1, _⟩
                have hB1 := bt hb1 hb0
                go_simp
                refine hK _ _ (fun _ => HKS.out _ hB1) ?_
                clear hK K HPK HS0
                refine anyS_one (i := 3) (by kernel_rfl) rfl rfl (fun K hK => ?_)
                have HAP := rAppend_any m (packL x) A A1 c q1 W1 (HA.out.next (bt hB1 HB.out)) hc hr1 (by rw [packL_length]; exact hq1) (by rw [packL_length]; omega)
                rw [packL_length] at HAP
                rw [← HAMd.out, ← HAEd.out] at HAP
                have HAPH := Lib.hid HAP
                clear HAP
                go_simp
                refine HAPH.out.mono ?_
                rintro e W2 ⟨A2, c2, rfl, hc2, hr2, hb2⟩
                have hB2 := bt hb2 hB1
                have HS1 := HKS.out _ hB2
                have HR2 := Lib.hid hr2
                go_simp
                refine hK _ _ (fun _ => HS1) ?_
                clear hK K HAPH hr2
                refine anyS_take (i := 4) rfl (by kernel_rfl) (by kernel_rfl) (by kernel_rfl) (by kernel_rfl) (fun _ _ _ h => h) (Or.inl ⟨by rfl, fun w' hS' => (by obtain ⟨s1, s2, s3, s4, s5, s6, s7⟩ := hS'; go_simp; try with_reducible rfl)⟩) HS1 ?_
                refine anyS_take (i := 5) rfl (by kernel_rfl) (by kernel_rfl) (by kernel_rfl) (by kernel_rfl) (fun _ _ _ h => h) (Or.inl ⟨by rfl, fun w' hS' => (by obtain ⟨s1, s2, s3, s4, s5, s6, s7⟩ := hS'; go_simp; try with_reducible rfl)⟩) HS1 ?_
                refine anyS_take (i := 6) rfl (by kernel_rfl) (by kernel_rfl) (by kernel_rfl) (by kernel_rfl) (fun _ _ _ h => h) (Or.inl ⟨by rfl, fun w' hS' => (by obtain ⟨s1, s2, s3, s4, s5, s6, s7⟩ := hS'; go_simp; try with_reducible rfl)⟩) HS1 ?_
                refine anyS_one (i := 7) (by kernel_rfl) rfl rfl (fun K hK => ?_)
                go_simp
                refine hK _ _ (fun _ => HS1) ?_
                clear hK K
                refine anyS_one (i := 8) (by kernel_rfl) rfl rfl (fun K hK => ?_)
                go_simp
                refine hK _ _ (fun h => absurd rfl h) ?_
                clear hK K
                refine anyS_done (by kernel_rfl) ?_ _
                simp only [normPost]
                replace HRL := Lib.hid (HRL.out.next hB2)
                replace HKF := Lib.hid (HKF.out.next hB2)
                replace HKX := Lib.hid (HKX.out.next hB2)
                replace HB := Lib.hid (bt hB2 HB.out)
                clear hb0 hb1 hb2 hB1 hB2 HS1 HKS hr1
                obtain ⟨x0, x1, x2, x3, x4⟩ := Ls.box5 HKX.out
                obtain ⟨f0, f1⟩ := box2 HKF.out
                have lx := HKX.out.lt
                go_wp2_with fail
                refine (rvKept_any L _ cL tick _ hLn HVL.out (by omega) (by omega) HRL.out).mono ?_
                rintro e V4 ⟨A4, c4, rfl, hc4, hr4, hb4⟩
                obtain ⟨K, hK⟩ : ∃ K, K = keptL L tick := ⟨_, rfl⟩
                rw [← hK] at hc4 hr4 ⊢
                have HK := Lib.hid hK
                have hKn : K.length ≤ 64 := by rw [hK]; have := (kept_sub HVL.out tick).1.length_le; omega
                have HR4 := Lib.hid hr4
                clear x0 x1 x2 x3 x4 f0 f1 lx
                replace HRL := Lib.hid (HRL.out.next hb4)
                replace HKF := Lib.hid (HKF.out.next hb4)
                replace HKX := Lib.hid (HKX.out.next hb4)
                replace HB := Lib.hid (bt hb4 HB.out)
                have HKO : Hid (∀ y ∈ K, oneB y = true) := Lib.hid (fun y hy => vlB_one HVL.out ((kept_sub HVL.out tick).1.subset (hK ▸ hy)))
                obtain ⟨i1, hj, hw0, hw1, hw2⟩ := info_parts info_bs
                clear hb4 hr4 hK
                go_wp2
                go_loopw [14, 15] (fun v i wr => ∃ k : Nat, i = .int .i64 (k : Int) ∧ k ≤ K.length ∧ KtI V4 ((K.take k).map packL) v wr) (fun _ i _ => K.length - (intOf i).toNat)
                case atStart => exact ⟨0, rfl, Nat.zero_le _, [], Rw.nil _ _, rfl, Below.refl _ _⟩
                case round =>
                  obtain ⟨k, rfl, hk, its, g2, g3, g4⟩ := hrel
                  have HG2 := Lib.hid g2
                  have HG3 := Lib.hid g3
                  have HG4 := Lib.hid g4
                  have hz1 := g4.size
                  have hil : its.length = k := by have := congrArg List.length g3; simp at this; omega
                  clear g2 g3 g4
                  by_cases hlt : k < K.length
                  · obtain ⟨y, hy⟩ : ∃ y, y = K[k] := ⟨_, rfl⟩
                    obtain ⟨bL, oL, rfl, hbL, y0, y1, y2, y3, y4⟩ := (HR4.out.below HG4.out).at_ hlt
                    rw [← hy] at y0 y1 y2 y3 y4
                    have HY := Lib.hid hy
                    have hyo : oneB y = true := HKO.out y (by rw [hy]; exact List.getElem_mem hlt)
                    have HYO := Lib.hid hyo
                    have k1 : (0 : Int) ≤ (k : Int) := by omega
                    have k2 : (k : Int) < (K.length : Int) := by omega
                    have HIL := Lib.hid hil
                    have hin : its.length ≤ 64 := by omega
                    clear hy hyo hil
                    go_wp2_with fail
                    refine (vBytes_any y _ HYO.out).mono ?_
                    rintro e X1 ⟨A1, q1, rfl, hq1, _, hb1, ho1⟩
                    have hz2 := hb1.size
                    have HB1 := Lib.hid hb1
                    have HO1 := Lib.hid ho1
                    have HR1 := Lib.hid (HG2.out.next hb1)
                    clear hb1 ho1 y0 y1 y2 y3 y4
                    go_wp2_with (at_builtin; refine wpList_append_rd _ rfl (.tmp 81) (.tmp 87) _ rfl V4.heap.size 22 i1 _ 1 24 Tryz.underlying47 hj hw0 hw1 hw2 rfl (by omega) _ its.length (its.map cellB) rfl (HR1.out.1.alloc _) (X1.heap.size + 1) (some ⟨X1.heap.size, 0, none⟩) 1 1 [.slice A1 12 q1] rfl (rd_cells (t := 22) (cs := #[.slice A1 12 q1]) (Bk.new _ _ _) (by omega)) (by simp [Value.oneCell']) (by simp only [maxLen]; omega) (by omega) (by simp; omega) ?_; intro v2 w3 hown2 hg2 hat2)
                    have hrw2 := HR1.out.next (al1 X1 (.cells #[.slice A1 12 q1] 22))
                    have hrw3 : Rw V4.heap.size (its ++ [(A1, q1, packL y)]) v2 w3 := Rw.snoc (x := (A1, q1, packL y)) hrw2 (by rw [cellB, packL_length]; exact own_mono (own_on HO1.out (al1 _ _)) (by omega)) (by rw [cellB, packL_length]; exact hown2) hg2
                    have hb3 : Below V4.heap.size V4 w3 := (bt (al1 _ _) (bt HB1.out HG4.out)).grown hg2 (by simp; omega) (fun k hk => (own_lt hrw2.1 hk).1)
                    have HF : Hid (KtI V4 ((K.take (k + 1)).map packL) v2 w3) := Lib.hid ⟨_, hrw3, by rw [List.map_append, HG3.out, List.take_succ_eq_append_getElem hlt, List.map_append, ← HY.out]; rfl, hb3⟩
                    clear hown2 hg2 hat2 hrw2 hrw3 hb3
                    go_wp2
                    go_roundw
                    case rel => exact ⟨k + 1, by go_num, by omega, HF.out⟩
                    case measure => simp [intOf]; omega
                  · obtain rfl : k = K.length := by omega
                    rw [List.take_of_length_le (Nat.le_refl _)] at HG3
                    have HIL := Lib.hid hil
                    have hin : its.length ≤ 64 := by omega
                    clear hk hlt hil
                    go_wp2
                    refine region_S (fun w' => w'.cell? ⟨w.heap.size, 0, none⟩ = some (.int .i64 m.1) ∧ w'.cell? ⟨w.heap.size, 1, none⟩ = some (.slice A m.2.length c) ∧ w'.cell? ⟨w.heap.size + 1, 0, none⟩ = some (.int .i64 x.n) ∧ w'.cell? ⟨w.heap.size + 1, 1, none⟩ = some (.int .i64 x.c) ∧ w'.cell? ⟨w.heap.size + 1, 2, none⟩ = some (.int .i64 x.a) ∧ w'.cell? ⟨w.heap.size + 1, 3, none⟩ = some (.int .i64 x.f) ∧ w'.cell? ⟨w.heap.size + 1, 4, none⟩ = some (.int .i64 x.t)) 10 (by kernel_rfl) ?_
                    obtain ⟨W0, hW0⟩ : ∃ Zz, Zz = wr.drew := ⟨_, rfl⟩
                    have hb0 : Below V4.heap.size V4 W0 := by rw [hW0]; exact HG4.out.drew
                    have hbw : Below wr.heap.size wr W0 := by rw [hW0]; exact (Below.refl _ _).drew
                    rw [← hW0]
                    clear hW0
                    have HKS : Hid (∀ w', Below V4.heap.size V4 w' → (w'.cell? ⟨w.heap.size, 0, none⟩ = some (.int .i64 m.1) ∧ w'.cell? ⟨w.heap.size, 1, none⟩ = some (.slice A m.2.length c) ∧ w'.cell? ⟨w.heap.size + 1, 0, none⟩ = some (.int .i64 x.n) ∧ w'.cell? ⟨w.heap.size + 1, 1, none⟩ = some (.int .i64 x.c) ∧ w'.cell? ⟨w.heap.size + 1, 2, none⟩ = some (.int .i64 x.a) ∧ w'.cell? ⟨w.heap.size + 1, 3, none⟩ = some (.int .i64 x.f) ∧ w'.cell? ⟨w.heap.size + 1, 4, none⟩ = some (.int .i64 x.t))) := fun w' hW => ⟨(box2 (HKF.out.next hW)).1, (box2 (HKF.out.next hW)).2, Ls.box5 (HKX.out.next hW)⟩
                    have HS0 := HKS.out _ hb0
                    refine anyS_take (i := 0) rfl (by kernel_rfl) (by kernel_rfl) (by kernel_rfl) (by kernel_rfl) (fun _ _ _ h => h) (Or.inl ⟨by rfl, fun w' hS' => (by obtain ⟨s1, s2, s3, s4, s5, s6, s7⟩ := hS'; go_simp; try with_reducible rfl)⟩) HS0 ?_
                    refine anyS_take (i := 1) rfl (by kernel_rfl) (by kernel_rfl) (by kernel_rfl) (by kernel_rfl) (fun _ _ _ h => h) (Or.inl ⟨by rfl, fun w' hS' => (by obtain ⟨s1, s2, s3, s4, s5, s6, s7⟩ := hS'; go_simp; try with_reducible rfl)⟩) HS0 ?_
                    refine anyS_take (i := 2) rfl (by kernel_rfl) (by kernel_rfl) (by kernel_rfl) (by kernel_rfl) (fun _ _ _ h => h) (Or.inl ⟨by rfl, fun w' hS' => (by obtain ⟨s1, s2, s3, s4, s5, s6, s7⟩ := hS'; go_simp; try with_reducible rfl)⟩) HS0 ?_
                    refine anyS_one (i := 3) (by kernel_rfl) rfl rfl (fun K_ hK => ?_)
                    have HPK := Lib.hid (vBytes_any x W0 HX.out)
                    go_simp
                    refine HPK.out.mono ?_
                    rintro e X1 ⟨A1, q1, rfl, hq1, hr1, hb1, ho1⟩
                    have hB1 := bt hb1 hb0
                    have HO1 := Lib.hid ho1
                    go_simp
                    refine hK _ _ (fun _ => HKS.out _ hB1) ?_
                    clear hK K_ HPK HS0 ho1
                    refine anyS_one (i := 4) (by kernel_rfl) rfl rfl (fun K_ hK => ?_)
                    go_simp
                    obtain ⟨w2, hw2⟩ : ∃ Zz, Zz = X1.alloc (.cells #[.slice A1 12 q1] 22) := ⟨_, rfl⟩
                    have hb2 : Below X1.heap.size X1 w2 := by rw [hw2]; exact al1 _ _
                    have k7 : Bk w2 X1.heap.size 22 #[.slice A1 12 q1] := by rw [hw2]; exact Bk.new _ _ _
                    rw [← hw2]
                    clear hw2
                    have hb12 := bt hb2 hB1
                    refine hK _ _ (fun _ => HKS.out _ hb12) ?_
                    clear hK K_
                    have HR2 := Lib.hid (HG2.out.next (bt (bt hb2 hb1) hbw))
                    have HO2 := Lib.hid (own_mono (own_on HO1.out hb2) (by have := hb0.size; omega : V4.heap.size ≤ W0.heap.size))
                    have h2s := k7.lt
                    have h13s := hb12.size
                    refine anyS_one (i := 5) (by kernel_rfl) rfl rfl (fun K_ hK => ?_)
                    refine wp_append_rd _ (.tmp 90) (.tmp 93) _ (by rfl) V4.heap.size 22 i1 _ 1 24 Tryz.underlying47 hj hw0 hw1 hw2 rfl (by omega) _ its.length (its.map cellB) (by rfl) HR2.out.1 w2.heap.size (some ⟨X1.heap.size, 0, none⟩) 1 1 [.slice A1 12 q1] (by rfl) (rd_cells (t := 22) k7 h2s) (by simp [Value.oneCell']) (by simp only [maxLen]; omega) (by omega) (by omega) ?_
                    intro v2 w3 hown2 hg2 hat2
                    have hrw3 : Rw V4.heap.size (its ++ [(A1, q1, packL x)]) v2 w3 := Rw.snoc (x := (A1, q1, packL x)) HR2.out (by rw [cellB, packL_length]; exact HO2.out) (by rw [cellB, packL_length]; exact hown2) hg2
                    have hb3 : Below V4.heap.size V4 w3 := hb12.grown hg2 (by omega) (fun k hk => (own_lt HR2.out.1 hk).1)
                    obtain ⟨A2, q2, rfl, hq2, hrr⟩ := hrw3.rd
                    have HRR : Hid (RdBs w3 w3.heap.size A2 rs) := Lib.hid (by rw [HRSd.out, HKR.out, ← HK.out, List.map_append, ← HG3.out]; simpa using hrr)
                    have hrl : rs.length = its.length + 1 := by rw [HRSd.out, HKR.out, ← HK.out, List.map_append, ← HG3.out]; simp
                    have HRLn := Lib.hid hrl
                    have hlen2 : (its ++ [(A1, q1, packL x)]).length = its.length + 1 := by simp
                    rw [hlen2] at hq2 ⊢
                    refine hK _ _ (fun _ => HKS.out _ hb3) ?_
                    clear hK K_ hown2 hg2 hat2 hrw3 hrr hrl hlen2
                    refine anyS_one (i := 6) (by kernel_rfl) rfl rfl (fun K_ hK => ?_)
                    have HRW := rRewrite_any m rs A A2 c q2 w3 (HA.out.next (bt hb3 HB.out)) hc HRR.out (by rw [HRSd.out]; exact HRO.out)
                    rw [HRLn.out] at HRW
                    rw [HRSd.out, ← HRMd.out, ← HREd.out] at HRW
                    have HRWH := Lib.hid HRW
                    clear HRW
                    go_simp
                    refine HRWH.out.mono ?_
                    rintro e X4 ⟨A5, c5, rfl, hc5, hr5, hb5⟩
                    have hB4 := bt hb5 hb3
                    have HS1 := HKS.out _ hB4
                    have HR5 := Lib.hid hr5
                    have HB5 := Lib.hid (bt hB4 HB.out)
                    go_simp
                    refine hK _ _ (fun _ => HS1) ?_
                    clear hK K_ HRWH hr5
                    refine anyS_take (i := 7) rfl (by kernel_rfl) (by kernel_rfl) (by kernel_rfl) (by kernel_rfl) (fun _ _ _ h => h) (Or.inl ⟨by rfl, fun w' hS' => (by obtain ⟨s1, s2, s3, s4, s5, s6, s7⟩ := hS'; go_simp; try with_reducible rfl)⟩) HS1 ?_
                    refine anyS_take (i := 8) rfl (by kernel_rfl) (by kernel_rfl) (by kernel_rfl) (by kernel_rfl) (fun _ _ _ h => h) (Or.inl ⟨by rfl, fun w' hS' => (by obtain ⟨s1, s2, s3, s4, s5, s6, s7⟩ := hS'; go_simp; try with_reducible rfl)⟩) HS1 ?_
                    refine anyS_one (i := 9) (by kernel_rfl) rfl rfl (fun K_ hK => ?_)
                    go_simp
                    refine hK _ _ (fun _ => HS1) ?_
                    clear hK K_
                    refine anyS_one (i := 10) (by kernel_rfl) rfl rfl (fun K_ hK => ?_)
                    go_simp
                    refine hK _ _ (fun h => absurd rfl h) ?_
                    clear hK K_
                    refine anyS_done (by kernel_rfl) ?_ _
                    simp only [normPost]
                    clear hb0 hbw hb1 hb2 hb3 hb5 hb12 hB1 hB4 HS1 HKS hr1 h2s h13s k7
                    go_wp2
                    go_ret2
                    exact ⟨A5, c5, rfl, hc5, HR5.out, HB5.out⟩
              · obtain ⟨e1, e2⟩ := sto_app h0 ha (hL ▸ hold) h10
                rw [e1, e2]
                have q10 : (appE m (packL x) != 10) = true := by simpa using h10
                obtain ⟨AM, hAM⟩ : ∃ AM, AM = appM m (packL x) := ⟨_, rfl⟩
                obtain ⟨AE, hAE⟩ : ∃ AE, AE = appE m (packL x) := ⟨_, rfl⟩
                have HAMd := Lib.hid hAM
                have HAEd := Lib.hid hAE
                rw [← hAM, ← hAE]
                rw [← hAE] at q10
                clear e1 e2 ha hL h0 ho h10 hAM hAE
                go_enter Tryz.func6, Tryz.ntmps6
                go_wp2_with fail
                obtain ⟨U, hU⟩ : ∃ Zz, Zz = ((w.alloc (.cells #[.int .i64 m.1, .slice A m.2.length c] 24)).alloc (.cells #[.int .i64 x.n, .int .i64 x.c, .int .i64 x.a, .int .i64 x.f, .int .i64 x.t] 26)) := ⟨_, rfl⟩
                have hbU : Below w.heap.size w U := by rw [hU]; exact al2 _ _ _
                have kf : Bk U w.heap.size 24 #[.int .i64 m.1, .slice A m.2.length c] := by rw [hU]; exact (Bk.new _ _ _).alloc _
                have kx : Bk U (w.heap.size + 1) 26 #[.int .i64 x.n, .int .i64 x.c, .int .i64 x.a, .int .i64 x.f, .int .i64 x.t] := by rw [hU]; exact bkOf (by simp [at?_alloc])
                rw [← hU]
                clear hU
                refine (rvLoad_lit L 0 m A c _ HL.out.symm HE.out (HA.out.next hbU) hc).mono ?_
                rintro e V1 ⟨AL, cL, rfl, hcL, hrL, hb⟩
                have HRL := Lib.hid hrL
                have HB := Lib.hid (bt hb hbU)
                have HKF := Lib.hid (kf.next hb)
                have HKX := Lib.hid (kx.next hb)
                clear hrL hb hbU kf kx
                obtain ⟨x0, x1, x2, x3, x4⟩ := Ls.box5 HKX.out
                obtain ⟨f0, f1⟩ := box2 HKF.out
                have lx := HKX.out.lt
                go_wp2_with fail
                clear x0 x1 x2 x3 x4 f0 f1 lx
                refine (rOne_lit true x _ HO.out).mono ?_
                rintro e V2 ⟨rfl, hb⟩
                replace HRL := Lib.hid (HRL.out.next hb)
                replace HKF := Lib.hid (HKF.out.next hb)
                replace HKX := Lib.hid (HKX.out.next hb)
                replace HB := Lib.hid (bt hb HB.out)
                clear hb
                have j4 : decide ((0 : Int) < (L.length : Int)) = true := by simp; omega
                have j6 : decide (0 < L.length) = true := by simp; omega
                obtain ⟨bk, ok, rfl, _, z0, z1, z2, z3, z4⟩ := HRL.out.at_ (i := L.length - 1) (by omega)
                obtain ⟨y, hy⟩ : ∃ y, y = lastL L := ⟨_, rfl⟩
                rw [← getD_of (by omega : L.length - 1 < L.length), show L.getD (L.length - 1) l0 = y from hy.symm] at z0 z1 z2 z3 z4
                obtain ⟨k, hk⟩ : ∃ k, k = L.length - 1 := ⟨_, rfl⟩
                rw [← hk] at z0 z1 z2 z3 z4
                have j0k : (L.length : Int) - 1 = (k : Int) := by omega
                have j1k : (0 : Int) ≤ (k : Int) := by omega
                have j2k : (k : Int) < (L.length : Int) := by omega
                have j3k : IntKind.i64.wrap ((L.length : Int) - 1) = (k : Int) := by rw [IntWalk.i64_in _ (by omega)]; omega
                have Hy := Lib.hid hy
                clear hk hy
                have hdec : y.n < x.n ∧ y.f ≤ x.f := by have := HFF.out; rw [← Hy.out] at this; simpa [folB] using this
                have d1 : decide (x.n ≤ y.n) = false := by simp; omega
                have d2 : decide (x.f < y.f) = false := by simp; omega
                clear hdec
                obtain ⟨x0, x1, x2, x3, x4⟩ := Ls.box5 HKX.out
                obtain ⟨f0, f1⟩ := box2 HKF.out
                have lx := HKX.out.lt
                go_wp2
                go_quiet (fail)
                obtain ⟨V3, hV3⟩ : ∃ Zz, Zz = V2.drewN nq := ⟨_, rfl⟩
                have hb3 : Below V2.heap.size V2 V3 := by rw [hV3]; exact belowDrew (Below.refl _ _) _
                rw [← hV3]
                clear hV3
                clear x0 x1 x2 x3 x4 f0 f1 lx
                replace HRL := Lib.hid (HRL.out.next hb3)
                replace HKF := Lib.hid (HKF.out.next hb3)
                replace HKX := Lib.hid (HKX.out.next hb3)
                replace HB := Lib.hid (bt hb3 HB.out)
                clear hb3
                go_wp2
                refine region_S (fun w' => w'.cell? ⟨w.heap.size, 0, none⟩ = some (.int .i64 m.1) ∧ w'.cell? ⟨w.heap.size, 1, none⟩ = some (.slice A m.2.length c) ∧ w'.cell? ⟨w.heap.size + 1, 0, none⟩ = some (.int .i64 x.n) ∧ w'.cell? ⟨w.heap.size + 1, 1, none⟩ = some (.int .i64 x.c) ∧ w'.cell? ⟨w.heap.size + 1, 2, none⟩ = some (.int .i64 x.a) ∧ w'.cell? ⟨w.heap.size + 1, 3, none⟩ = some (.int .i64 x.f) ∧ w'.cell? ⟨w.heap.size + 1, 4, none⟩ = some (.int .i64 x.t)) 8 (by kernel_rfl) ?_
                obtain ⟨W0, hW0⟩ : ∃ Zz, Zz = V3.drew := ⟨_, rfl⟩
                have hb0 : Below V3.heap.size V3 W0 := by rw [hW0]; exact (Below.refl _ _).drew
                rw [← hW0]
                clear hW0
                have HKS : Hid (∀ w', Below V3.heap.size V3 w' → (w'.cell? ⟨w.heap.size, 0, none⟩ = some (.int .i64 m.1) ∧ w'.cell? ⟨w.heap.size, 1, none⟩ = some (.slice A m.2.length c) ∧ w'.cell? ⟨w.heap.size + 1, 0, none⟩ = some (.int .i64 x.n) ∧ w'.cell? ⟨w.heap.size + 1, 1, none⟩ = some (.int .i64 x.c) ∧ w'.cell? ⟨w.heap.size + 1, 2, none⟩ = some (.int .i64 x.a) ∧ w'.cell? ⟨w.heap.size + 1, 3, none⟩ = some (.int .i64 x.f) ∧ w'.cell? ⟨w.heap.size + 1, 4, none⟩ = some (.int .i64 x.t))) := fun w' hW => ⟨(box2 (HKF.out.next hW)).1, (box2 (HKF.out.next hW)).2, Ls.box5 (HKX.out.next hW)⟩
                have HS0 := HKS.out _ hb0
                refine anyS_take (i := 0) rfl (by kernel_rfl) (by kernel_rfl) (by kernel_rfl) (by kernel_rfl) (fun _ _ _ h => h) (Or.inl ⟨by rfl, fun w' hS' => (by obtain ⟨s1, s2, s3, s4, s5, s6, s7⟩ := hS'; go_simp; try with_reducible rfl)⟩) HS0 ?_
                refine anyS_take (i := 1) rfl (by kernel_rfl) (by kernel_rfl) (by kernel_rfl) (by kernel_rfl) (fun _ _ _ h => h) (Or.inl ⟨by rfl, fun w' hS' => (by obtain ⟨s1, s2, s3, s4, s5, s6, s7⟩ := hS'; go_simp; try with_reducible rfl)⟩) HS0 ?_
                refine anyS_one (i := 2) (by kernel_rfl) rfl rfl (fun K hK => ?_)
                have HPK := Lib.hid (vBytes_any x W0 HX.out)
                go_simp
                refine HPK.out.mono ?_
                rintro e W1 ⟨A1, q1, rfl, hq1, hr1, hb1, _⟩
                have hB1 := bt hb1 hb0
                go_simp
                refine hK _ _ (fun _ => HKS.out _ hB1) ?_
                clear hK K HPK HS0
                refine anyS_one (i := 3) (by kernel_rfl) rfl rfl (fun K hK => ?_)
                have HAP := rAppend_any m (packL x) A A1 c q1 W1 (HA.out.next (bt hB1 HB.out)) hc hr1 (by rw [packL_length]; exact hq1) (by rw [packL_length]; omega)
                rw [packL_length] at HAP
                rw [← HAMd.out, ← HAEd.out] at HAP
                have HAPH := Lib.hid HAP
                clear HAP
                go_simp
                refine HAPH.out.mono ?_
                rintro e W2 ⟨A2, c2, rfl, hc2, hr2, hb2⟩
                have hB2 := bt hb2 hB1
                have HS1 := HKS.out _ hB2
                have HR2 := Lib.hid hr2
                go_simp
                refine hK _ _ (fun _ => HS1) ?_
                clear hK K HAPH hr2
                refine anyS_take (i := 4) rfl (by kernel_rfl) (by kernel_rfl) (by kernel_rfl) (by kernel_rfl) (fun _ _ _ h => h) (Or.inl ⟨by rfl, fun w' hS' => (by obtain ⟨s1, s2, s3, s4, s5, s6, s7⟩ := hS'; go_simp; try with_reducible rfl)⟩) HS1 ?_
                refine anyS_take (i := 5) rfl (by kernel_rfl) (by kernel_rfl) (by kernel_rfl) (by kernel_rfl) (fun _ _ _ h => h) (Or.inl ⟨by rfl, fun w' hS' => (by obtain ⟨s1, s2, s3, s4, s5, s6, s7⟩ := hS'; go_simp; try with_reducible rfl)⟩) HS1 ?_
                refine anyS_take (i := 6) rfl (by kernel_rfl) (by kernel_rfl) (by kernel_rfl) (by kernel_rfl) (fun _ _ _ h => h) (Or.inl ⟨by rfl, fun w' hS' => (by obtain ⟨s1, s2, s3, s4, s5, s6, s7⟩ := hS'; go_simp; try with_reducible rfl)⟩) HS1 ?_
                refine anyS_one (i := 7) (by kernel_rfl) rfl rfl (fun K hK => ?_)
                go_simp
                refine hK _ _ (fun _ => HS1) ?_
                clear hK K
                refine anyS_one (i := 8) (by kernel_rfl) rfl rfl (fun K hK => ?_)
                go_simp
                refine hK _ _ (fun h => absurd rfl h) ?_
                clear hK K
                refine anyS_done (by kernel_rfl) ?_ _
                simp only [normPost]
                replace HRL := Lib.hid (HRL.out.next hB2)
                replace HKF := Lib.hid (HKF.out.next hB2)
                replace HKX := Lib.hid (HKX.out.next hB2)
                replace HB := Lib.hid (bt hB2 HB.out)
                clear hb0 hb1 hb2 hB1 hB2 HS1 HKS hr1
                go_wp2
                go_ret2
                exact ⟨A2, c2, rfl, hc2, HR2.out, HB.out⟩
          · have hold : oldB L x = false := by rw [oldB, decide_eq_false hlp]; rfl
            by_cases h10 : appE m (packL x) = 10
            · obtain ⟨e1, e2⟩ := sto_rew h0 ha (hL ▸ hold) h10
              obtain ⟨s1, s2⟩ := keepR_small h0 x tick
              obtain ⟨RM, hRM⟩ : ∃ RM, RM = rewM m (keepR m x tick) := ⟨_, rfl⟩
              obtain ⟨RE, hRE⟩ : ∃ RE, RE = rewE m (keepR m x tick) := ⟨_, rfl⟩
              rw [e1, e2, ← hRM, ← hRE]
              have HRMd := Lib.hid hRM
              have HREd := Lib.hid hRE
              have HS2 := Lib.hid s2
              have hrm := keepR_room h0 x tick
              have HRO := Lib.hid hrm
              clear hrm
              have HKR : Hid (keepR m x tick = (keptL L tick ++ [x]).map packL) := by show _ = _; rw [keepR, ← hL]
              have HVL : Hid (vlB L = true) := by show _ = _; rw [hL]; exact (load_ok h0).2.2.2.2
              obtain ⟨rs, hrs⟩ : ∃ rs, rs = keepR m x tick := ⟨_, rfl⟩
              rw [← hrs] at s1
              have HRSd := Lib.hid hrs
              obtain ⟨AM, hAM⟩ : ∃ AM, AM = appM m (packL x) := ⟨_, rfl⟩
              obtain ⟨AE, hAE⟩ : ∃ AE, AE = appE m (packL x) := ⟨_, rfl⟩
              have HAMd := Lib.hid hAM
              have HAEd := Lib.hid hAE
              rw [h10] at hAE
              subst hAE
              have HAEd' : Hid (10 = appE m (packL x)) := h10.symm
              clear e1 e2 ha hL h0 ho h10 hAM hRM hRE s2 hrs
              go_enter Tryz.func6, Tryz.ntmps6
              go_wp2_with fail
              obtain ⟨U, hU⟩ : ∃ Zz, Zz = ((w.alloc (.cells #[.int .i64 m.1, .slice A m.2.length c] 24)).alloc (.cells #[.int .i64 x.n, .int .i64 x.c, .int .i64 x.a, .int .i64 x.f, .int .i64 x.t] 26)) := ⟨_, rfl⟩
              have hbU : Below w.heap.size w U := by rw [hU]; exact al2 _ _ _
              have kf : Bk U w.heap.size 24 #[.int .i64 m.1, .slice A m.2.length c] := by rw [hU]; exact (Bk.new _ _ _).alloc _
              have kx : Bk U (w.heap.size + 1) 26 #[.int .i64 x.n, .int .i64 x.c, .int .i64 x.a, .int .i64 x.f, .int .i64 x.t] := by rw [hU]; exact bkOf (by simp [at?_alloc])
              rw [← hU]
              clear hU
              refine (rvLoad_lit L 0 m A c _ HL.out.symm HE.out (HA.out.next hbU) hc).mono ?_
              rintro e V1 ⟨AL, cL, rfl, hcL, hrL, hb⟩
              have HRL := Lib.hid hrL
              have HB := Lib.hid (bt hb hbU)
              have HKF := Lib.hid (kf.next hb)
              have HKX := Lib.hid (kx.next hb)
              clear hrL hb hbU kf kx
              obtain ⟨x0, x1, x2, x3, x4⟩ := Ls.box5 HKX.out
              obtain ⟨f0, f1⟩ := box2 HKF.out
              have lx := HKX.out.lt
              go_wp2_with fail
              clear x0 x1 x2 x3 x4 f0 f1 lx
              refine (rOne_lit true x _ HO.out).mono ?_
              rintro e V2 ⟨rfl, hb⟩
              replace HRL := Lib.hid (HRL.out.next hb)
              replace HKF := Lib.hid (HKF.out.next hb)
              replace HKX := Lib.hid (HKX.out.next hb)
              replace HB := Lib.hid (bt hb HB.out)
              clear hb
              have j4 : decide ((0 : Int) < (L.length : Int)) = false := decide_eq_false (by omega)
              have j6 : decide (0 < L.length) = false := decide_eq_false (by omega)
              obtain ⟨x0, x1, x2, x3, x4⟩ := Ls.box5 HKX.out
              obtain ⟨f0, f1⟩ := box2 HKF.out
              have lx := HKX.out.lt
              go_wp2
              go_quiet (fail)
              obtain ⟨V3, hV3⟩ : ∃ Zz, Zz = V2.drewN nq := ⟨_, rfl⟩
              have hb3 : Below V2.heap.size V2 V3 := by rw [hV3]; exact belowDrew (Below.refl _ _) _
              rw [← hV3]
              clear hV3
              clear x0 x1 x2 x3 x4 f0 f1 lx
              replace HRL := Lib.hid (HRL.out.next hb3)
              replace HKF := Lib.hid (HKF.out.next hb3)
              replace HKX := Lib.hid (HKX.out.next hb3)
              replace HB := Lib.hid (bt hb3 HB.out)
              clear hb3
              go_wp2
              refine region_S (fun w' => w'.cell? ⟨w.heap.size, 0, none⟩ = some (.int .i64 m.1) ∧ w'.cell? ⟨w.heap.size, 1, none⟩ = some (.slice A m.2.length c) ∧ w'.cell? ⟨w.heap.size + 1, 0, none⟩ = some (.int .i64 x.n) ∧ w'.cell? ⟨w.heap.size + 1, 1, none⟩ = some (.int .i64 x.c) ∧ w'.cell? ⟨w.heap.size + 1, 2, none⟩ = some (.int .i64 x.a) ∧ w'.cell? ⟨w.heap.size + 1, 3, none⟩ = some (.int .i64 x.f) ∧ w'.cell? ⟨w.heap.size + 1, 4, none⟩ = some (.int .i64 x.t)) 8 (by kernel_rfl) ?_
              obtain ⟨W0, hW0⟩ : ∃ Zz, Zz = V3.drew := ⟨_, rfl⟩
              have hb0 : Below V3.heap.size V3 W0 := by rw [hW0]; exact (Below.refl _ _).drew
              rw [← hW0]
              clear hW0
              have HKS : Hid (∀ w', Below V3.heap.size V3 w' → (w'.cell? ⟨w.heap.size, 0, none⟩ = some (.int .i64 m.1) ∧ w'.cell? ⟨w.heap.size, 1, none⟩ = some (.slice A m.2.length c) ∧ w'.cell? ⟨w.heap.size + 1, 0, none⟩ = some (.int .i64 x.n) ∧ w'.cell? ⟨w.heap.size + 1, 1, none⟩ = some (.int .i64 x.c) ∧ w'.cell? ⟨w.heap.size + 1, 2, none⟩ = some (.int .i64 x.a) ∧ w'.cell? ⟨w.heap.size + 1, 3, none⟩ = some (.int .i64 x.f) ∧ w'.cell? ⟨w.heap.size + 1, 4, none⟩ = some (.int .i64 x.t))) := fun w' hW => ⟨(box2 (HKF.out.next hW)).1, (box2 (HKF.out.next hW)).2, Ls.box5 (HKX.out.next hW)⟩
              have HS0 := HKS.out _ hb0
              refine anyS_take (i := 0) rfl (by kernel_rfl) (by kernel_rfl) (by kernel_rfl) (by kernel_rfl) (fun _ _ _ h => h) (Or.inl ⟨by rfl, fun w' hS' => (by obtain ⟨s1, s2, s3, s4, s5, s6, s7⟩ := hS'; go_simp; try with_reducible rfl)⟩) HS0 ?_
              refine anyS_take (i := 1) rfl (by kernel_rfl) (by kernel_rfl) (by kernel_rfl) (by kernel_rfl) (fun _ _ _ h => h) (Or.inl ⟨by rfl, fun w' hS' => (by obtain ⟨s1, s2, s3, s4, s5, s6, s7⟩ := hS'; go_simp; try with_reducible rfl)⟩) HS0 ?_
              refine anyS_one (i := 2) (by kernel_rfl) rfl rfl (fun K hK => ?_)
              have HPK := Lib.hid (vBytes_any x W0 HX.out)
              go_simp
              refine HPK.out.mono ?_
              rintro e W1 ⟨A1, q1, rfl, hq1, hr1, hb1, _⟩
              have hB1 := bt hb1 hb0
              go_simp
              refine hK _ _ (fun _ => HKS.out _ hB1) ?_
              clear hK K HPK HS0
              refine anyS_one (i := 3) (by kernel_rfl) rfl rfl (fun K hK => ?_)
              have HAP := rAppend_any m (packL x) A A1 c q1 W1 (HA.out.next (bt hB1 HB.out)) hc hr1 (by rw [packL_length]; exact hq1) (by rw [packL_length]; omega)
              rw [packL_length] at HAP
              rw [← HAMd.out, ← HAEd.out] at HAP
              have HAPH := Lib.hid HAP
              clear HAP
              go_simp
              refine HAPH.out.mono ?_
              rintro e W2 ⟨A2, c2, rfl, hc2, hr2, hb2⟩
              have hB2 := bt hb2 hB1
              have HS1 := HKS.out _ hB2
              have HR2 := Lib.hid hr2
              go_simp
              refine hK _ _ (fun _ => HS1) ?_
              clear hK K HAPH hr2
              refine anyS_take (i := 4) rfl (by kernel_rfl) (by kernel_rfl) (by kernel_rfl) (by kernel_rfl) (fun _ _ _ h => h) (Or.inl ⟨by rfl, fun w' hS' => (by obtain ⟨s1, s2, s3, s4, s5, s6, s7⟩ := hS'; go_simp; try with_reducible rfl)⟩) HS1 ?_
              refine anyS_take (i := 5) rfl (by kernel_rfl) (by kernel_rfl) (by kernel_rfl) (by kernel_rfl) (fun _ _ _ h => h) (Or.inl ⟨by rfl, fun w' hS' => (by obtain ⟨s1, s2, s3, s4, s5, s6, s7⟩ := hS'; go_simp; try with_reducible rfl)⟩) HS1 ?_
              refine anyS_take (i := 6) rfl (by kernel_rfl) (by kernel_rfl) (by kernel_rfl) (by kernel_rfl) (fun _ _ _ h => h) (Or.inl ⟨by rfl, fun w' hS' => (by obtain ⟨s1, s2, s3, s4, s5, s6, s7⟩ := hS'; go_simp; try with_reducible rfl)⟩) HS1 ?_
              refine anyS_one (i := 7) (by kernel_rfl) rfl rfl (fun K hK => ?_)
              go_simp
              refine hK _ _ (fun _ => HS1) ?_
              clear hK K
              refine anyS_one (i := 8) (by kernel_rfl) rfl rfl (fun K hK => ?_)
              go_simp
              refine hK _ _ (fun h => absurd rfl h) ?_
              clear hK K
              refine anyS_done (by kernel_rfl) ?_ _
              simp only [normPost]
              replace HRL := Lib.hid (HRL.out.next hB2)
              replace HKF := Lib.hid (HKF.out.next hB2)
              replace HKX := Lib.hid (HKX.out.next hB2)
              replace HB := Lib.hid (bt hB2 HB.out)
              clear hb0 hb1 hb2 hB1 hB2 HS1 HKS hr1
              obtain ⟨x0, x1, x2, x3, x4⟩ := Ls.box5 HKX.out
              obtain ⟨f0, f1⟩ := box2 HKF.out
              have lx := HKX.out.lt
              go_wp2_with fail
              refine (rvKept_any L _ cL tick _ hLn HVL.out (by omega) (by omega) HRL.out).mono ?_
              rintro e V4 ⟨A4, c4, rfl, hc4, hr4, hb4⟩
              obtain ⟨K, hK⟩ : ∃ K, K = keptL L tick := ⟨_, rfl⟩
              rw [← hK] at hc4 hr4 ⊢
              have HK := Lib.hid hK
              have hKn : K.length ≤ 64 := by rw [hK]; have := (kept_sub HVL.out tick).1.length_le; omega
              have HR4 := Lib.hid hr4
              clear x0 x1 x2 x3 x4 f0 f1 lx
              replace HRL := Lib.hid (HRL.out.next hb4)
              replace HKF := Lib.hid (HKF.out.next hb4)
              replace HKX := Lib.hid (HKX.out.next hb4)
              replace HB := Lib.hid (bt hb4 HB.out)
              have HKO : Hid (∀ y ∈ K, oneB y = true) := Lib.hid (fun y hy => vlB_one HVL.out ((kept_sub HVL.out tick).1.subset (hK ▸ hy)))
              obtain ⟨i1, hj, hw0, hw1, hw2⟩ := info_parts info_bs
              clear hb4 hr4 hK
              go_wp2
              go_loopw [14, 15] (fun v i wr => ∃ k : Nat, i = .int .i64 (k : Int) ∧ k ≤ K.length ∧ KtI V4 ((K.take k).map packL) v wr) (fun _ i _ => K.length - (intOf i).toNat)
              case atStart => exact ⟨0, rfl, Nat.zero_le _, [], Rw.nil _ _, rfl, Below.refl _ _⟩
              case round =>
                obtain ⟨k, rfl, hk, its, g2, g3, g4⟩ := hrel
                have HG2 := Lib.hid g2
                have HG3 := Lib.hid g3
                have HG4 := Lib.hid g4
                have hz1 := g4.size
                have hil : its.length = k := by have := congrArg List.length g3; simp at this; omega
                clear g2 g3 g4
                by_cases hlt : k < K.length
                · obtain ⟨y, hy⟩ : ∃ y, y = K[k] := ⟨_, rfl⟩
                  obtain ⟨bL, oL, rfl, hbL, y0, y1, y2, y3, y4⟩ := (HR4.out.below HG4.out).at_ hlt
                  rw [← hy] at y0 y1 y2 y3 y4
                  have HY := Lib.hid hy
                  have hyo : oneB y = true := HKO.out y (by rw [hy]; exact List.getElem_mem hlt)
                  have HYO := Lib.hid hyo
                  have k1 : (0 : Int) ≤ (k : Int) := by omega
                  have k2 : (k : Int) < (K.length : Int) := by omega
                  have HIL := Lib.hid hil
                  have hin : its.length ≤ 64 := by omega
                  clear hy hyo hil
                  go_wp2_with fail
                  refine (vBytes_any y _ HYO.out).mono ?_
                  rintro e X1 ⟨A1, q1, rfl, hq1, _, hb1, ho1⟩
                  have hz2 := hb1.size
                  have HB1 := Lib.hid hb1
                  have HO1 := Lib.hid ho1
                  have HR1 := Lib.hid (HG2.out.next hb1)
                  clear hb1 ho1 y0 y1 y2 y3 y4
                  go_wp2_with (at_builtin; refine wpList_append_rd _ rfl (.tmp 81) (.tmp 87) _ rfl V4.heap.size 22 i1 _ 1 24 Tryz.underlying47 hj hw0 hw1 hw2 rfl (by omega) _ its.length (its.map cellB) rfl (HR1.out.1.alloc _) (X1.heap.size + 1) (some ⟨X1.heap.size, 0, none⟩) 1 1 [.slice A1 12 q1] rfl (rd_cells (t := 22) (cs := #[.slice A1 12 q1]) (Bk.new _ _ _) (by omega)) (by simp [Value.oneCell']) (by simp only [maxLen]; omega) (by omega) (by simp; omega) ?_; intro v2 w3 hown2 hg2 hat2)
                  have hrw2 := HR1.out.next (al1 X1 (.cells #[.slice A1 12 q1] 22))
                  have hrw3 : Rw V4.heap.size (its ++ [(A1, q1, packL y)]) v2 w3 := Rw.snoc (x := (A1, q1, packL y)) hrw2 (by rw [cellB, packL_length]; exact own_mono (own_on HO1.out (al1 _ _)) (by omega)) (by rw [cellB, packL_length]; exact hown2) hg2
                  have hb3 : Below V4.heap.size V4 w3 := (bt (al1 _ _) (bt HB1.out HG4.out)).grown hg2 (by simp; omega) (fun k hk => (own_lt hrw2.1 hk).1)
                  have HF : Hid (KtI V4 ((K.take (k + 1)).map packL) v2 w3) := Lib.hid ⟨_, hrw3, by rw [List.map_append, HG3.out, List.take_succ_eq_append_getElem hlt, List.map_append, ← HY.out]; rfl, hb3⟩
                  clear hown2 hg2 hat2 hrw2 hrw3 hb3
                  go_wp2
                  go_roundw
                  case rel => exact ⟨k + 1, by go_num, by omega, HF.out⟩
                  case measure => simp [intOf]; omega
                · obtain rfl : k = K.length := by omega
                  rw [List.take_of_length_le (Nat.le_refl _)] at HG3
                  have HIL := Lib.hid hil
                  have hin : its.length ≤ 64 := by omega
                  clear hk hlt hil
                  go_wp2
                  refine region_S (fun w' => w'.cell? ⟨w.heap.size, 0, none⟩ = some (.int .i64 m.1) ∧ w'.cell? ⟨w.heap.size, 1, none⟩ = some (.slice A m.2.length c) ∧ w'.cell? ⟨w.heap.size + 1, 0, none⟩ = some (.int .i64 x.n) ∧ w'.cell? ⟨w.heap.size + 1, 1, none⟩ = some (.int .i64 x.c) ∧ w'.cell? ⟨w.heap.size + 1, 2, none⟩ = some (.int .i64 x.a) ∧ w'.cell? ⟨w.heap.size + 1, 3, none⟩ = some (.int .i64 x.f) ∧ w'.cell? ⟨w.heap.size + 1, 4, none⟩ = some (.int .i64 x.t)) 10 (by kernel_rfl) ?_
                  obtain ⟨W0, hW0⟩ : ∃ Zz, Zz = wr.drew := ⟨_, rfl⟩
                  have hb0 : Below V4.heap.size V4 W0 := by rw [hW0]; exact HG4.out.drew
                  have hbw : Below wr.heap.size wr W0 := by rw [hW0]; exact (Below.refl _ _).drew
                  rw [← hW0]
                  clear hW0
                  have HKS : Hid (∀ w', Below V4.heap.size V4 w' → (w'.cell? ⟨w.heap.size, 0, none⟩ = some (.int .i64 m.1) ∧ w'.cell? ⟨w.heap.size, 1, none⟩ = some (.slice A m.2.length c) ∧ w'.cell? ⟨w.heap.size + 1, 0, none⟩ = some (.int .i64 x.n) ∧ w'.cell? ⟨w.heap.size + 1, 1, none⟩ = some (.int .i64 x.c) ∧ w'.cell? ⟨w.heap.size + 1, 2, none⟩ = some (.int .i64 x.a) ∧ w'.cell? ⟨w.heap.size + 1, 3, none⟩ = some (.int .i64 x.f) ∧ w'.cell? ⟨w.heap.size + 1, 4, none⟩ = some (.int .i64 x.t))) := fun w' hW => ⟨(box2 (HKF.out.next hW)).1, (box2 (HKF.out.next hW)).2, Ls.box5 (HKX.out.next hW)⟩
                  have HS0 := HKS.out _ hb0
                  refine anyS_take (i := 0) rfl (by kernel_rfl) (by kernel_rfl) (by kernel_rfl) (by kernel_rfl) (fun _ _ _ h => h) (Or.inl ⟨by rfl, fun w' hS' => (by obtain ⟨s1, s2, s3, s4, s5, s6, s7⟩ := hS'; go_simp; try with_reducible rfl)⟩) HS0 ?_
                  refine anyS_take (i := 1) rfl (by kernel_rfl) (by kernel_rfl) (by kernel_rfl) (by kernel_rfl) (fun _ _ _ h => h) (Or.inl ⟨by rfl, fun w' hS' => (by obtain ⟨s1, s2, s3, s4, s5, s6, s7⟩ := hS'; go_simp; try with_reducible rfl)⟩) HS0 ?_
                  refine anyS_take (i := 2) rfl (by kernel_rfl) (by kernel_rfl) (by kernel_rfl) (by kernel_rfl) (fun _ _ _ h => h) (Or.inl ⟨by rfl, fun w' hS' => (by obtain ⟨s1, s2, s3, s4, s5, s6, s7⟩ := hS'; go_simp; try with_reducible rfl)⟩) HS0 ?_
                  refine anyS_one (i := 3) (by kernel_rfl) rfl rfl (fun K_ hK => ?_)
                  have HPK := Lib.hid (vBytes_any x W0 HX.out)
                  go_simp
                  refine HPK.out.mono ?_
                  rintro e X1 ⟨A1, q1, rfl, hq1, hr1, hb1, ho1⟩
                  have hB1 := bt hb1 hb0
                  have HO1 := Lib.hid ho1
                  go_simp
                  refine hK _ _ (fun _ => HKS.out _ hB1) ?_
                  clear hK K_ HPK HS0 ho1
                  refine anyS_one (i := 4) (by kernel_rfl) rfl rfl (fun K_ hK => ?_)
                  go_simp
                  obtain ⟨w2, hw2⟩ : ∃ Zz, Zz = X1.alloc (.cells #[.slice A1 12 q1] 22) := ⟨_, rfl⟩
                  have hb2 : Below X1.heap.size X1 w2 := by rw [hw2]; exact al1 _ _
                  have k7 : Bk w2 X1.heap.size 22 #[.slice A1 12 q1] := by rw [hw2]; exact Bk.new _ _ _
                  rw [← hw2]
                  clear hw2
                  have hb12 := bt hb2 hB1
                  refine hK _ _ (fun _ => HKS.out _ hb12) ?_
                  clear hK K_
                  have HR2 := Lib.hid (HG2.out.next (bt (bt hb2 hb1) hbw))
                  have HO2 := Lib.hid (own_mono (own_on HO1.out hb2) (by have := hb0.size; omega : V4.heap.size ≤ W0.heap.size))
                  have h2s := k7.lt
                  have h13s := hb12.size
                  refine anyS_one (i := 5) (by kernel_rfl) rfl rfl (fun K_ hK => ?_)
                  refine wp_append_rd _ (.tmp 90) (.tmp 93) _ (by rfl) V4.heap.size 22 i1 _ 1 24 Tryz.underlying47 hj hw0 hw1 hw2 rfl (by omega) _ its.length (its.map cellB) (by rfl) HR2.out.1 w2.heap.size (some ⟨X1.heap.size, 0, none⟩) 1 1 [.slice A1 12 q1] (by rfl) (rd_cells (t := 22) k7 h2s) (by simp [Value.oneCell']) (by simp only [maxLen]; omega) (by omega) (by omega) ?_
                  intro v2 w3 hown2 hg2 hat2
                  have hrw3 : Rw V4.heap.size (its ++ [(A1, q1, packL x)]) v2 w3 := Rw.snoc (x := (A1, q1, packL x)) HR2.out (by rw [cellB, packL_length]; exact HO2.out) (by rw [cellB, packL_length]; exact hown2) hg2
                  have hb3 : Below V4.heap.size V4 w3 := hb12.grown hg2 (by omega) (fun k hk => (own_lt HR2.out.1 hk).1)
                  obtain ⟨A2, q2, rfl, hq2, hrr⟩ := hrw3.rd
                  have HRR : Hid (RdBs w3 w3.heap.size A2 rs) := Lib.hid (by rw [HRSd.out, HKR.out, ← HK.out, List.map_append, ← HG3.out]; simpa using hrr)
                  have hrl : rs.length = its.length + 1 := by rw [HRSd.out, HKR.out, ← HK.out, List.map_append, ← HG3.out]; simp
                  have HRLn := Lib.hid hrl
                  have hlen2 : (its ++ [(A1, q1, packL x)]).length = its.length + 1 := by simp
                  rw [hlen2] at hq2 ⊢
                  refine hK _ _ (fun _ => HKS.out _ hb3) ?_
                  clear hK K_ hown2 hg2 hat2 hrw3 hrr hrl hlen2
                  refine anyS_one (i := 6) (by kernel_rfl) rfl rfl (fun K_ hK => ?_)
                  have HRW := rRewrite_any m rs A A2 c q2 w3 (HA.out.next (bt hb3 HB.out)) hc HRR.out (by rw [HRSd.out]; exact HRO.out)
                  rw [HRLn.out] at HRW
                  rw [HRSd.out, ← HRMd.out, ← HREd.out] at HRW
                  have HRWH := Lib.hid HRW
                  clear HRW
                  go_simp
                  refine HRWH.out.mono ?_
                  rintro e X4 ⟨A5, c5, rfl, hc5, hr5, hb5⟩
                  have hB4 := bt hb5 hb3
                  have HS1 := HKS.out _ hB4
                  have HR5 := Lib.hid hr5
                  have HB5 := Lib.hid (bt hB4 HB.out)
                  go_simp
                  refine hK _ _ (fun _ => HS1) ?_
                  clear hK K_ HRWH hr5
                  refine anyS_take (i := 7) rfl (by kernel_rfl) (by kernel_rfl) (by kernel_rfl) (by kernel_rfl) (fun _ _ _ h => h) (Or.inl ⟨by rfl, fun w' hS' => (by obtain ⟨s1, s2, s3, s4, s5, s6, s7⟩ := hS'; go_simp; try with_reducible rfl)⟩) HS1 ?_
                  refine anyS_take (i := 8) rfl (by kernel_rfl) (by kernel_rfl) (by kernel_rfl) (by kernel_rfl) (fun _ _ _ h => h) (Or.inl ⟨by rfl, fun w' hS' => (by obtain ⟨s1, s2, s3, s4, s5, s6, s7⟩ := hS'; go_simp; try with_reducible rfl)⟩) HS1 ?_
                  refine anyS_one (i := 9) (by kernel_rfl) rfl rfl (fun K_ hK => ?_)
                  go_simp
                  refine hK _ _ (fun _ => HS1) ?_
                  clear hK K_
                  refine anyS_one (i := 10) (by kernel_rfl) rfl rfl (fun K_ hK => ?_)
                  go_simp
                  refine hK _ _ (fun h => absurd rfl h) ?_
                  clear hK K_
                  refine anyS_done (by kernel_rfl) ?_ _
                  simp only [normPost]
                  clear hb0 hbw hb1 hb2 hb3 hb5 hb12 hB1 hB4 HS1 HKS hr1 h2s h13s k7
                  go_wp2
                  go_ret2
                  exact ⟨A5, c5, rfl, hc5, HR5.out, HB5.out⟩
            · obtain ⟨e1, e2⟩ := sto_app h0 ha (hL ▸ hold) h10
              rw [e1, e2]
              have q10 : (appE m (packL x) != 10) = true := by simpa using h10
              obtain ⟨AM, hAM⟩ : ∃ AM, AM = appM m (packL x) := ⟨_, rfl⟩
              obtain ⟨AE, hAE⟩ : ∃ AE, AE = appE m (packL x) := ⟨_, rfl⟩
              have HAMd := Lib.hid hAM
              have HAEd := Lib.hid hAE
              rw [← hAM, ← hAE]
              rw [← hAE] at q10
              clear e1 e2 ha hL h0 ho h10 hAM hAE
              go_enter Tryz.func6, Tryz.ntmps6
              go_wp2_with fail
              obtain ⟨U, hU⟩ : ∃ Zz, Zz = ((w.alloc (.cells #[.int .i64 m.1, .slice A m.2.length c] 24)).alloc (.cells #[.int .i64 x.n, .int .i64 x.c, .int .i64 x.a, .int .i64 x.f, .int .i64 x.t] 26)) := ⟨_, rfl⟩
              have hbU : Below w.heap.size w U := by rw [hU]; exact al2 _ _ _
              have kf : Bk U w.heap.size 24 #[.int .i64 m.1, .slice A m.2.length c] := by rw [hU]; exact (Bk.new _ _ _).alloc _
              have kx : Bk U (w.heap.size + 1) 26 #[.int .i64 x.n, .int .i64 x.c, .int .i64 x.a, .int .i64 x.f, .int .i64 x.t] := by rw [hU]; exact bkOf (by simp [at?_alloc])
              rw [← hU]
              clear hU
              refine (rvLoad_lit L 0 m A c _ HL.out.symm HE.out (HA.out.next hbU) hc).mono ?_
              rintro e V1 ⟨AL, cL, rfl, hcL, hrL, hb⟩
              have HRL := Lib.hid hrL
              have HB := Lib.hid (bt hb hbU)
              have HKF := Lib.hid (kf.next hb)
              have HKX := Lib.hid (kx.next hb)
              clear hrL hb hbU kf kx
              obtain ⟨x0, x1, x2, x3, x4⟩ := Ls.box5 HKX.out
              obtain ⟨f0, f1⟩ := box2 HKF.out
              have lx := HKX.out.lt
              go_wp2_with fail
              clear x0 x1 x2 x3 x4 f0 f1 lx
              refine (rOne_lit true x _ HO.out).mono ?_
              rintro e V2 ⟨rfl, hb⟩
              replace HRL := Lib.hid (HRL.out.next hb)
              replace HKF := Lib.hid (HKF.out.next hb)
              replace HKX := Lib.hid (HKX.out.next hb)
              replace HB := Lib.hid (bt hb HB.out)
              clear hb
              have j4 : decide ((0 : Int) < (L.length : Int)) = false := decide_eq_false (by omega)
              have j6 : decide (0 < L.length) = false := decide_eq_false (by omega)
              obtain ⟨x0, x1, x2, x3, x4⟩ := Ls.box5 HKX.out
              obtain ⟨f0, f1⟩ := box2 HKF.out
              have lx := HKX.out.lt
              go_wp2
              go_quiet (fail)
              obtain ⟨V3, hV3⟩ : ∃ Zz, Zz = V2.drewN nq := ⟨_, rfl⟩
              have hb3 : Below V2.heap.size V2 V3 := by rw [hV3]; exact belowDrew (Below.refl _ _) _
              rw [← hV3]
              clear hV3
              clear x0 x1 x2 x3 x4 f0 f1 lx
              replace HRL := Lib.hid (HRL.out.next hb3)
              replace HKF := Lib.hid (HKF.out.next hb3)
              replace HKX := Lib.hid (HKX.out.next hb3)
              replace HB := Lib.hid (bt hb3 HB.out)
              clear hb3
              go_wp2
              refine region_S (fun w' => w'.cell? ⟨w.heap.size, 0, none⟩ = some (.int .i64 m.1) ∧ w'.cell? ⟨w.heap.size, 1, none⟩ = some (.slice A m.2.length c) ∧ w'.cell? ⟨w.heap.size + 1, 0, none⟩ = some (.int .i64 x.n) ∧ w'.cell? ⟨w.heap.size + 1, 1, none⟩ = some (.int .i64 x.c) ∧ w'.cell? ⟨w.heap.size + 1, 2, none⟩ = some (.int .i64 x.a) ∧ w'.cell? ⟨w.heap.size + 1, 3, none⟩ = some (.int .i64 x.f) ∧ w'.cell? ⟨w.heap.size + 1, 4, none⟩ = some (.int .i64 x.t)) 8 (by kernel_rfl) ?_
              obtain ⟨W0, hW0⟩ : ∃ Zz, Zz = V3.drew := ⟨_, rfl⟩
              have hb0 : Below V3.heap.size V3 W0 := by rw [hW0]; exact (Below.refl _ _).drew
              rw [← hW0]
              clear hW0
              have HKS : Hid (∀ w', Below V3.heap.size V3 w' → (w'.cell? ⟨w.heap.size, 0, none⟩ = some (.int .i64 m.1) ∧ w'.cell? ⟨w.heap.size, 1, none⟩ = some (.slice A m.2.length c) ∧ w'.cell? ⟨w.heap.size + 1, 0, none⟩ = some (.int .i64 x.n) ∧ w'.cell? ⟨w.heap.size + 1, 1, none⟩ = some (.int .i64 x.c) ∧ w'.cell? ⟨w.heap.size + 1, 2, none⟩ = some (.int .i64 x.a) ∧ w'.cell? ⟨w.heap.size + 1, 3, none⟩ = some (.int .i64 x.f) ∧ w'.cell? ⟨w.heap.size + 1, 4, none⟩ = some (.int .i64 x.t))) := fun w' hW => ⟨(box2 (HKF.out.next hW)).1, (box2 (HKF.out.next hW)).2, Ls.box5 (HKX.out.next hW)⟩
              have HS0 := HKS.out _ hb0
              refine anyS_take (i := 0) rfl (by kernel_rfl) (by kernel_rfl) (by kernel_rfl) (by kernel_rfl) (fun _ _ _ h => h) (Or.inl ⟨by rfl, fun w' hS' => (by obtain ⟨s1, s2, s3, s4, s5, s6, s7⟩ := hS'; go_simp; try with_reducible rfl)⟩) HS0 ?_
              refine anyS_take (i := 1) rfl (by kernel_rfl) (by kernel_rfl) (by kernel_rfl) (by kernel_rfl) (fun _ _ _ h => h) (Or.inl ⟨by rfl, fun w' hS' => (by obtain ⟨s1, s2, s3, s4, s5, s6, s7⟩ := hS'; go_simp; try with_reducible rfl)⟩) HS0 ?_
              refine anyS_one (i := 2) (by kernel_rfl) rfl rfl (fun K hK => ?_)
              have HPK := Lib.hid (vBytes_any x W0 HX.out)
              go_simp
              refine HPK.out.mono ?_
              rintro e W1 ⟨A1, q1, rfl, hq1, hr1, hb1, _⟩
              have hB1 := bt hb1 hb0
              go_simp
              refine hK _ _ (fun _ => HKS.out _ hB1) ?_
              clear hK K HPK HS0
              refine anyS_one (i := 3) (by kernel_rfl) rfl rfl (fun K hK => ?_)
              have HAP := rAppend_any m (packL x) A A1 c q1 W1 (HA.out.next (bt hB1 HB.out)) hc hr1 (by rw [packL_length]; exact hq1) (by rw [packL_length]; omega)
              rw [packL_length] at HAP
              rw [← HAMd.out, ← HAEd.out] at HAP
              have HAPH := Lib.hid HAP
              clear HAP
              go_simp
              refine HAPH.out.mono ?_
              rintro e W2 ⟨A2, c2, rfl, hc2, hr2, hb2⟩
              have hB2 := bt hb2 hB1
              have HS1 := HKS.out _ hB2
              have HR2 := Lib.hid hr2
              go_simp
              refine hK _ _ (fun _ => HS1) ?_
              clear hK K HAPH hr2
              refine anyS_take (i := 4) rfl (by kernel_rfl) (by kernel_rfl) (by kernel_rfl) (by kernel_rfl) (fun _ _ _ h => h) (Or.inl ⟨by rfl, fun w' hS' => (by obtain ⟨s1, s2, s3, s4, s5, s6, s7⟩ := hS'; go_simp; try with_reducible rfl)⟩) HS1 ?_
              refine anyS_take (i := 5) rfl (by kernel_rfl) (by kernel_rfl) (by kernel_rfl) (by kernel_rfl) (fun _ _ _ h => h) (Or.inl ⟨by rfl, fun w' hS' => (by obtain ⟨s1, s2, s3, s4, s5, s6, s7⟩ := hS'; go_simp; try with_reducible rfl)⟩) HS1 ?_
              refine anyS_take (i := 6) rfl (by kernel_rfl) (by kernel_rfl) (by kernel_rfl) (by kernel_rfl) (fun _ _ _ h => h) (Or.inl ⟨by rfl, fun w' hS' => (by obtain ⟨s1, s2, s3, s4, s5, s6, s7⟩ := hS'; go_simp; try with_reducible rfl)⟩) HS1 ?_
              refine anyS_one (i := 7) (by kernel_rfl) rfl rfl (fun K hK => ?_)
              go_simp
              refine hK _ _ (fun _ => HS1) ?_
              clear hK K
              refine anyS_one (i := 8) (by kernel_rfl) rfl rfl (fun K hK => ?_)
              go_simp
              refine hK _ _ (fun h => absurd rfl h) ?_
              clear hK K
              refine anyS_done (by kernel_rfl) ?_ _
              simp only [normPost]
              replace HRL := Lib.hid (HRL.out.next hB2)
              replace HKF := Lib.hid (HKF.out.next hB2)
              replace HKX := Lib.hid (HKX.out.next hB2)
              replace HB := Lib.hid (bt hB2 HB.out)
              clear hb0 hb1 hb2 hB1 hB2 HS1 HKS hr1
              go_wp2
              go_ret2
              exact ⟨A2, c2, rfl, hc2, HR2.out, HB.out⟩
    · have ha : argB x tick = false := by simp [argB, ho]
      obtain ⟨e1, e2⟩ := sto_no h0 ha
      rw [e1, e2]
      have HO : Hid (oneB x = false) := Lib.hid (by simpa using ho)
      clear e1 e2 h0 hL ha ho
      go_enter Tryz.func6, Tryz.ntmps6
      go_wp2_with fail
      obtain ⟨U, hU⟩ : ∃ Zz, Zz = ((w.alloc (.cells #[.int .i64 m.1, .slice A m.2.length c] 24)).alloc (.cells #[.int .i64 x.n, .int .i64 x.c, .int .i64 x.a, .int .i64 x.f, .int .i64 x.t] 26)) := ⟨_, rfl⟩
      have hbU : Below w.heap.size w U := by rw [hU]; exact al2 _ _ _
      have kf : Bk U w.heap.size 24 #[.int .i64 m.1, .slice A m.2.length c] := by rw [hU]; exact (Bk.new _ _ _).alloc _
      have kx : Bk U (w.heap.size + 1) 26 #[.int .i64 x.n, .int .i64 x.c, .int .i64 x.a, .int .i64 x.f, .int .i64 x.t] := by rw [hU]; exact bkOf (by simp [at?_alloc])
      rw [← hU]
      clear hU
      refine (rvLoad_lit L 0 m A c _ HL.out.symm HE.out (HA.out.next hbU) hc).mono ?_
      rintro e V1 ⟨AL, cL, rfl, hcL, hrL, hb⟩
      have HRL := Lib.hid hrL
      have HB := Lib.hid (bt hb hbU)
      have HKF := Lib.hid (kf.next hb)
      have HKX := Lib.hid (kx.next hb)
      clear hrL hb hbU kf kx
      obtain ⟨x0, x1, x2, x3, x4⟩ := Ls.box5 HKX.out
      obtain ⟨f0, f1⟩ := box2 HKF.out
      have lx := HKX.out.lt
      go_wp2_with fail
      clear x0 x1 x2 x3 x4 f0 f1 lx
      refine (rOne_lit false x _ HO.out).mono ?_
      rintro e V2 ⟨rfl, hb⟩
      replace HRL := Lib.hid (HRL.out.next hb)
      replace HKF := Lib.hid (HKF.out.next hb)
      replace HKX := Lib.hid (HKX.out.next hb)
      replace HB := Lib.hid (bt hb HB.out)
      clear hb
      go_wp2
      go_ret2
      exact ⟨none, 0, rfl, Nat.le_refl _, RdFs.nil, HB.out⟩
  · obtain ⟨e1, e2⟩ := sto_far (x := x) (tick := tick) h0
    rw [e1, e2]
    obtain ⟨E, hEE⟩ : ∃ E, E = loadE m := ⟨_, rfl⟩
    rw [← hEE]
    have q0 : (E != 0) = true := by rw [hEE]; simpa using h0
    have HE : Hid (loadE m = E) := hEE.symm
    clear e1 e2 h0 hL hEE
    go_enter Tryz.func6, Tryz.ntmps6
    go_wp2_with fail
    obtain ⟨U, hU⟩ : ∃ Zz, Zz = ((w.alloc (.cells #[.int .i64 m.1, .slice A m.2.length c] 24)).alloc (.cells #[.int .i64 x.n, .int .i64 x.c, .int .i64 x.a, .int .i64 x.f, .int .i64 x.t] 26)) := ⟨_, rfl⟩
    have hbU : Below w.heap.size w U := by rw [hU]; exact al2 _ _ _
    have kf : Bk U w.heap.size 24 #[.int .i64 m.1, .slice A m.2.length c] := by rw [hU]; exact (Bk.new _ _ _).alloc _
    have kx : Bk U (w.heap.size + 1) 26 #[.int .i64 x.n, .int .i64 x.c, .int .i64 x.a, .int .i64 x.f, .int .i64 x.t] := by rw [hU]; exact bkOf (by simp [at?_alloc])
    rw [← hU]
    clear hU
    refine (rvLoad_lit L E m A c _ HL.out.symm HE.out (HA.out.next hbU) hc).mono ?_
    rintro e V1 ⟨AL, cL, rfl, hcL, hrL, hb⟩
    have HRL := Lib.hid hrL
    have HB := Lib.hid (bt hb hbU)
    have HKF := Lib.hid (kf.next hb)
    have HKX := Lib.hid (kx.next hb)
    clear hrL hb hbU kf kx
    go_wp2
    go_ret2
    exact ⟨none, 0, rfl, Nat.le_refl _, RdFs.nil, HB.out⟩
end Go.Proofs.YthebojaminploaaGreatDoor
