/- vault.Store: its memories are the call's own. -/
import Derived.Test.YtcnhmgcingmphaaDoorKVf
set_option maxRecDepth 100000
set_option linter.unusedVariables false
set_option linter.unusedSimpArgs false
namespace Go.Proofs.YtcnhmgcingmphaaDoor
open Go.RowKit Go.Sort Go.Shelf

def ownPost (s : Int) (M : List Mem) (er : Int) (w : World) (e : Ending) (w' : World) : Prop :=
  ∃ v its, e = .returned (.tuple #[v, .int .i64 er]) ∧ Ms 0 s its v w' ∧ (its.map fun i => ((s, i.2.2) : Mem)) = M ∧ Below w.heap.size w w'
theorem ownPost_of {s : Int} {L : List (List UInt8)} {er : Int} {w : World} {e : Ending} {w' : World} (h : memPost s L er w e w') : ownPost s (L.map fun b => (s, b)) er w e w' := by
  obtain ⟨v, its, he, hm, hmap, hb⟩ := h
  exact ⟨v, its, he, ⟨own_mono hm.1 (Nat.zero_le _), hm.2⟩, by rw [← hmap, List.map_map]; rfl, hb⟩
theorem Append_m (m : Mem) (d : Rec) (A Ad : Option Addr) (c cd : Nat) (w : World) (hA : RdB w w.heap.size A m.2) (hc : m.2.length ≤ c) (hD : RdB w w.heap.size Ad d) (hcd : d.length ≤ cd) (hdl : d.length ≤ 1000000) :
    Calls Tryd.prog 25 #[.agg #[.int .i64 m.1, .slice A m.2.length c], .slice Ad d.length cd] w (ownPost m.1 (appM m d) (appE m d) w) :=
  (Append_any m d A Ad c cd w hA hc hD hcd hdl).mono fun _ _ h => ownPost_of h
theorem Rewrite_m (m : Mem) (keep : List Rec) (A Ak : Option Addr) (c ck : Nat) (w : World) (hA : RdB w w.heap.size A m.2) (hc : m.2.length ≤ c) (hK : RdBs w w.heap.size Ak keep) (hk1 : keep.length ≤ 10000) (hk2 : ∀ d ∈ keep, d.length ≤ 9223372036854775807) :
    Calls Tryd.prog 28 #[.agg #[.int .i64 m.1, .slice A m.2.length c], .slice Ak keep.length ck] w (ownPost m.1 (rewM m keep) (rewE m keep) w) :=
  (Rewrite_any m keep A Ak c ck w hA hc hK hk1 hk2).mono fun _ _ h => ownPost_of h
set_option maxHeartbeats 8000000 in
theorem vStore_m (m : Mem) (x : Lea) (tick : Int) (A : Option Addr) (c : Nat) (w : World) (hA : RdB w w.heap.size A m.2) (hc : m.2.length ≤ c) (hW : Wd w) :
    Calls Tryd.prog 11 #[.agg #[.int .i64 m.1, .slice A m.2.length c], .agg #[.int .i64 x.n, .int .i64 x.c, .int .i64 x.a, .int .i64 x.f, .int .i64 x.t], .int .i64 tick] w (ownPost m.1 (stoM m x tick) (stoE m x tick) w) := by
  have HA := Lib.hid hA
  have HW := Lib.hid hW
  clear hA hW
  obtain ⟨L, hL⟩ : ∃ L, L = loadL m := ⟨_, rfl⟩
  have HL := Lib.hid hL
  by_cases h0 : loadE m = 0
  · have q0 : ((0 : Int) != 0) = false := rfl
    have hLn : L.length ≤ 64 := by rw [hL]; have := (load_len h0).2; omega
    have HE := Lib.hid h0
    by_cases ho : oneB x = true
    · by_cases ht1 : tick < 0
      · have ha : argB x tick = false := by simp [argB]; intro _ _; omega
        obtain ⟨e1, e2⟩ := sto_no h0 ha
        rw [e1, e2]
        have HO : Hid (vlB [x] = true) := by show _ = _; rw [vlB_single]; exact ho
        clear e1 e2 h0 hL ha ho
        have t1 : tick < 0 := ht1
        go_enter Tryd.func11, Tryd.ntmps11
        go_wp2_with fail
        obtain ⟨U, hU⟩ : ∃ Zz, Zz = ((w.alloc (.cells #[.int .i64 m.1, .slice A m.2.length c] 24)).alloc (.cells #[.int .i64 x.n, .int .i64 x.c, .int .i64 x.a, .int .i64 x.f, .int .i64 x.t] 26)) := ⟨_, rfl⟩
        have hbU : Below w.heap.size w U := by rw [hU]; exact al2 _ _ _
        have kf : Bk U w.heap.size 24 #[.int .i64 m.1, .slice A m.2.length c] := by rw [hU]; exact (Bk.new _ _ _).alloc _
        have kx : Bk U (w.heap.size + 1) 26 #[.int .i64 x.n, .int .i64 x.c, .int .i64 x.a, .int .i64 x.f, .int .i64 x.t] := by rw [hU]; exact bkOf (by simp [at?_alloc])
        rw [← hU]
        clear hU
        refine (Load_lit L 0 m A c _ HL.out.symm HE.out (HA.out.next hbU) hc (HW.out.next hbU)).mono ?_
        rintro e V1 ⟨AL, cL, rfl, hcL, hrL, hb⟩
        have HRL := Lib.hid hrL
        have HB := Lib.hid (bt hb hbU)
        have HKF := Lib.hid (kf.next hb)
        have HKX := Lib.hid (kx.next hb)
        clear hrL hb hbU kf kx
        obtain ⟨x0, x1, x2, x3, x4⟩ := Ls.box5 HKX.out
        obtain ⟨f0, f1⟩ := box2 HKF.out
        have lx := HKX.out.lt
        go_wp2_with fail
        obtain ⟨U2, hU2⟩ : ∃ Zz, Zz = V1.alloc (.cells #[.int .i64 x.n, .int .i64 x.c, .int .i64 x.a, .int .i64 x.f, .int .i64 x.t] 26) := ⟨_, rfl⟩
        have hbU2 : Below V1.heap.size V1 U2 := by rw [hU2]; exact al1 _ _
        have ky : Bk U2 V1.heap.size 26 #[.int .i64 x.n, .int .i64 x.c, .int .i64 x.a, .int .i64 x.f, .int .i64 x.t] := by rw [hU2]; exact Bk.new _ _ _
        rw [← hU2]
        clear hU2
        clear x0 x1 x2 x3 x4 f0 f1 lx
        refine (Ls.Valid_lit true [x] _ 1 _ HO.out (RdL.of_bk (l := [x]) ky ky.lt) (by simp)).mono ?_
        rintro e V2 ⟨rfl, hb⟩
        have hB := bt hb hbU2
        replace HRL := Lib.hid (HRL.out.next hB)
        replace HKF := Lib.hid (HKF.out.next hB)
        replace HKX := Lib.hid (HKX.out.next hB)
        replace HB := Lib.hid (bt hB HB.out)
        clear hb hbU2 ky hB
        go_wp2
        go_ret2
        exact ⟨.slice none 0 0, [], rfl, Ms.nil _ _ _, rfl, HB.out⟩
      · by_cases ht2 : 1100000 < tick
        · have ha : argB x tick = false := by simp [argB]; intro _ _; omega
          obtain ⟨e1, e2⟩ := sto_no h0 ha
          rw [e1, e2]
          have HO : Hid (vlB [x] = true) := by show _ = _; rw [vlB_single]; exact ho
          clear e1 e2 h0 hL ha ho
          have t1 : ¬ tick < 0 := ht1
          have t2 : 1100000 < tick := ht2
          go_enter Tryd.func11, Tryd.ntmps11
          go_wp2_with fail
          obtain ⟨U, hU⟩ : ∃ Zz, Zz = ((w.alloc (.cells #[.int .i64 m.1, .slice A m.2.length c] 24)).alloc (.cells #[.int .i64 x.n, .int .i64 x.c, .int .i64 x.a, .int .i64 x.f, .int .i64 x.t] 26)) := ⟨_, rfl⟩
          have hbU : Below w.heap.size w U := by rw [hU]; exact al2 _ _ _
          have kf : Bk U w.heap.size 24 #[.int .i64 m.1, .slice A m.2.length c] := by rw [hU]; exact (Bk.new _ _ _).alloc _
          have kx : Bk U (w.heap.size + 1) 26 #[.int .i64 x.n, .int .i64 x.c, .int .i64 x.a, .int .i64 x.f, .int .i64 x.t] := by rw [hU]; exact bkOf (by simp [at?_alloc])
          rw [← hU]
          clear hU
          refine (Load_lit L 0 m A c _ HL.out.symm HE.out (HA.out.next hbU) hc (HW.out.next hbU)).mono ?_
          rintro e V1 ⟨AL, cL, rfl, hcL, hrL, hb⟩
          have HRL := Lib.hid hrL
          have HB := Lib.hid (bt hb hbU)
          have HKF := Lib.hid (kf.next hb)
          have HKX := Lib.hid (kx.next hb)
          clear hrL hb hbU kf kx
          obtain ⟨x0, x1, x2, x3, x4⟩ := Ls.box5 HKX.out
          obtain ⟨f0, f1⟩ := box2 HKF.out
          have lx := HKX.out.lt
          go_wp2_with fail
          obtain ⟨U2, hU2⟩ : ∃ Zz, Zz = V1.alloc (.cells #[.int .i64 x.n, .int .i64 x.c, .int .i64 x.a, .int .i64 x.f, .int .i64 x.t] 26) := ⟨_, rfl⟩
          have hbU2 : Below V1.heap.size V1 U2 := by rw [hU2]; exact al1 _ _
          have ky : Bk U2 V1.heap.size 26 #[.int .i64 x.n, .int .i64 x.c, .int .i64 x.a, .int .i64 x.f, .int .i64 x.t] := by rw [hU2]; exact Bk.new _ _ _
          rw [← hU2]
          clear hU2
          clear x0 x1 x2 x3 x4 f0 f1 lx
          refine (Ls.Valid_lit true [x] _ 1 _ HO.out (RdL.of_bk (l := [x]) ky ky.lt) (by simp)).mono ?_
          rintro e V2 ⟨rfl, hb⟩
          have hB := bt hb hbU2
          replace HRL := Lib.hid (HRL.out.next hB)
          replace HKF := Lib.hid (HKF.out.next hB)
          replace HKX := Lib.hid (HKX.out.next hB)
          replace HB := Lib.hid (bt hB HB.out)
          clear hb hbU2 ky hB
          go_wp2
          go_ret2
          exact ⟨.slice none 0 0, [], rfl, Ms.nil _ _ _, rfl, HB.out⟩
        · have ha : argB x tick = true := by simp [argB, ho]; omega
          have HO : Hid (vlB [x] = true) := by show _ = _; rw [vlB_single]; exact ho
          have HX := Lib.hid ho
          have t1 : ¬ tick < 0 := by omega
          have t2 : ¬ 1100000 < tick := by omega
          by_cases hlp : 0 < L.length
          · by_cases hold : oldB L x = true
            · obtain ⟨e1, e2⟩ := sto_old h0 ha (hL ▸ hold)
              rw [e1, e2]
              clear e1 e2 ha hL h0 ho
              rw [oldB, decide_eq_true hlp, Bool.true_and] at hold
              have hff : folB (lastL L) x = false := by simpa using hold
              have HFF := Lib.hid hff
              clear hold hff
              go_enter Tryd.func11, Tryd.ntmps11
              go_wp2_with fail
              obtain ⟨U, hU⟩ : ∃ Zz, Zz = ((w.alloc (.cells #[.int .i64 m.1, .slice A m.2.length c] 24)).alloc (.cells #[.int .i64 x.n, .int .i64 x.c, .int .i64 x.a, .int .i64 x.f, .int .i64 x.t] 26)) := ⟨_, rfl⟩
              have hbU : Below w.heap.size w U := by rw [hU]; exact al2 _ _ _
              have kf : Bk U w.heap.size 24 #[.int .i64 m.1, .slice A m.2.length c] := by rw [hU]; exact (Bk.new _ _ _).alloc _
              have kx : Bk U (w.heap.size + 1) 26 #[.int .i64 x.n, .int .i64 x.c, .int .i64 x.a, .int .i64 x.f, .int .i64 x.t] := by rw [hU]; exact bkOf (by simp [at?_alloc])
              rw [← hU]
              clear hU
              refine (Load_lit L 0 m A c _ HL.out.symm HE.out (HA.out.next hbU) hc (HW.out.next hbU)).mono ?_
              rintro e V1 ⟨AL, cL, rfl, hcL, hrL, hb⟩
              have HRL := Lib.hid hrL
              have HB := Lib.hid (bt hb hbU)
              have HKF := Lib.hid (kf.next hb)
              have HKX := Lib.hid (kx.next hb)
              clear hrL hb hbU kf kx
              obtain ⟨x0, x1, x2, x3, x4⟩ := Ls.box5 HKX.out
              obtain ⟨f0, f1⟩ := box2 HKF.out
              have lx := HKX.out.lt
              go_wp2_with fail
              obtain ⟨U2, hU2⟩ : ∃ Zz, Zz = V1.alloc (.cells #[.int .i64 x.n, .int .i64 x.c, .int .i64 x.a, .int .i64 x.f, .int .i64 x.t] 26) := ⟨_, rfl⟩
              have hbU2 : Below V1.heap.size V1 U2 := by rw [hU2]; exact al1 _ _
              have ky : Bk U2 V1.heap.size 26 #[.int .i64 x.n, .int .i64 x.c, .int .i64 x.a, .int .i64 x.f, .int .i64 x.t] := by rw [hU2]; exact Bk.new _ _ _
              rw [← hU2]
              clear hU2
              clear x0 x1 x2 x3 x4 f0 f1 lx
              refine (Ls.Valid_lit true [x] _ 1 _ HO.out (RdL.of_bk (l := [x]) ky ky.lt) (by simp)).mono ?_
              rintro e V2 ⟨rfl, hb⟩
              have hB := bt hb hbU2
              replace HRL := Lib.hid (HRL.out.next hB)
              replace HKF := Lib.hid (HKF.out.next hB)
              replace HKX := Lib.hid (HKX.out.next hB)
              replace HB := Lib.hid (bt hB HB.out)
              clear hb hbU2 ky hB
              have j4 : decide ((0 : Int) < (L.length : Int)) = true := by simp; omega
              have j6 : decide (0 < L.length) = true := by simp; omega
              obtain ⟨bk, ok, rfl, _, z0, z1, z2, z3, z4⟩ := HRL.out.at_ (i := L.length - 1) (by omega)
              obtain ⟨y, hy⟩ : ∃ y, y = lastL L := ⟨_, rfl⟩
              rw [← getD_of (by omega : L.length - 1 < L.length), show L.getD (L.length - 1) l0 = y from hy.symm] at z0 z1 z2 z3 z4
              obtain ⟨k, hk⟩ : ∃ k, k = L.length - 1 := ⟨_, rfl⟩
              rw [← hk] at z0 z1 z2 z3 z4
              have j0k : (L.length : Int) - 1 = (k : Int) := by omega
              have j1k : (0 : Int) ≤ (k : Int) := by omega
              have j2k : (k : Int) < (L.length : Int) := by omega
              have j3k : IntKind.i64.wrap ((L.length : Int) - 1) = (k : Int) := by rw [IntWalk.i64_in _ (by omega)]; omega
              have Hy := Lib.hid hy
              clear hk hy
              have hdec : ¬ (y.n < x.n ∧ y.f ≤ x.f) := by have := HFF.out; rw [← Hy.out] at this; simpa [folB] using this
              obtain ⟨x0, x1, x2, x3, x4⟩ := Ls.box5 HKX.out
              obtain ⟨f0, f1⟩ := box2 HKF.out
              have lx := HKX.out.lt
              by_cases hq : x.n ≤ y.n
              · have d1 : decide (x.n ≤ y.n) = true := by simpa using hq
                clear hdec
                go_wp2
                go_quiet (fail)
                obtain ⟨V3, hV3⟩ : ∃ Zz, Zz = V2.drewN nq := ⟨_, rfl⟩
                have hb3 : Below V2.heap.size V2 V3 := by rw [hV3]; exact belowDrew (Below.refl _ _) _
                rw [← hV3]
                clear hV3
                clear x0 x1 x2 x3 x4 f0 f1 lx
                replace HRL := Lib.hid (HRL.out.next hb3)
                replace HKF := Lib.hid (HKF.out.next hb3)
                replace HKX := Lib.hid (HKX.out.next hb3)
                replace HB := Lib.hid (bt hb3 HB.out)
                clear hb3
                go_wp2
                go_ret2
                exact ⟨.slice none 0 0, [], rfl, Ms.nil _ _ _, rfl, HB.out⟩
              · have d1 : decide (x.n ≤ y.n) = false := by simpa using hq
                have d2 : decide (x.f < y.f) = true := by simp; omega
                clear hdec hq
                go_wp2
                go_quiet (fail)
                obtain ⟨V3, hV3⟩ : ∃ Zz, Zz = V2.drewN nq := ⟨_, rfl⟩
                have hb3 : Below V2.heap.size V2 V3 := by rw [hV3]; exact belowDrew (Below.refl _ _) _
                rw [← hV3]
                clear hV3
                clear x0 x1 x2 x3 x4 f0 f1 lx
                replace HRL := Lib.hid (HRL.out.next hb3)
                replace HKF := Lib.hid (HKF.out.next hb3)
                replace HKX := Lib.hid (HKX.out.next hb3)
                replace HB := Lib.hid (bt hb3 HB.out)
                clear hb3
                go_wp2
                go_ret2
                exact ⟨.slice none 0 0, [], rfl, Ms.nil _ _ _, rfl, HB.out⟩
            · have hold : oldB L x = false := by simpa using hold
              have HFF : Hid (folB (lastL L) x = true) := by show _ = _; rw [oldB, decide_eq_true hlp, Bool.true_and] at hold; simpa using hold
              by_cases h10 : appE m (packL x) = 10
              · obtain ⟨e1, e2⟩ := sto_rew h0 ha (hL ▸ hold) h10
                obtain ⟨s1, s2⟩ := keepR_small h0 x tick
                obtain ⟨RM, hRM⟩ : ∃ RM, RM = rewM m (keepR m x tick) := ⟨_, rfl⟩
                obtain ⟨RE, hRE⟩ : ∃ RE, RE = rewE m (keepR m x tick) := ⟨_, rfl⟩
                rw [e1, e2, ← hRM, ← hRE]
                have HRMd := Lib.hid hRM
                have HREd := Lib.hid hRE
                have HS2 := Lib.hid s2
                have HKR : Hid (keepR m x tick = (keptL L tick ++ [x]).map packL) := by show _ = _; rw [keepR, ← hL]
                have HVL : Hid (vlB L = true) := by show _ = _; rw [hL]; exact (load_ok h0).2.2.2.2
                obtain ⟨rs, hrs⟩ : ∃ rs, rs = keepR m x tick := ⟨_, rfl⟩
                rw [← hrs] at s1
                have HRSd := Lib.hid hrs
                obtain ⟨AM, hAM⟩ : ∃ AM, AM = appM m (packL x) := ⟨_, rfl⟩
                obtain ⟨AE, hAE⟩ : ∃ AE, AE = appE m (packL x) := ⟨_, rfl⟩
                have HAMd := Lib.hid hAM
                have HAEd := Lib.hid hAE
                rw [h10] at hAE
                subst hAE
                have HAEd' : Hid (10 = appE m (packL x)) := h10.symm
                clear e1 e2 ha hL h0 ho h10 hAM hRM hRE s2 hrs
                go_enter Tryd.func11, Tryd.ntmps11
                go_wp2_with fail
                obtain ⟨U, hU⟩ : ∃ Zz, Zz = ((w.alloc (.cells #[.int .i64 m.1, .slice A m.2.length c] 24)).alloc (.cells #[.int .i64 x.n, .int .i64 x.c, .int .i64 x.a, .int .i64 x.f, .int .i64 x.t] 26)) := ⟨_, rfl⟩
                have hbU : Below w.heap.size w U := by rw [hU]; exact al2 _ _ _
                have kf : Bk U w.heap.size 24 #[.int .i64 m.1, .slice A m.2.length c] := by rw [hU]; exact (Bk.new _ _ _).alloc _
                have kx : Bk U (w.heap.size + 1) 26 #[.int .i64 x.n, .int .i64 x.c, .int .i64 x.a, .int .i64 x.f, .int .i64 x.t] := by rw [hU]; exact bkOf (by simp [at?_alloc])
                rw [← hU]
                clear hU
                refine (Load_lit L 0 m A c _ HL.out.symm HE.out (HA.out.next hbU) hc (HW.out.next hbU)).mono ?_
                rintro e V1 ⟨AL, cL, rfl, hcL, hrL, hb⟩
                have HRL := Lib.hid hrL
                have HB := Lib.hid (bt hb hbU)
                have HKF := Lib.hid (kf.next hb)
                have HKX := Lib.hid (kx.next hb)
                clear hrL hb hbU kf kx
                obtain ⟨x0, x1, x2, x3, x4⟩ := Ls.box5 HKX.out
                obtain ⟨f0, f1⟩ := box2 HKF.out
                have lx := HKX.out.lt
                go_wp2_with fail
                obtain ⟨U2, hU2⟩ : ∃ Zz, Zz = V1.alloc (.cells #[.int .i64 x.n, .int .i64 x.c, .int .i64 x.a, .int .i64 x.f, .int .i64 x.t] 26) := ⟨_, rfl⟩
                have hbU2 : Below V1.heap.size V1 U2 := by rw [hU2]; exact al1 _ _
                have ky : Bk U2 V1.heap.size 26 #[.int .i64 x.n, .int .i64 x.c, .int .i64 x.a, .int .i64 x.f, .int .i64 x.t] := by rw [hU2]; exact Bk.new _ _ _
                rw [← hU2]
                clear hU2
                clear x0 x1 x2 x3 x4 f0 f1 lx
                refine (Ls.Valid_lit true [x] _ 1 _ HO.out (RdL.of_bk (l := [x]) ky ky.lt) (by simp)).mono ?_
                rintro e V2 ⟨rfl, hb⟩
                have hB := bt hb hbU2
                replace HRL := Lib.hid (HRL.out.next hB)
                replace HKF := Lib.hid (HKF.out.next hB)
                replace HKX := Lib.hid (HKX.out.next hB)
                replace HB := Lib.hid (bt hB HB.out)
                clear hb hbU2 ky hB
                have j4 : decide ((0 : Int) < (L.length : Int)) = true := by simp; omega
                have j6 : decide (0 < L.length) = true := by simp; omega
                obtain ⟨bk, ok, rfl, _, z0, z1, z2, z3, z4⟩ := HRL.out.at_ (i := L.length - 1) (by omega)
                obtain ⟨y, hy⟩ : ∃ y, y = lastL L := ⟨_, rfl⟩
                rw [← getD_of (by omega : L.length - 1 < L.length), show L.getD (L.length - 1) l0 = y from hy.symm] at z0 z1 z2 z3 z4
                obtain ⟨k, hk⟩ : ∃ k, k = L.length - 1 := ⟨_, rfl⟩
                rw [← hk] at z0 z1 z2 z3 z4
                have j0k : (L.length : Int) - 1 = (k : Int) := by omega
                have j1k : (0 : Int) ≤ (k : Int) := by omega
                have j2k : (k : Int) < (L.length : Int) := by omega
                have j3k : IntKind.i64.wrap ((L.length : Int) - 1) = (k : Int) := by rw [IntWalk.i64_in _ (by omega)]; omega
                have Hy := Lib.hid hy
                clear hk hy
                have hdec : y.n < x.n ∧ y.f ≤ x.f := by have := HFF.out; rw [← Hy.out] at this; simpa [folB] using this
                have d1 : decide (x.n ≤ y.n) = false := by simp; omega
                have d2 : decide (x.f < y.f) = false := by simp; omega
                clear hdec
                obtain ⟨x0, x1, x2, x3, x4⟩ := Ls.box5 HKX.out
                obtain ⟨f0, f1⟩ := box2 HKF.out
                have lx := HKX.out.lt
                go_wp2
                go_quiet (fail)
                obtain ⟨V3, hV3⟩ : ∃ Zz, Zz = V2.drewN nq := ⟨_, rfl⟩
                have hb3 : Below V2.heap.size V2 V3 := by rw [hV3]; exact belowDrew (Below.refl _ _) _
                rw [← hV3]
                clear hV3
                clear x0 x1 x2 x3 x4 f0 f1 lx
                replace HRL := Lib.hid (HRL.out.next hb3)
                replace HKF := Lib.hid (HKF.out.next hb3)
                replace HKX := Lib.hid (HKX.out.next hb3)
                replace HB := Lib.hid (bt hb3 HB.out)
                clear hb3
                go_wp2
                refine region_S (fun w' => w'.cell? ⟨w.heap.size, 0, none⟩ = some (.int .i64 m.1) ∧ w'.cell? ⟨w.heap.size, 1, none⟩ = some (.slice A m.2.length c) ∧ w'.cell? ⟨w.heap.size + 1, 0, none⟩ = some (.int .i64 x.n) ∧ w'.cell? ⟨w.heap.size + 1, 1, none⟩ = some (.int .i64 x.c) ∧ w'.cell? ⟨w.heap.size + 1, 2, none⟩ = some (.int .i64 x.a) ∧ w'.cell? ⟨w.heap.size + 1, 3, none⟩ = some (.int .i64 x.f) ∧ w'.cell? ⟨w.heap.size + 1, 4, none⟩ = some (.int .i64 x.t)) 8 (by kernel_rfl) ?_
                obtain ⟨W0, hW0⟩ : ∃ Zz, Zz = V3.drew := ⟨_, rfl⟩
                have hb0 : Below V3.heap.size V3 W0 := by rw [hW0]; exact (Below.refl _ _).drew
                rw [← hW0]
                clear hW0
                have HKS : Hid (∀ w', Below V3.heap.size V3 w' → (w'.cell? ⟨w.heap.size, 0, none⟩ = some (.int .i64 m.1) ∧ w'.cell? ⟨w.heap.size, 1, none⟩ = some (.slice A m.2.length c) ∧ w'.cell? ⟨w.heap.size + 1, 0, none⟩ = some (.int .i64 x.n) ∧ w'.cell? ⟨w.heap.size + 1, 1, none⟩ = some (.int .i64 x.c) ∧ w'.cell? ⟨w.heap.size + 1, 2, none⟩ = some (.int .i64 x.a) ∧ w'.cell? ⟨w.heap.size + 1, 3, none⟩ = some (.int .i64 x.f) ∧ w'.cell? ⟨w.heap.size + 1, 4, none⟩ = some (.int .i64 x.t))) := fun w' hW => ⟨(box2 (HKF.out.next hW)).1, (box2 (HKF.out.next hW)).2, Ls.box5 (HKX.out.next hW)⟩
                have HS0 := HKS.out _ hb0
                refine anyS_take (i := 0) rfl (by kernel_rfl) (by kernel_rfl) (by kernel_rfl) (by kernel_rfl) (fun _ _ _ h => h) (Or.inl ⟨by rfl, fun w' hS' => (by obtain ⟨s1, s2, s3, s4, s5, s6, s7⟩ := hS'; go_simp; try with_reducible rfl)⟩) HS0 ?_
                refine anyS_take (i := 1) rfl (by kernel_rfl) (by kernel_rfl) (by kernel_rfl) (by kernel_rfl) (fun _ _ _ h => h) (Or.inl ⟨by rfl, fun w' hS' => (by obtain ⟨s1, s2, s3, s4, s5, s6, s7⟩ := hS'; go_simp; try with_reducible rfl)⟩) HS0 ?_
                refine anyS_one (i := 2) (by kernel_rfl) rfl rfl (fun K hK => ?_)
                have HPK := Lib.hid (vpack_any x W0 HX.out (HW.out.next (bt hb0 HB.out)))
                go_simp
                refine HPK.out.mono ?_
                rintro e W1 ⟨pv, rfl, hown1, hb1⟩
                obtain ⟨A1, q1, rfl, hq1, hr1⟩ := own_read hown1
                have hB1 := bt hb1 hb0
                go_simp
                refine hK _ _ (fun _ => HKS.out _ hB1) ?_
                clear hK K HPK hown1 HS0
                refine anyS_one (i := 3) (by kernel_rfl) rfl rfl (fun K hK => ?_)
                have HAP := Append_m m (packL x) A A1 c q1 W1 (HA.out.next (bt hB1 HB.out)) hc (by unfold RdB; rw [packL_length]; exact hr1) (by rw [packL_length]; exact hq1) (by rw [packL_length]; omega)
                rw [packL_length] at HAP
                rw [← HAMd.out, ← HAEd.out] at HAP
                have HAPH := Lib.hid HAP
                clear HAP
                go_simp
                refine HAPH.out.mono ?_
                rintro e W2 ⟨v2, its2, rfl, hm2, hmap2, hb2⟩
                obtain ⟨A2, c2, rfl, _, _⟩ := own_read hm2.1
                have hr2 := (⟨hm2, hmap2⟩ : _ ∧ _)
                clear hm2 hmap2
                have hB2 := bt hb2 hB1
                have HS1 := HKS.out _ hB2
                have HR2 := Lib.hid hr2
                go_simp
                refine hK _ _ (fun _ => HS1) ?_
                clear hK K HAPH hr2
                refine anyS_take (i := 4) rfl (by kernel_rfl) (by kernel_rfl) (by kernel_rfl) (by kernel_rfl) (fun _ _ _ h => h) (Or.inl ⟨by rfl, fun w' hS' => (by obtain ⟨s1, s2, s3, s4, s5, s6, s7⟩ := hS'; go_simp; try with_reducible rfl)⟩) HS1 ?_
                refine anyS_take (i := 5) rfl (by kernel_rfl) (by kernel_rfl) (by kernel_rfl) (by kernel_rfl) (fun _ _ _ h => h) (Or.inl ⟨by rfl, fun w' hS' => (by obtain ⟨s1, s2, s3, s4, s5, s6, s7⟩ := hS'; go_simp; try with_reducible rfl)⟩) HS1 ?_
                refine anyS_take (i := 6) rfl (by kernel_rfl) (by kernel_rfl) (by kernel_rfl) (by kernel_rfl) (fun _ _ _ h => h) (Or.inl ⟨by rfl, fun w' hS' => (by obtain ⟨s1, s2, s3, s4, s5, s6, s7⟩ := hS'; go_simp; try with_reducible rfl)⟩) HS1 ?_
                refine anyS_one (i := 7) (by kernel_rfl) rfl rfl (fun K hK => ?_)
                go_simp
                refine hK _ _ (fun _ => HS1) ?_
                clear hK K
                refine anyS_one (i := 8) (by kernel_rfl) rfl rfl (fun K hK => ?_)
                go_simp
                refine hK _ _ (fun h => absurd rfl h) ?_
                clear hK K
                refine anyS_done (by kernel_rfl) ?_ _
                simp only [normPost]
                replace HRL := Lib.hid (HRL.out.next hB2)
                replace HKF := Lib.hid (HKF.out.next hB2)
                replace HKX := Lib.hid (HKX.out.next hB2)
                replace HB := Lib.hid (bt hB2 HB.out)
                clear hb0 hb1 hb2 hB1 hB2 HS1 HKS hr1
                obtain ⟨x0, x1, x2, x3, x4⟩ := Ls.box5 HKX.out
                obtain ⟨f0, f1⟩ := box2 HKF.out
                have lx := HKX.out.lt
                go_wp2_with fail
                refine (kept_any L x tick _ cL _ HVL.out hLn HX.out (by omega) (by omega) HRL.out (HW.out.next HB.out)).mono ?_
                rintro e W4 ⟨A4, c4, rfl, hc4, hr4, hb4⟩
                rw [← HKR.out, ← HRSd.out] at hc4 hr4
                rw [← HKR.out, ← HRSd.out]
                have HR4 := Lib.hid hr4
                clear x0 x1 x2 x3 x4 f0 f1 lx
                replace HRL := Lib.hid (HRL.out.next hb4)
                replace HKF := Lib.hid (HKF.out.next hb4)
                replace HKX := Lib.hid (HKX.out.next hb4)
                replace HB := Lib.hid (bt hb4 HB.out)
                clear hb4 hr4
                obtain ⟨x0, x1, x2, x3, x4⟩ := Ls.box5 HKX.out
                obtain ⟨f0, f1⟩ := box2 HKF.out
                have lx := HKX.out.lt
                go_wp2_with fail
                have HRW := Rewrite_m m rs A A4 c c4 W4 (HA.out.next HB.out) hc HR4.out s1 (by rw [HRSd.out]; exact HS2.out)
                rw [HRSd.out, ← HRMd.out, ← HREd.out, ← HRSd.out] at HRW
                refine HRW.mono ?_
                rintro e W5 ⟨v5, its5, rfl, hm5, hmap5, hb5⟩
                obtain ⟨A5, c5, rfl, _, _⟩ := own_read hm5.1
                have hr5 := (⟨hm5, hmap5⟩ : _ ∧ _)
                clear hm5 hmap5
                clear x0 x1 x2 x3 x4 f0 f1 lx
                have HR5 := Lib.hid hr5
                have HB5 := Lib.hid (bt hb5 HB.out)
                clear hr5 hb5 HRW
                go_wp2
                go_ret2
                exact ⟨_, its5, rfl, HR5.out.1, HR5.out.2, HB5.out⟩
              · obtain ⟨e1, e2⟩ := sto_app h0 ha (hL ▸ hold) h10
                rw [e1, e2]
                have q10 : (appE m (packL x) != 10) = true := by simpa using h10
                obtain ⟨AM, hAM⟩ : ∃ AM, AM = appM m (packL x) := ⟨_, rfl⟩
                obtain ⟨AE, hAE⟩ : ∃ AE, AE = appE m (packL x) := ⟨_, rfl⟩
                have HAMd := Lib.hid hAM
                have HAEd := Lib.hid hAE
                rw [← hAM, ← hAE]
                rw [← hAE] at q10
                clear e1 e2 ha hL h0 ho h10 hAM hAE
                go_enter Tryd.func11, Tryd.ntmps11
                go_wp2_with fail
                obtain ⟨U, hU⟩ : ∃ Zz, Zz = ((w.alloc (.cells #[.int .i64 m.1, .slice A m.2.length c] 24)).alloc (.cells #[.int .i64 x.n, .int .i64 x.c, .int .i64 x.a, .int .i64 x.f, .int .i64 x.t] 26)) := ⟨_, rfl⟩
                have hbU : Below w.heap.size w U := by rw [hU]; exact al2 _ _ _
                have kf : Bk U w.heap.size 24 #[.int .i64 m.1, .slice A m.2.length c] := by rw [hU]; exact (Bk.new _ _ _).alloc _
                have kx : Bk U (w.heap.size + 1) 26 #[.int .i64 x.n, .int .i64 x.c, .int .i64 x.a, .int .i64 x.f, .int .i64 x.t] := by rw [hU]; exact bkOf (by simp [at?_alloc])
                rw [← hU]
                clear hU
                refine (Load_lit L 0 m A c _ HL.out.symm HE.out (HA.out.next hbU) hc (HW.out.next hbU)).mono ?_
                rintro e V1 ⟨AL, cL, rfl, hcL, hrL, hb⟩
                have HRL := Lib.hid hrL
                have HB := Lib.hid (bt hb hbU)
                have HKF := Lib.hid (kf.next hb)
                have HKX := Lib.hid (kx.next hb)
                clear hrL hb hbU kf kx
                obtain ⟨x0, x1, x2, x3, x4⟩ := Ls.box5 HKX.out
                obtain ⟨f0, f1⟩ := box2 HKF.out
                have lx := HKX.out.lt
                go_wp2_with fail
                obtain ⟨U2, hU2⟩ : ∃ Zz, Zz = V1.alloc (.cells #[.int .i64 x.n, .int .i64 x.c, .int .i64 x.a, .int .i64 x.f, .int .i64 x.t] 26) := ⟨_, rfl⟩
                have hbU2 : Below V1.heap.size V1 U2 := by rw [hU2]; exact al1 _ _
                have ky : Bk U2 V1.heap.size 26 #[.int .i64 x.n, .int .i64 x.c, .int .i64 x.a, .int .i64 x.f, .int .i64 x.t] := by rw [hU2]; exact Bk.new _ _ _
                rw [← hU2]
                clear hU2
                clear x0 x1 x2 x3 x4 f0 f1 lx
                refine (Ls.Valid_lit true [x] _ 1 _ HO.out (RdL.of_bk (l := [x]) ky ky.lt) (by simp)).mono ?_
                rintro e V2 ⟨rfl, hb⟩
                have hB := bt hb hbU2
                replace HRL := Lib.hid (HRL.out.next hB)
                replace HKF := Lib.hid (HKF.out.next hB)
                replace HKX := Lib.hid (HKX.out.next hB)
                replace HB := Lib.hid (bt hB HB.out)
                clear hb hbU2 ky hB
                have j4 : decide ((0 : Int) < (L.length : Int)) = true := by simp; omega
                have j6 : decide (0 < L.length) = true := by simp; omega
                obtain ⟨bk, ok, rfl, _, z0, z1, z2, z3, z4⟩ := HRL.out.at_ (i := L.length - 1) (by omega)
                obtain ⟨y, hy⟩ : ∃ y, y = lastL L := ⟨_, rfl⟩
                rw [← getD_of (by omega : L.length - 1 < L.length), show L.getD (L.length - 1) l0 = y from hy.symm] at z0 z1 z2 z3 z4
                obtain ⟨k, hk⟩ : ∃ k, k = L.length - 1 := ⟨_, rfl⟩
                rw [← hk] at z0 z1 z2 z3 z4
                have j0k : (L.length : Int) - 1 = (k : Int) := by omega
                have j1k : (0 : Int) ≤ (k : Int) := by omega
                have j2k : (k : Int) < (L.length : Int) := by omega
                have j3k : IntKind.i64.wrap ((L.length : Int) - 1) = (k : Int) := by rw [IntWalk.i64_in _ (by omega)]; omega
                have Hy := Lib.hid hy
                clear hk hy
                have hdec : y.n < x.n ∧ y.f ≤ x.f := by have := HFF.out; rw [← Hy.out] at this; simpa [folB] using this
                have d1 : decide (x.n ≤ y.n) = false := by simp; omega
                have d2 : decide (x.f < y.f) = false := by simp; omega
                clear hdec
                obtain ⟨x0, x1, x2, x3, x4⟩ := Ls.box5 HKX.out
                obtain ⟨f0, f1⟩ := box2 HKF.out
                have lx := HKX.out.lt
                go_wp2
                go_quiet (fail)
                obtain ⟨V3, hV3⟩ : ∃ Zz, Zz = V2.drewN nq := ⟨_, rfl⟩
                have hb3 : Below V2.heap.size V2 V3 := by rw [hV3]; exact belowDrew (Below.refl _ _) _
                rw [← hV3]
                clear hV3
                clear x0 x1 x2 x3 x4 f0 f1 lx
                replace HRL := Lib.hid (HRL.out.next hb3)
                replace HKF := Lib.hid (HKF.out.next hb3)
                replace HKX := Lib.hid (HKX.out.next hb3)
                replace HB := Lib.hid (bt hb3 HB.out)
                clear hb3
                go_wp2
                refine region_S (fun w' => w'.cell? ⟨w.heap.size, 0, none⟩ = some (.int .i64 m.1) ∧ w'.cell? ⟨w.heap.size, 1, none⟩ = some (.slice A m.2.length c) ∧ w'.cell? ⟨w.heap.size + 1, 0, none⟩ = some (.int .i64 x.n) ∧ w'.cell? ⟨w.heap.size + 1, 1, none⟩ = some (.int .i64 x.c) ∧ w'.cell? ⟨w.heap.size + 1, 2, none⟩ = some (.int .i64 x.a) ∧ w'.cell? ⟨w.heap.size + 1, 3, none⟩ = some (.int .i64 x.f) ∧ w'.cell? ⟨w.heap.size + 1, 4, none⟩ = some (.int .i64 x.t)) 8 (by kernel_rfl) ?_
                obtain ⟨W0, hW0⟩ : ∃ Zz, Zz = V3.drew := ⟨_, rfl⟩
                have hb0 : Below V3.heap.size V3 W0 := by rw [hW0]; exact (Below.refl _ _).drew
                rw [← hW0]
                clear hW0
                have HKS : Hid (∀ w', Below V3.heap.size V3 w' → (w'.cell? ⟨w.heap.size, 0, none⟩ = some (.int .i64 m.1) ∧ w'.cell? ⟨w.heap.size, 1, none⟩ = some (.slice A m.2.length c) ∧ w'.cell? ⟨w.heap.size + 1, 0, none⟩ = some (.int .i64 x.n) ∧ w'.cell? ⟨w.heap.size + 1, 1, none⟩ = some (.int .i64 x.c) ∧ w'.cell? ⟨w.heap.size + 1, 2, none⟩ = some (.int .i64 x.a) ∧ w'.cell? ⟨w.heap.size + 1, 3, none⟩ = some (.int .i64 x.f) ∧ w'.cell? ⟨w.heap.size + 1, 4, none⟩ = some (.int .i64 x.t))) := fun w' hW => ⟨(box2 (HKF.out.next hW)).1, (box2 (HKF.out.next hW)).2, Ls.box5 (HKX.out.next hW)⟩
                have HS0 := HKS.out _ hb0
                refine anyS_take (i := 0) rfl (by kernel_rfl) (by kernel_rfl) (by kernel_rfl) (by kernel_rfl) (fun _ _ _ h => h) (Or.inl ⟨by rfl, fun w' hS' => (by obtain ⟨s1, s2, s3, s4, s5, s6, s7⟩ := hS'; go_simp; try with_reducible rfl)⟩) HS0 ?_
                refine anyS_take (i := 1) rfl (by kernel_rfl) (by kernel_rfl) (by kernel_rfl) (by kernel_rfl) (fun _ _ _ h => h) (Or.inl ⟨by rfl, fun w' hS' => (by obtain ⟨s1, s2, s3, s4, s5, s6, s7⟩ := hS'; go_simp; try with_reducible rfl)⟩) HS0 ?_
                refine anyS_one (i := 2) (by kernel_rfl) rfl rfl (fun K hK => ?_)
                have HPK := Lib.hid (vpack_any x W0 HX.out (HW.out.next (bt hb0 HB.out)))
                go_simp
                refine HPK.out.mono ?_
                rintro e W1 ⟨pv, rfl, hown1, hb1⟩
                obtain ⟨A1, q1, rfl, hq1, hr1⟩ := own_read hown1
                have hB1 := bt hb1 hb0
                go_simp
                refine hK _ _ (fun _ => HKS.out _ hB1) ?_
                clear hK K HPK hown1 HS0
                refine anyS_one (i := 3) (by kernel_rfl) rfl rfl (fun K hK => ?_)
                have HAP := Append_m m (packL x) A A1 c q1 W1 (HA.out.next (bt hB1 HB.out)) hc (by unfold RdB; rw [packL_length]; exact hr1) (by rw [packL_length]; exact hq1) (by rw [packL_length]; omega)
                rw [packL_length] at HAP
                rw [← HAMd.out, ← HAEd.out] at HAP
                have HAPH := Lib.hid HAP
                clear HAP
                go_simp
                refine HAPH.out.mono ?_
                rintro e W2 ⟨v2, its2, rfl, hm2, hmap2, hb2⟩
                obtain ⟨A2, c2, rfl, _, _⟩ := own_read hm2.1
                have hr2 := (⟨hm2, hmap2⟩ : _ ∧ _)
                clear hm2 hmap2
                have hB2 := bt hb2 hB1
                have HS1 := HKS.out _ hB2
                have HR2 := Lib.hid hr2
                go_simp
                refine hK _ _ (fun _ => HS1) ?_
                clear hK K HAPH hr2
                refine anyS_take (i := 4) rfl (by kernel_rfl) (by kernel_rfl) (by kernel_rfl) (by kernel_rfl) (fun _ _ _ h => h) (Or.inl ⟨by rfl, fun w' hS' => (by obtain ⟨s1, s2, s3, s4, s5, s6, s7⟩ := hS'; go_simp; try with_reducible rfl)⟩) HS1 ?_
                refine anyS_take (i := 5) rfl (by kernel_rfl) (by kernel_rfl) (by kernel_rfl) (by kernel_rfl) (fun _ _ _ h => h) (Or.inl ⟨by rfl, fun w' hS' => (by obtain ⟨s1, s2, s3, s4, s5, s6, s7⟩ := hS'; go_simp; try with_reducible rfl)⟩) HS1 ?_
                refine anyS_take (i := 6) rfl (by kernel_rfl) (by kernel_rfl) (by kernel_rfl) (by kernel_rfl) (fun _ _ _ h => h) (Or.inl ⟨by rfl, fun w' hS' => (by obtain ⟨s1, s2, s3, s4, s5, s6, s7⟩ := hS'; go_simp; try with_reducible rfl)⟩) HS1 ?_
                refine anyS_one (i := 7) (by kernel_rfl) rfl rfl (fun K hK => ?_)
                go_simp
                refine hK _ _ (fun _ => HS1) ?_
                clear hK K
                refine anyS_one (i := 8) (by kernel_rfl) rfl rfl (fun K hK => ?_)
                go_simp
                refine hK _ _ (fun h => absurd rfl h) ?_
                clear hK K
                refine anyS_done (by kernel_rfl) ?_ _
                simp only [normPost]
                replace HRL := Lib.hid (HRL.out.next hB2)
                replace HKF := Lib.hid (HKF.out.next hB2)
                replace HKX := Lib.hid (HKX.out.next hB2)
                replace HB := Lib.hid (bt hB2 HB.out)
                clear hb0 hb1 hb2 hB1 hB2 HS1 HKS hr1
                go_wp2
                go_ret2
                exact ⟨_, its2, rfl, HR2.out.1, HR2.out.2, HB.out⟩
          · have hold : oldB L x = false := by rw [oldB, decide_eq_false hlp]; rfl
            by_cases h10 : appE m (packL x) = 10
            · obtain ⟨e1, e2⟩ := sto_rew h0 ha (hL ▸ hold) h10
              obtain ⟨s1, s2⟩ := keepR_small h0 x tick
              obtain ⟨RM, hRM⟩ : ∃ RM, RM = rewM m (keepR m x tick) := ⟨_, rfl⟩
              obtain ⟨RE, hRE⟩ : ∃ RE, RE = rewE m (keepR m x tick) := ⟨_, rfl⟩
              rw [e1, e2, ← hRM, ← hRE]
              have HRMd := Lib.hid hRM
              have HREd := Lib.hid hRE
              have HS2 := Lib.hid s2
              have HKR : Hid (keepR m x tick = (keptL L tick ++ [x]).map packL) := by show _ = _; rw [keepR, ← hL]
              have HVL : Hid (vlB L = true) := by show _ = _; rw [hL]; exact (load_ok h0).2.2.2.2
              obtain ⟨rs, hrs⟩ : ∃ rs, rs = keepR m x tick := ⟨_, rfl⟩
              rw [← hrs] at s1
              have HRSd := Lib.hid hrs
              obtain ⟨AM, hAM⟩ : ∃ AM, AM = appM m (packL x) := ⟨_, rfl⟩
              obtain ⟨AE, hAE⟩ : ∃ AE, AE = appE m (packL x) := ⟨_, rfl⟩
              have HAMd := Lib.hid hAM
              have HAEd := Lib.hid hAE
              rw [h10] at hAE
              subst hAE
              have HAEd' : Hid (10 = appE m (packL x)) := h10.symm
              clear e1 e2 ha hL h0 ho h10 hAM hRM hRE s2 hrs
              go_enter Tryd.func11, Tryd.ntmps11
              go_wp2_with fail
              obtain ⟨U, hU⟩ : ∃ Zz, Zz = ((w.alloc (.cells #[.int .i64 m.1, .slice A m.2.length c] 24)).alloc (.cells #[.int .i64 x.n, .int .i64 x.c, .int .i64 x.a, .int .i64 x.f, .int .i64 x.t] 26)) := ⟨_, rfl⟩
              have hbU : Below w.heap.size w U := by rw [hU]; exact al2 _ _ _
              have kf : Bk U w.heap.size 24 #[.int .i64 m.1, .slice A m.2.length c] := by rw [hU]; exact (Bk.new _ _ _).alloc _
              have kx : Bk U (w.heap.size + 1) 26 #[.int .i64 x.n, .int .i64 x.c, .int .i64 x.a, .int .i64 x.f, .int .i64 x.t] := by rw [hU]; exact bkOf (by simp [at?_alloc])
              rw [← hU]
              clear hU
              refine (Load_lit L 0 m A c _ HL.out.symm HE.out (HA.out.next hbU) hc (HW.out.next hbU)).mono ?_
              rintro e V1 ⟨AL, cL, rfl, hcL, hrL, hb⟩
              have HRL := Lib.hid hrL
              have HB := Lib.hid (bt hb hbU)
              have HKF := Lib.hid (kf.next hb)
              have HKX := Lib.hid (kx.next hb)
              clear hrL hb hbU kf kx
              obtain ⟨x0, x1, x2, x3, x4⟩ := Ls.box5 HKX.out
              obtain ⟨f0, f1⟩ := box2 HKF.out
              have lx := HKX.out.lt
              go_wp2_with fail
              obtain ⟨U2, hU2⟩ : ∃ Zz, Zz = V1.alloc (.cells #[.int .i64 x.n, .int .i64 x.c, .int .i64 x.a, .int .i64 x.f, .int .i64 x.t] 26) := ⟨_, rfl⟩
              have hbU2 : Below V1.heap.size V1 U2 := by rw [hU2]; exact al1 _ _
              have ky : Bk U2 V1.heap.size 26 #[.int .i64 x.n, .int .i64 x.c, .int .i64 x.a, .int .i64 x.f, .int .i64 x.t] := by rw [hU2]; exact Bk.new _ _ _
              rw [← hU2]
              clear hU2
              clear x0 x1 x2 x3 x4 f0 f1 lx
              refine (Ls.Valid_lit true [x] _ 1 _ HO.out (RdL.of_bk (l := [x]) ky ky.lt) (by simp)).mono ?_
              rintro e V2 ⟨rfl, hb⟩
              have hB := bt hb hbU2
              replace HRL := Lib.hid (HRL.out.next hB)
              replace HKF := Lib.hid (HKF.out.next hB)
              replace HKX := Lib.hid (HKX.out.next hB)
              replace HB := Lib.hid (bt hB HB.out)
              clear hb hbU2 ky hB
              have j4 : decide ((0 : Int) < (L.length : Int)) = false := decide_eq_false (by omega)
              have j6 : decide (0 < L.length) = false := decide_eq_false (by omega)
              obtain ⟨x0, x1, x2, x3, x4⟩ := Ls.box5 HKX.out
              obtain ⟨f0, f1⟩ := box2 HKF.out
              have lx := HKX.out.lt
              go_wp2
              go_quiet (fail)
              obtain ⟨V3, hV3⟩ : ∃ Zz, Zz = V2.drewN nq := ⟨_, rfl⟩
              have hb3 : Below V2.heap.size V2 V3 := by rw [hV3]; exact belowDrew (Below.refl _ _) _
              rw [← hV3]
              clear hV3
              clear x0 x1 x2 x3 x4 f0 f1 lx
              replace HRL := Lib.hid (HRL.out.next hb3)
              replace HKF := Lib.hid (HKF.out.next hb3)
              replace HKX := Lib.hid (HKX.out.next hb3)
              replace HB := Lib.hid (bt hb3 HB.out)
              clear hb3
              go_wp2
              refine region_S (fun w' => w'.cell? ⟨w.heap.size, 0, none⟩ = some (.int .i64 m.1) ∧ w'.cell? ⟨w.heap.size, 1, none⟩ = some (.slice A m.2.length c) ∧ w'.cell? ⟨w.heap.size + 1, 0, none⟩ = some (.int .i64 x.n) ∧ w'.cell? ⟨w.heap.size + 1, 1, none⟩ = some (.int .i64 x.c) ∧ w'.cell? ⟨w.heap.size + 1, 2, none⟩ = some (.int .i64 x.a) ∧ w'.cell? ⟨w.heap.size + 1, 3, none⟩ = some (.int .i64 x.f) ∧ w'.cell? ⟨w.heap.size + 1, 4, none⟩ = some (.int .i64 x.t)) 8 (by kernel_rfl) ?_
              obtain ⟨W0, hW0⟩ : ∃ Zz, Zz = V3.drew := ⟨_, rfl⟩
              have hb0 : Below V3.heap.size V3 W0 := by rw [hW0]; exact (Below.refl _ _).drew
              rw [← hW0]
              clear hW0
              have HKS : Hid (∀ w', Below V3.heap.size V3 w' → (w'.cell? ⟨w.heap.size, 0, none⟩ = some (.int .i64 m.1) ∧ w'.cell? ⟨w.heap.size, 1, none⟩ = some (.slice A m.2.length c) ∧ w'.cell? ⟨w.heap.size + 1, 0, none⟩ = some (.int .i64 x.n) ∧ w'.cell? ⟨w.heap.size + 1, 1, none⟩ = some (.int .i64 x.c) ∧ w'.cell? ⟨w.heap.size + 1, 2, none⟩ = some (.int .i64 x.a) ∧ w'.cell? ⟨w.heap.size + 1, 3, none⟩ = some (.int .i64 x.f) ∧ w'.cell? ⟨w.heap.size + 1, 4, none⟩ = some (.int .i64 x.t))) := fun w' hW => ⟨(box2 (HKF.out.next hW)).1, (box2 (HKF.out.next hW)).2, Ls.box5 (HKX.out.next hW)⟩
              have HS0 := HKS.out _ hb0
              refine anyS_take (i := 0) rfl (by kernel_rfl) (by kernel_rfl) (by kernel_rfl) (by kernel_rfl) (fun _ _ _ h => h) (Or.inl ⟨by rfl, fun w' hS' => (by obtain ⟨s1, s2, s3, s4, s5, s6, s7⟩ := hS'; go_simp; try with_reducible rfl)⟩) HS0 ?_
              refine anyS_take (i := 1) rfl (by kernel_rfl) (by kernel_rfl) (by kernel_rfl) (by kernel_rfl) (fun _ _ _ h => h) (Or.inl ⟨by rfl, fun w' hS' => (by obtain ⟨s1, s2, s3, s4, s5, s6, s7⟩ := hS'; go_simp; try with_reducible rfl)⟩) HS0 ?_
              refine anyS_one (i := 2) (by kernel_rfl) rfl rfl (fun K hK => ?_)
              have HPK := Lib.hid (vpack_any x W0 HX.out (HW.out.next (bt hb0 HB.out)))
              go_simp
              refine HPK.out.mono ?_
              rintro e W1 ⟨pv, rfl, hown1, hb1⟩
              obtain ⟨A1, q1, rfl, hq1, hr1⟩ := own_read hown1
              have hB1 := bt hb1 hb0
              go_simp
              refine hK _ _ (fun _ => HKS.out _ hB1) ?_
              clear hK K HPK hown1 HS0
              refine anyS_one (i := 3) (by kernel_rfl) rfl rfl (fun K hK => ?_)
              have HAP := Append_m m (packL x) A A1 c q1 W1 (HA.out.next (bt hB1 HB.out)) hc (by unfold RdB; rw [packL_length]; exact hr1) (by rw [packL_length]; exact hq1) (by rw [packL_length]; omega)
              rw [packL_length] at HAP
              rw [← HAMd.out, ← HAEd.out] at HAP
              have HAPH := Lib.hid HAP
              clear HAP
              go_simp
              refine HAPH.out.mono ?_
              rintro e W2 ⟨v2, its2, rfl, hm2, hmap2, hb2⟩
              obtain ⟨A2, c2, rfl, _, _⟩ := own_read hm2.1
              have hr2 := (⟨hm2, hmap2⟩ : _ ∧ _)
              clear hm2 hmap2
              have hB2 := bt hb2 hB1
              have HS1 := HKS.out _ hB2
              have HR2 := Lib.hid hr2
              go_simp
              refine hK _ _ (fun _ => HS1) ?_
              clear hK K HAPH hr2
              refine anyS_take (i := 4) rfl (by kernel_rfl) (by kernel_rfl) (by kernel_rfl) (by kernel_rfl) (fun _ _ _ h => h) (Or.inl ⟨by rfl, fun w' hS' => (by obtain ⟨s1, s2, s3, s4, s5, s6, s7⟩ := hS'; go_simp; try with_reducible rfl)⟩) HS1 ?_
              refine anyS_take (i := 5) rfl (by kernel_rfl) (by kernel_rfl) (by kernel_rfl) (by kernel_rfl) (fun _ _ _ h => h) (Or.inl ⟨by rfl, fun w' hS' => (by obtain ⟨s1, s2, s3, s4, s5, s6, s7⟩ := hS'; go_simp; try with_reducible rfl)⟩) HS1 ?_
              refine anyS_take (i := 6) rfl (by kernel_rfl) (by kernel_rfl) (by kernel_rfl) (by kernel_rfl) (fun _ _ _ h => h) (Or.inl ⟨by rfl, fun w' hS' => (by obtain ⟨s1, s2, s3, s4, s5, s6, s7⟩ := hS'; go_simp; try with_reducible rfl)⟩) HS1 ?_
              refine anyS_one (i := 7) (by kernel_rfl) rfl rfl (fun K hK => ?_)
              go_simp
              refine hK _ _ (fun _ => HS1) ?_
              clear hK K
              refine anyS_one (i := 8) (by kernel_rfl) rfl rfl (fun K hK => ?_)
              go_simp
              refine hK _ _ (fun h => absurd rfl h) ?_
              clear hK K
              refine anyS_done (by kernel_rfl) ?_ _
              simp only [normPost]
              replace HRL := Lib.hid (HRL.out.next hB2)
              replace HKF := Lib.hid (HKF.out.next hB2)
              replace HKX := Lib.hid (HKX.out.next hB2)
              replace HB := Lib.hid (bt hB2 HB.out)
              clear hb0 hb1 hb2 hB1 hB2 HS1 HKS hr1
              obtain ⟨x0, x1, x2, x3, x4⟩ := Ls.box5 HKX.out
              obtain ⟨f0, f1⟩ := box2 HKF.out
              have lx := HKX.out.lt
              go_wp2_with fail
              refine (kept_any L x tick _ cL _ HVL.out hLn HX.out (by omega) (by omega) HRL.out (HW.out.next HB.out)).mono ?_
              rintro e W4 ⟨A4, c4, rfl, hc4, hr4, hb4⟩
              rw [← HKR.out, ← HRSd.out] at hc4 hr4
              rw [← HKR.out, ← HRSd.out]
              have HR4 := Lib.hid hr4
              clear x0 x1 x2 x3 x4 f0 f1 lx
              replace HRL := Lib.hid (HRL.out.next hb4)
              replace HKF := Lib.hid (HKF.out.next hb4)
              replace HKX := Lib.hid (HKX.out.next hb4)
              replace HB := Lib.hid (bt hb4 HB.out)
              clear hb4 hr4
              obtain ⟨x0, x1, x2, x3, x4⟩ := Ls.box5 HKX.out
              obtain ⟨f0, f1⟩ := box2 HKF.out
              have lx := HKX.out.lt
              go_wp2_with fail
              have HRW := Rewrite_m m rs A A4 c c4 W4 (HA.out.next HB.out) hc HR4.out s1 (by rw [HRSd.out]; exact HS2.out)
              rw [HRSd.out, ← HRMd.out, ← HREd.out, ← HRSd.out] at HRW
              refine HRW.mono ?_
              rintro e W5 ⟨v5, its5, rfl, hm5, hmap5, hb5⟩
              obtain ⟨A5, c5, rfl, _, _⟩ := own_read hm5.1
              have hr5 := (⟨hm5, hmap5⟩ : _ ∧ _)
              clear hm5 hmap5
              clear x0 x1 x2 x3 x4 f0 f1 lx
              have HR5 := Lib.hid hr5
              have HB5 := Lib.hid (bt hb5 HB.out)
              clear hr5 hb5 HRW
              go_wp2
              go_ret2
              exact ⟨_, its5, rfl, HR5.out.1, HR5.out.2, HB5.out⟩
            · obtain ⟨e1, e2⟩ := sto_app h0 ha (hL ▸ hold) h10
              rw [e1, e2]
              have q10 : (appE m (packL x) != 10) = true := by simpa using h10
              obtain ⟨AM, hAM⟩ : ∃ AM, AM = appM m (packL x) := ⟨_, rfl⟩
              obtain ⟨AE, hAE⟩ : ∃ AE, AE = appE m (packL x) := ⟨_, rfl⟩
              have HAMd := Lib.hid hAM
              have HAEd := Lib.hid hAE
              rw [← hAM, ← hAE]
              rw [← hAE] at q10
              clear e1 e2 ha hL h0 ho h10 hAM hAE
              go_enter Tryd.func11, Tryd.ntmps11
              go_wp2_with fail
              obtain ⟨U, hU⟩ : ∃ Zz, Zz = ((w.alloc (.cells #[.int .i64 m.1, .slice A m.2.length c] 24)).alloc (.cells #[.int .i64 x.n, .int .i64 x.c, .int .i64 x.a, .int .i64 x.f, .int .i64 x.t] 26)) := ⟨_, rfl⟩
              have hbU : Below w.heap.size w U := by rw [hU]; exact al2 _ _ _
              have kf : Bk U w.heap.size 24 #[.int .i64 m.1, .slice A m.2.length c] := by rw [hU]; exact (Bk.new _ _ _).alloc _
              have kx : Bk U (w.heap.size + 1) 26 #[.int .i64 x.n, .int .i64 x.c, .int .i64 x.a, .int .i64 x.f, .int .i64 x.t] := by rw [hU]; exact bkOf (by simp [at?_alloc])
              rw [← hU]
              clear hU
              refine (Load_lit L 0 m A c _ HL.out.symm HE.out (HA.out.next hbU) hc (HW.out.next hbU)).mono ?_
              rintro e V1 ⟨AL, cL, rfl, hcL, hrL, hb⟩
              have HRL := Lib.hid hrL
              have HB := Lib.hid (bt hb hbU)
              have HKF := Lib.hid (kf.next hb)
              have HKX := Lib.hid (kx.next hb)
              clear hrL hb hbU kf kx
              obtain ⟨x0, x1, x2, x3, x4⟩ := Ls.box5 HKX.out
              obtain ⟨f0, f1⟩ := box2 HKF.out
              have lx := HKX.out.lt
              go_wp2_with fail
              obtain ⟨U2, hU2⟩ : ∃ Zz, Zz = V1.alloc (.cells #[.int .i64 x.n, .int .i64 x.c, .int .i64 x.a, .int .i64 x.f, .int .i64 x.t] 26) := ⟨_, rfl⟩
              have hbU2 : Below V1.heap.size V1 U2 := by rw [hU2]; exact al1 _ _
              have ky : Bk U2 V1.heap.size 26 #[.int .i64 x.n, .int .i64 x.c, .int .i64 x.a, .int .i64 x.f, .int .i64 x.t] := by rw [hU2]; exact Bk.new _ _ _
              rw [← hU2]
              clear hU2
              clear x0 x1 x2 x3 x4 f0 f1 lx
              refine (Ls.Valid_lit true [x] _ 1 _ HO.out (RdL.of_bk (l := [x]) ky ky.lt) (by simp)).mono ?_
              rintro e V2 ⟨rfl, hb⟩
              have hB := bt hb hbU2
              replace HRL := Lib.hid (HRL.out.next hB)
              replace HKF := Lib.hid (HKF.out.next hB)
              replace HKX := Lib.hid (HKX.out.next hB)
              replace HB := Lib.hid (bt hB HB.out)
              clear hb hbU2 ky hB
              have j4 : decide ((0 : Int) < (L.length : Int)) = false := decide_eq_false (by omega)
              have j6 : decide (0 < L.length) = false := decide_eq_false (by omega)
              obtain ⟨x0, x1, x2, x3, x4⟩ := Ls.box5 HKX.out
              obtain ⟨f0, f1⟩ := box2 HKF.out
              have lx := HKX.out.lt
              go_wp2
              go_quiet (fail)
              obtain ⟨V3, hV3⟩ : ∃ Zz, Zz = V2.drewN nq := ⟨_, rfl⟩
              have hb3 : Below V2.heap.size V2 V3 := by rw [hV3]; exact belowDrew (Below.refl _ _) _
              rw [← hV3]
              clear hV3
              clear x0 x1 x2 x3 x4 f0 f1 lx
              replace HRL := Lib.hid (HRL.out.next hb3)
              replace HKF := Lib.hid (HKF.out.next hb3)
              replace HKX := Lib.hid (HKX.out.next hb3)
              replace HB := Lib.hid (bt hb3 HB.out)
              clear hb3
              go_wp2
              refine region_S (fun w' => w'.cell? ⟨w.heap.size, 0, none⟩ = some (.int .i64 m.1) ∧ w'.cell? ⟨w.heap.size, 1, none⟩ = some (.slice A m.2.length c) ∧ w'.cell? ⟨w.heap.size + 1, 0, none⟩ = some (.int .i64 x.n) ∧ w'.cell? ⟨w.heap.size + 1, 1, none⟩ = some (.int .i64 x.c) ∧ w'.cell? ⟨w.heap.size + 1, 2, none⟩ = some (.int .i64 x.a) ∧ w'.cell? ⟨w.heap.size + 1, 3, none⟩ = some (.int .i64 x.f) ∧ w'.cell? ⟨w.heap.size + 1, 4, none⟩ = some (.int .i64 x.t)) 8 (by kernel_rfl) ?_
              obtain ⟨W0, hW0⟩ : ∃ Zz, Zz = V3.drew := ⟨_, rfl⟩
              have hb0 : Below V3.heap.size V3 W0 := by rw [hW0]; exact (Below.refl _ _).drew
              rw [← hW0]
              clear hW0
              have HKS : Hid (∀ w', Below V3.heap.size V3 w' → (w'.cell? ⟨w.heap.size, 0, none⟩ = some (.int .i64 m.1) ∧ w'.cell? ⟨w.heap.size, 1, none⟩ = some (.slice A m.2.length c) ∧ w'.cell? ⟨w.heap.size + 1, 0, none⟩ = some (.int .i64 x.n) ∧ w'.cell? ⟨w.heap.size + 1, 1, none⟩ = some (.int .i64 x.c) ∧ w'.cell? ⟨w.heap.size + 1, 2, none⟩ = some (.int .i64 x.a) ∧ w'.cell? ⟨w.heap.size + 1, 3, none⟩ = some (.int .i64 x.f) ∧ w'.cell? ⟨w.heap.size + 1, 4, none⟩ = some (.int .i64 x.t))) := fun w' hW => ⟨(box2 (HKF.out.next hW)).1, (box2 (HKF.out.next hW)).2, Ls.box5 (HKX.out.next hW)⟩
              have HS0 := HKS.out _ hb0
              refine anyS_take (i := 0) rfl (by kernel_rfl) (by kernel_rfl) (by kernel_rfl) (by kernel_rfl) (fun _ _ _ h => h) (Or.inl ⟨by rfl, fun w' hS' => (by obtain ⟨s1, s2, s3, s4, s5, s6, s7⟩ := hS'; go_simp; try with_reducible rfl)⟩) HS0 ?_
              refine anyS_take (i := 1) rfl (by kernel_rfl) (by kernel_rfl) (by kernel_rfl) (by kernel_rfl) (fun _ _ _ h => h) (Or.inl ⟨by rfl, fun w' hS' => (by obtain ⟨s1, s2, s3, s4, s5, s6, s7⟩ := hS'; go_simp; try with_reducible rfl)⟩) HS0 ?_
              refine anyS_one (i := 2) (by kernel_rfl) rfl rfl (fun K hK => ?_)
              have HPK := Lib.hid (vpack_any x W0 HX.out (HW.out.next (bt hb0 HB.out)))
              go_simp
              refine HPK.out.mono ?_
              rintro e W1 ⟨pv, rfl, hown1, hb1⟩
              obtain ⟨A1, q1, rfl, hq1, hr1⟩ := own_read hown1
              have hB1 := bt hb1 hb0
              go_simp
              refine hK _ _ (fun _ => HKS.out _ hB1) ?_
              clear hK K HPK hown1 HS0
              refine anyS_one (i := 3) (by kernel_rfl) rfl rfl (fun K hK => ?_)
              have HAP := Append_m m (packL x) A A1 c q1 W1 (HA.out.next (bt hB1 HB.out)) hc (by unfold RdB; rw [packL_length]; exact hr1) (by rw [packL_length]; exact hq1) (by rw [packL_length]; omega)
              rw [packL_length] at HAP
              rw [← HAMd.out, ← HAEd.out] at HAP
              have HAPH := Lib.hid HAP
              clear HAP
              go_simp
              refine HAPH.out.mono ?_
              rintro e W2 ⟨v2, its2, rfl, hm2, hmap2, hb2⟩
              obtain ⟨A2, c2, rfl, _, _⟩ := own_read hm2.1
              have hr2 := (⟨hm2, hmap2⟩ : _ ∧ _)
              clear hm2 hmap2
              have hB2 := bt hb2 hB1
              have HS1 := HKS.out _ hB2
              have HR2 := Lib.hid hr2
              go_simp
              refine hK _ _ (fun _ => HS1) ?_
              clear hK K HAPH hr2
              refine anyS_take (i := 4) rfl (by kernel_rfl) (by kernel_rfl) (by kernel_rfl) (by kernel_rfl) (fun _ _ _ h => h) (Or.inl ⟨by rfl, fun w' hS' => (by obtain ⟨s1, s2, s3, s4, s5, s6, s7⟩ := hS'; go_simp; try with_reducible rfl)⟩) HS1 ?_
              refine anyS_take (i := 5) rfl (by kernel_rfl) (by kernel_rfl) (by kernel_rfl) (by kernel_rfl) (fun _ _ _ h => h) (Or.inl ⟨by rfl, fun w' hS' => (by obtain ⟨s1, s2, s3, s4, s5, s6, s7⟩ := hS'; go_simp; try with_reducible rfl)⟩) HS1 ?_
              refine anyS_take (i := 6) rfl (by kernel_rfl) (by kernel_rfl) (by kernel_rfl) (by kernel_rfl) (fun _ _ _ h => h) (Or.inl ⟨by rfl, fun w' hS' => (by obtain ⟨s1, s2, s3, s4, s5, s6, s7⟩ := hS'; go_simp; try with_reducible rfl)⟩) HS1 ?_
              refine anyS_one (i := 7) (by kernel_rfl) rfl rfl (fun K hK => ?_)
              go_simp
              refine hK _ _ (fun _ => HS1) ?_
              clear hK K
              refine anyS_one (i := 8) (by kernel_rfl) rfl rfl (fun K hK => ?_)
              go_simp
              refine hK _ _ (fun h => absurd rfl h) ?_
              clear hK K
              refine anyS_done (by kernel_rfl) ?_ _
              simp only [normPost]
              replace HRL := Lib.hid (HRL.out.next hB2)
              replace HKF := Lib.hid (HKF.out.next hB2)
              replace HKX := Lib.hid (HKX.out.next hB2)
              replace HB := Lib.hid (bt hB2 HB.out)
              clear hb0 hb1 hb2 hB1 hB2 HS1 HKS hr1
              go_wp2
              go_ret2
              exact ⟨_, its2, rfl, HR2.out.1, HR2.out.2, HB.out⟩
    · have ha : argB x tick = false := by simp [argB, ho]
      obtain ⟨e1, e2⟩ := sto_no h0 ha
      rw [e1, e2]
      have HO : Hid (vlB [x] = false) := by show _ = _; rw [vlB_single]; simpa using ho
      clear e1 e2 h0 hL ha ho
      go_enter Tryd.func11, Tryd.ntmps11
      go_wp2_with fail
      obtain ⟨U, hU⟩ : ∃ Zz, Zz = ((w.alloc (.cells #[.int .i64 m.1, .slice A m.2.length c] 24)).alloc (.cells #[.int .i64 x.n, .int .i64 x.c, .int .i64 x.a, .int .i64 x.f, .int .i64 x.t] 26)) := ⟨_, rfl⟩
      have hbU : Below w.heap.size w U := by rw [hU]; exact al2 _ _ _
      have kf : Bk U w.heap.size 24 #[.int .i64 m.1, .slice A m.2.length c] := by rw [hU]; exact (Bk.new _ _ _).alloc _
      have kx : Bk U (w.heap.size + 1) 26 #[.int .i64 x.n, .int .i64 x.c, .int .i64 x.a, .int .i64 x.f, .int .i64 x.t] := by rw [hU]; exact bkOf (by simp [at?_alloc])
      rw [← hU]
      clear hU
      refine (Load_lit L 0 m A c _ HL.out.symm HE.out (HA.out.next hbU) hc (HW.out.next hbU)).mono ?_
      rintro e V1 ⟨AL, cL, rfl, hcL, hrL, hb⟩
      have HRL := Lib.hid hrL
      have HB := Lib.hid (bt hb hbU)
      have HKF := Lib.hid (kf.next hb)
      have HKX := Lib.hid (kx.next hb)
      clear hrL hb hbU kf kx
      obtain ⟨x0, x1, x2, x3, x4⟩ := Ls.box5 HKX.out
      obtain ⟨f0, f1⟩ := box2 HKF.out
      have lx := HKX.out.lt
      go_wp2_with fail
      obtain ⟨U2, hU2⟩ : ∃ Zz, Zz = V1.alloc (.cells #[.int .i64 x.n, .int .i64 x.c, .int .i64 x.a, .int .i64 x.f, .int .i64 x.t] 26) := ⟨_, rfl⟩
      have hbU2 : Below V1.heap.size V1 U2 := by rw [hU2]; exact al1 _ _
      have ky : Bk U2 V1.heap.size 26 #[.int .i64 x.n, .int .i64 x.c, .int .i64 x.a, .int .i64 x.f, .int .i64 x.t] := by rw [hU2]; exact Bk.new _ _ _
      rw [← hU2]
      clear hU2
      clear x0 x1 x2 x3 x4 f0 f1 lx
      refine (Ls.Valid_lit false [x] _ 1 _ HO.out (RdL.of_bk (l := [x]) ky ky.lt) (by simp)).mono ?_
      rintro e V2 ⟨rfl, hb⟩
      have hB := bt hb hbU2
      replace HRL := Lib.hid (HRL.out.next hB)
      replace HKF := Lib.hid (HKF.out.next hB)
      replace HKX := Lib.hid (HKX.out.next hB)
      replace HB := Lib.hid (bt hB HB.out)
      clear hb hbU2 ky hB
      go_wp2
      go_ret2
      exact ⟨.slice none 0 0, [], rfl, Ms.nil _ _ _, rfl, HB.out⟩
  · obtain ⟨e1, e2⟩ := sto_far (x := x) (tick := tick) h0
    rw [e1, e2]
    obtain ⟨E, hEE⟩ : ∃ E, E = loadE m := ⟨_, rfl⟩
    rw [← hEE]
    have q0 : (E != 0) = true := by rw [hEE]; simpa using h0
    have HE : Hid (loadE m = E) := hEE.symm
    clear e1 e2 h0 hL hEE
    go_enter Tryd.func11, Tryd.ntmps11
    go_wp2_with fail
    obtain ⟨U, hU⟩ : ∃ Zz, Zz = ((w.alloc (.cells #[.int .i64 m.1, .slice A m.2.length c] 24)).alloc (.cells #[.int .i64 x.n, .int .i64 x.c, .int .i64 x.a, .int .i64 x.f, .int .i64 x.t] 26)) := ⟨_, rfl⟩
    have hbU : Below w.heap.size w U := by rw [hU]; exact al2 _ _ _
    have kf : Bk U w.heap.size 24 #[.int .i64 m.1, .slice A m.2.length c] := by rw [hU]; exact (Bk.new _ _ _).alloc _
    have kx : Bk U (w.heap.size + 1) 26 #[.int .i64 x.n, .int .i64 x.c, .int .i64 x.a, .int .i64 x.f, .int .i64 x.t] := by rw [hU]; exact bkOf (by simp [at?_alloc])
    rw [← hU]
    clear hU
    refine (Load_lit L E m A c _ HL.out.symm HE.out (HA.out.next hbU) hc (HW.out.next hbU)).mono ?_
    rintro e V1 ⟨AL, cL, rfl, hcL, hrL, hb⟩
    have HRL := Lib.hid hrL
    have HB := Lib.hid (bt hb hbU)
    have HKF := Lib.hid (kf.next hb)
    have HKX := Lib.hid (kx.next hb)
    clear hrL hb hbU kf kx
    go_wp2
    go_ret2
    exact ⟨.slice none 0 0, [], rfl, Ms.nil _ _ _, rfl, HB.out⟩
end Go.Proofs.YtcnhmgcingmphaaDoor
