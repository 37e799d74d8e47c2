/- vault: Next, Format, Store. -/
import Derived.Test.YthebojaminploaaGreatDoorKVc
import Derived.Test.YthebojaminploaaGreatDoorKVD
import Derived.Test.YthebojaminploaaGreatDoorKJN
import Derived.BigQuiet
set_option maxRecDepth 100000
set_option linter.unusedVariables false
set_option linter.unusedSimpArgs false
namespace Go.Proofs.YthebojaminploaaGreatDoor
open Go.RowKit Go.Sort Go.Shelf

theorem Load_lit (L : List Lea) (E : Int) (m : Mem) (A : Option Addr) (c : Nat) (w : World) (hL : loadL m = L) (hE : loadE m = E) (hA : RdB w w.heap.size A m.2) (hc : m.2.length ≤ c) (hW : Wd w) :
    Calls Tryz.prog 7 #[.agg #[.int .i64 m.1, .slice A m.2.length c]] w (Ls.LPost w L E) := by
  have h := vLoad_any m A c w hA hc hW
  rwa [hL, hE] at h
theorem rdB_set {w : World} {B : Nat} {A : Option Addr} {bs : List UInt8} {p : Addr} {v u : Value} (h : RdB w B A bs) (hp : w.cell? p = some v) (hv : ∀ z, v ≠ .int .u8 z) : RdB (w.setCell p u) B A bs :=
  ⟨h.1, fun hn => by
    obtain ⟨b, o, e, hb, hc⟩ := h.2 hn
    refine ⟨b, o, e, hb, fun j x hx => ?_⟩
    have h1 := hc j x hx
    rw [World.cell?_setCell_other w p _ u (fun e => ?_)]
    · exact h1
    · rw [← e, hp] at h1
      rw [u8s, List.getElem?_map, Option.map_eq_some_iff] at hx
      obtain ⟨y, _, rfl⟩ := hx
      injection h1 with h1
      exact hv _ h1⟩
theorem load_none {m : Mem} (h : loadE m ≠ 0) : loadL m = [] := by unfold loadL; rw [if_neg h]
theorem vlB_single (x : Lea) : vlB [x] = oneB x := by
  by_cases h : oneB x = true
  · rw [h]
    have := vlB_snoc (l := []) (x := x) (by decide) h (fun h => absurd h (by simp)) (by simp)
    simpa using this
  · have h : oneB x = false := by simpa using h
    rw [h]
    refine Bool.eq_false_iff.2 fun hv => ?_
    rw [vlB_one hv (by simp : x ∈ [x])] at h
    cases h
theorem sto_far {m : Mem} {x : Lea} {tick : Int} (h : loadE m ≠ 0) : stoE m x tick = loadE m ∧ stoM m x tick = [] := by
  have : stoE m x tick = loadE m := by unfold stoE; rw [if_neg h]
  exact ⟨this, sto_bad (by rw [this]; exact h)⟩
theorem sto_no {m : Mem} {x : Lea} {tick : Int} (h : loadE m = 0) (ha : argB x tick = false) : stoE m x tick = 1 ∧ stoM m x tick = [] := by
  have : stoE m x tick = 1 := by unfold stoE; rw [if_pos h, ha]; rfl
  exact ⟨this, sto_bad (by rw [this]; decide)⟩
theorem sto_old {m : Mem} {x : Lea} {tick : Int} (h : loadE m = 0) (ha : argB x tick = true) (ho : oldB (loadL m) x = true) : stoE m x tick = 12 ∧ stoM m x tick = [] := by
  have : stoE m x tick = 12 := by unfold stoE; rw [if_pos h, if_pos ha, if_pos ho]
  exact ⟨this, sto_bad (by rw [this]; decide)⟩
theorem sto_app {m : Mem} {x : Lea} {tick : Int} (h : loadE m = 0) (ha : argB x tick = true) (ho : oldB (loadL m) x = false) (h10 : appE m (packL x) ≠ 10) : stoE m x tick = appE m (packL x) ∧ stoM m x tick = appM m (packL x) := by
  have e : stoE m x tick = appE m (packL x) := by unfold stoE; rw [if_pos h, if_pos ha, ho, if_neg (by simp), if_neg h10]
  refine ⟨e, ?_⟩
  by_cases h0 : appE m (packL x) = 0
  · unfold stoM; rw [if_pos (by rw [e]; exact h0), if_neg h10]
  · rw [sto_bad (by rw [e]; exact h0), appM_bad h0]
theorem sto_rew {m : Mem} {x : Lea} {tick : Int} (h : loadE m = 0) (ha : argB x tick = true) (ho : oldB (loadL m) x = false) (h10 : appE m (packL x) = 10) : stoE m x tick = rewE m (keepR m x tick) ∧ stoM m x tick = rewM m (keepR m x tick) := by
  have e : stoE m x tick = rewE m (keepR m x tick) := by unfold stoE; rw [if_pos h, if_pos ha, ho, if_neg (by simp), if_pos h10]
  refine ⟨e, ?_⟩
  by_cases h0 : rewE m (keepR m x tick) = 0
  · unfold stoM; rw [if_pos (by rw [e]; exact h0), if_pos h10]
  · rw [sto_bad (by rw [e]; exact h0), rewM_bad h0]
theorem keepR_small {m : Mem} (h : loadE m = 0) (x : Lea) (tick : Int) : (keepR m x tick).length ≤ 10000 ∧ ∀ d ∈ keepR m x tick, d.length ≤ 9223372036854775807 := by
  obtain ⟨_, _, _, _, h5⟩ := load_ok h
  have h1 := (kept_sub h5 tick).1.length_le
  have h2 := (load_len h).2
  refine ⟨by simp [keepR]; omega, fun d hd => ?_⟩
  obtain ⟨y, _, rfl⟩ := List.mem_map.1 hd
  rw [packL_length]; omega
set_option maxHeartbeats 1000000 in
theorem Next_any (m : Mem) (A : Option Addr) (c : Nat) (w : World) (hA : RdB w w.heap.size A m.2) (hc : m.2.length ≤ c) (hW : Wd w) :
    Calls Tryz.prog 9 #[.agg #[.int .i64 m.1, .slice A m.2.length c]] w fun e w' => e = .returned (.tuple #[.int .i64 (nextN m), .int .i64 (nextE m)]) ∧ Below w.heap.size w w' := by
  have HA := Lib.hid hA
  have HW := Lib.hid hW
  clear hA hW
  obtain ⟨L, hL⟩ : ∃ L, L = loadL m := ⟨_, rfl⟩
  have HL := Lib.hid hL
  by_cases h0 : loadE m = 0
  · by_cases h1 : L.length = 0
    · have HE := Lib.hid h0
      have e1 : nextE m = 0 := by unfold nextE; rw [if_pos h0, if_pos (by rw [← hL]; exact List.eq_nil_of_length_eq_zero h1)]
      have e2 : nextN m = 1 := by unfold nextN; rw [if_pos h0, if_pos (by rw [← hL]; exact List.eq_nil_of_length_eq_zero h1)]
      have q1 : ((L.length : Int) == 0) = true := by simp [h1]
      clear h0 h1 hL
      rw [e1, e2]
      clear e1 e2
      go_enter Tryz.func9, Tryz.ntmps9
      go_wp2_with fail
      refine (Load_lit L 0 m A c _ HL.out.symm HE.out (HA.out.next (al1 _ _)) hc (HW.out.next (al1 _ _))).mono ?_
      rintro e V1 ⟨AL, cL, rfl, hcL, hrL, hb⟩
      have HRL := Lib.hid hrL
      have HB := Lib.hid (bt hb (al1 w _))
      clear hrL hb
      go_wp2
      go_ret2
      exact ⟨rfl, HB.out⟩
    · by_cases h2 : (lastL L).n = 1000000
      · have HE := Lib.hid h0
        have e1 : nextE m = 10 := by unfold nextE; rw [if_pos h0, if_neg (by rw [← hL]; intro e; rw [e] at h1; simp at h1), ← hL, if_pos h2]
        have e2 : nextN m = 0 := by unfold nextN; rw [if_pos h0, if_neg (by rw [← hL]; intro e; rw [e] at h1; simp at h1), ← hL, if_pos h2]
        have q1 : ((L.length : Int) == 0) = false := by rw [beq_eq_false_iff_ne]; omega
        have H2 := Lib.hid h2
        have hLn : L.length ≤ 64 := by rw [hL]; have := (load_len h0).2; omega
        clear h0 hL h2
        rw [e1, e2]
        clear e1 e2
        go_enter Tryz.func9, Tryz.ntmps9
        go_wp2_with fail
        refine (Load_lit L 0 m A c _ HL.out.symm HE.out (HA.out.next (al1 _ _)) hc (HW.out.next (al1 _ _))).mono ?_
        rintro e V1 ⟨AL, cL, rfl, hcL, hrL, hb⟩
        have HRL := Lib.hid hrL
        have HB := Lib.hid (bt hb (al1 w _))
        clear hrL hb
        obtain ⟨bk, ok, rfl, _, z0, z1, z2, z3, z4⟩ := HRL.out.at_ (i := L.length - 1) (by omega)
        obtain ⟨y, hy⟩ : ∃ y, y = lastL L := ⟨_, rfl⟩
        rw [← getD_of (by omega : L.length - 1 < L.length), show L.getD (L.length - 1) l0 = y from hy.symm] at z0 z1 z2 z3 z4
        obtain ⟨k, hk⟩ : ∃ k, k = L.length - 1 := ⟨_, rfl⟩
        rw [← hk] at z0 z1 z2 z3 z4
        have j0k : (L.length : Int) - 1 = (k : Int) := by omega
        have j1k : (0 : Int) ≤ (k : Int) := by omega
        have j2k : (k : Int) < (L.length : Int) := by omega
        have j3k : IntKind.i64.wrap ((L.length : Int) - 1) = (k : Int) := by rw [IntWalk.i64_in _ (by omega)]; omega
        have Hy := Lib.hid hy
        clear hk hy
        have q2 : (y.n == 1000000) = true := by rw [Hy.out, H2.out]; rfl
        go_wp2
        go_ret2
        exact ⟨rfl, HB.out⟩
      · have HE := Lib.hid h0
        have e1 : nextE m = 0 := by unfold nextE; rw [if_pos h0, if_neg (by rw [← hL]; intro e; rw [e] at h1; simp at h1), ← hL, if_neg h2]
        have e2 : nextN m = (lastL L).n + 1 := by unfold nextN; rw [if_pos h0, if_neg (by rw [← hL]; intro e; rw [e] at h1; simp at h1), ← hL, if_neg h2]
        have q1 : ((L.length : Int) == 0) = false := by rw [beq_eq_false_iff_ne]; omega
        have H2 := Lib.hid h2
        have hLn : L.length ≤ 64 := by rw [hL]; have := (load_len h0).2; omega
        have hmr := (oneB_iff _).1 (vlB_one (load_ok h0).2.2.2.2 (lastL_mem (l := loadL m) (by rw [← hL]; intro e; rw [e] at h1; simp at h1)))
        rw [← hL] at hmr
        clear h0 hL h2
        rw [e1, e2]
        clear e1 e2
        obtain ⟨y', hy'⟩ : ∃ y', y' = lastL L := ⟨_, rfl⟩
        rw [← hy'] at hmr ⊢
        have HY' := Lib.hid hy'
        obtain ⟨n1, n2, _⟩ := hmr
        clear hy'
        go_enter Tryz.func9, Tryz.ntmps9
        go_wp2_with fail
        refine (Load_lit L 0 m A c _ HL.out.symm HE.out (HA.out.next (al1 _ _)) hc (HW.out.next (al1 _ _))).mono ?_
        rintro e V1 ⟨AL, cL, rfl, hcL, hrL, hb⟩
        have HRL := Lib.hid hrL
        have HB := Lib.hid (bt hb (al1 w _))
        clear hrL hb
        obtain ⟨bk, ok, rfl, _, z0, z1, z2, z3, z4⟩ := HRL.out.at_ (i := L.length - 1) (by omega)
        obtain ⟨y, hy⟩ : ∃ y, y = lastL L := ⟨_, rfl⟩
        rw [← getD_of (by omega : L.length - 1 < L.length), show L.getD (L.length - 1) l0 = y from hy.symm] at z0 z1 z2 z3 z4
        obtain ⟨k, hk⟩ : ∃ k, k = L.length - 1 := ⟨_, rfl⟩
        rw [← hk] at z0 z1 z2 z3 z4
        have j0k : (L.length : Int) - 1 = (k : Int) := by omega
        have j1k : (0 : Int) ≤ (k : Int) := by omega
        have j2k : (k : Int) < (L.length : Int) := by omega
        have j3k : IntKind.i64.wrap ((L.length : Int) - 1) = (k : Int) := by rw [IntWalk.i64_in _ (by omega)]; omega
        have Hy := Lib.hid hy
        clear hk hy
        have q2 : (y.n == 1000000) = false := by rw [Hy.out, beq_eq_false_iff_ne]; exact H2.out
        obtain rfl : y = y' := by rw [Hy.out, HY'.out]
        go_wp2
        go_ret2
        exact ⟨rfl, HB.out⟩
  · have HE := Lib.hid (rfl : loadE m = loadE m)
    have e1 : nextE m = loadE m := by unfold nextE; rw [if_neg h0]
    have e2 : nextN m = 0 := by unfold nextN; rw [if_neg h0]
    rw [e1, e2]
    obtain ⟨E, hEE⟩ : ∃ E, E = loadE m := ⟨_, rfl⟩
    rw [← hEE] at HE ⊢
    have q0 : (E != 0) = true := by rw [hEE]; simpa using h0
    have HE2 := Lib.hid hEE
    clear e1 e2 h0 hL hEE HE
    have HE : Hid (loadE m = E) := HE2.out.symm
    go_enter Tryz.func9, Tryz.ntmps9
    go_wp2_with fail
    refine (Load_lit L E m A c _ HL.out.symm HE.out (HA.out.next (al1 _ _)) hc (HW.out.next (al1 _ _))).mono ?_
    rintro e V1 ⟨AL, cL, rfl, hcL, hrL, hb⟩
    have HRL := Lib.hid hrL
    have HB := Lib.hid (bt hb (al1 w _))
    clear hrL hb
    go_wp2
    go_ret2
    exact ⟨rfl, HB.out⟩
set_option maxHeartbeats 1000000 in
theorem vFormat_any (w : World) :
    Calls Tryz.prog 11 #[] w (fmtPost 512 4 w) := by
  go_enter Tryz.func11, Tryz.ntmps11
  go_wp2_with fail
  obtain ⟨U, hU⟩ : ∃ Zz, Zz = w.alloc (.cells #[.int .i64 0, .slice none 0 0] 24) := ⟨_, rfl⟩
  have hbU : Below w.heap.size w U := by rw [hU]; exact al1 _ _
  have kx : Bk U w.heap.size 24 #[.int .i64 0, .slice none 0 0] := by rw [hU]; exact Bk.new _ _ _
  rw [← hU]
  clear hU
  refine (Format_any 512 4 _ (by omega) (by omega) (by omega) (by omega)).mono ?_
  rintro e V1 ⟨A0, c0, rfl, hc0, r0, hb⟩
  have k1 := kx.next hb
  have HK := Lib.hid k1
  have HR := Lib.hid r0
  have HB := Lib.hid (bt hb hbU)
  obtain ⟨M, hM⟩ : ∃ M, M = fmtM 512 4 := ⟨_, rfl⟩
  obtain ⟨E, hE⟩ : ∃ E, E = fmtE 512 4 := ⟨_, rfl⟩
  rw [← hM, ← hE]
  rw [← hM] at HR hc0
  have HM := Lib.hid hM
  have HE := Lib.hid hE
  obtain ⟨c10, c11⟩ := box2 k1
  have f0 := k1.frozen 0
  have f1 := k1.frozen 1
  have l1 := k1.lt
  clear hM hE kx k1 hb hbU r0
  go_wp2
  obtain ⟨X, hX⟩ : ∃ Zz, Zz = (V1.setCell ⟨w.heap.size, 0, none⟩ (.int .i64 M.1)).setCell ⟨w.heap.size, 1, none⟩ (.slice A0 M.2.length c0) := ⟨_, rfl⟩
  rw [← hX]
  have kX : Bk X w.heap.size 24 #[.int .i64 M.1, .slice A0 M.2.length c0] := by rw [hX]; simpa using (HK.out.set 0 (.int .i64 M.1)).set 1 (.slice A0 M.2.length c0)
  have hbX : Below w.heap.size w X := by rw [hX]; exact (HB.out.setCell (p := ⟨w.heap.size, 0, none⟩) (Nat.le_refl _) _).setCell (p := ⟨w.heap.size, 1, none⟩) (Nat.le_refl _) _
  have hrX : RdB X X.heap.size A0 M.2 := by
    have e : X.heap.size = V1.heap.size := by rw [hX]; simp [World.setCell]
    rw [e, hX]
    exact rdB_set (v := .slice none 0 0) (rdB_set HR.out c10 (fun z h => by cases h)) (by rw [World.cell?_setCell_other _ _ _ _ (by simp)]; exact c11) (fun z h => by cases h)
  obtain ⟨u0, u1⟩ := box2 kX
  clear hX c10 c11 f0 f1
  exact bodyPost_ret (v := .tuple #[.agg #[.int .i64 M.1, .slice A0 M.2.length c0], .int .i64 E]) (by simp [results, Tryz.results11, go_sem, u0, u1]) rfl (by unfold fmtPost; rw [← HM.out, ← HE.out]; exact ⟨A0, c0, rfl, hc0, hrX, hbX⟩)
set_option maxHeartbeats 8000000 in
theorem vStore_any (m : Mem) (x : Lea) (tick : Int) (A : Option Addr) (c : Nat) (w : World) (hA : RdB w w.heap.size A m.2) (hc : m.2.length ≤ c) (hW : Wd w) :
    Calls Tryz.prog 5 #[.agg #[.int .i64 m.1, .slice A m.2.length c], .agg #[.int .i64 x.n, .int .i64 x.c, .int .i64 x.a, .int .i64 x.f, .int .i64 x.t], .int .i64 tick] w (ListPost w (stoM m x tick) (stoE m x tick)) := by
  have HA := Lib.hid hA
  have HW := Lib.hid hW
  clear hA hW
  obtain ⟨L, hL⟩ : ∃ L, L = loadL m := ⟨_, rfl⟩
  have HL := Lib.hid hL
  by_cases h0 : loadE m = 0
  · have q0 : ((0 : Int) != 0) = false := rfl
    have hLn : L.length ≤ 64 := by rw [hL]; have := (load_len h0).2; omega
    have HE := Lib.hid h0
    by_cases ho : oneB x = true
    · by_cases ht1 : tick < 0
      · have ha : argB x tick = false := by simp [argB]; intro _ _; omega
        obtain ⟨e1, e2⟩ := sto_no h0 ha
        rw [e1, e2]
        have HO : Hid (vlB [x] = true) := by show _ = _; rw [vlB_single]; exact ho
        clear e1 e2 h0 hL ha ho
        have t1 : tick < 0 := ht1
        go_enter Tryz.func5, Tryz.ntmps5
        go_wp2_with fail
        obtain ⟨U, hU⟩ : ∃ Zz, Zz = ((w.alloc (.cells #[.int .i64 m.1, .slice A m.2.length c] 24)).alloc (.cells #[.int .i64 x.n, .int .i64 x.c, .int .i64 x.a, .int .i64 x.f, .int .i64 x.t] 26)) := ⟨_, rfl⟩
        have hbU : Below w.heap.size w U := by rw [hU]; exact al2 _ _ _
        have kf : Bk U w.heap.size 24 #[.int .i64 m.1, .slice A m.2.length c] := by rw [hU]; exact (Bk.new _ _ _).alloc _
        have kx : Bk U (w.heap.size + 1) 26 #[.int .i64 x.n, .int .i64 x.c, .int .i64 x.a, .int .i64 x.f, .int .i64 x.t] := by rw [hU]; exact bkOf (by simp [at?_alloc])
        rw [← hU]
        clear hU
        refine (Load_lit L 0 m A c _ HL.out.symm HE.out (HA.out.next hbU) hc (HW.out.next hbU)).mono ?_
        rintro e V1 ⟨AL, cL, rfl, hcL, hrL, hb⟩
        have HRL := Lib.hid hrL
        have HB := Lib.hid (bt hb hbU)
        have HKF := Lib.hid (kf.next hb)
        have HKX := Lib.hid (kx.next hb)
        clear hrL hb hbU kf kx
        obtain ⟨x0, x1, x2, x3, x4⟩ := Ls.box5 HKX.out
        obtain ⟨f0, f1⟩ := box2 HKF.out
        have lx := HKX.out.lt
        go_wp2_with fail
        obtain ⟨U2, hU2⟩ : ∃ Zz, Zz = V1.alloc (.cells #[.int .i64 x.n, .int .i64 x.c, .int .i64 x.a, .int .i64 x.f, .int .i64 x.t] 26) := ⟨_, rfl⟩
        have hbU2 : Below V1.heap.size V1 U2 := by rw [hU2]; exact al1 _ _
        have ky : Bk U2 V1.heap.size 26 #[.int .i64 x.n, .int .i64 x.c, .int .i64 x.a, .int .i64 x.f, .int .i64 x.t] := by rw [hU2]; exact Bk.new _ _ _
        rw [← hU2]
        clear hU2
        clear x0 x1 x2 x3 x4 f0 f1 lx
        refine (Ls.Valid_lit true [x] _ 1 _ HO.out (RdL.of_bk (l := [x]) ky ky.lt) (by simp)).mono ?_
        rintro e V2 ⟨rfl, hb⟩
        have hB := bt hb hbU2
        replace HRL := Lib.hid (HRL.out.next hB)
        replace HKF := Lib.hid (HKF.out.next hB)
        replace HKX := Lib.hid (HKX.out.next hB)
        replace HB := Lib.hid (bt hB HB.out)
        clear hb hbU2 ky hB
        go_wp2
        go_ret2
        exact ⟨none, 0, rfl, Nat.le_refl _, RdFs.nil, HB.out⟩
      · by_cases ht2 : 1100000 < tick
        · have ha : argB x tick = false := by simp [argB]; intro _ _; omega
          obtain ⟨e1, e2⟩ := sto_no h0 ha
          rw [e1, e2]
          have HO : Hid (vlB [x] = true) := by show _ = _; rw [vlB_single]; exact ho
          clear e1 e2 h0 hL ha ho
          have t1 : ¬ tick < 0 := ht1
          have t2 : 1100000 < tick := ht2
          go_enter Tryz.func5, Tryz.ntmps5
          go_wp2_with fail
          obtain ⟨U, hU⟩ : ∃ Zz, Zz = ((w.alloc (.cells #[.int .i64 m.1, .slice A m.2.length c] 24)).alloc (.cells #[.int .i64 x.n, .int .i64 x.c, .int .i64 x.a, .int .i64 x.f, .int .i64 x.t] 26)) := ⟨_, rfl⟩
          have hbU : Below w.heap.size w U := by rw [hU]; exact al2 _ _ _
          have kf : Bk U w.heap.size 24 #[.int .i64 m.1, .slice A m.2.length c] := by rw [hU]; exact (Bk.new _ _ _).alloc _
          have kx : Bk U (w.heap.size + 1) 26 #[.int .i64 x.n, .int .i64 x.c, .int .i64 x.a, .int .i64 x.f, .int .i64 x.t] := by rw [hU]; exact bkOf (by simp [at?_alloc])
          rw [← hU]
          clear hU
          refine (Load_lit L 0 m A c _ HL.out.symm HE.out (HA.out.next hbU) hc (HW.out.next hbU)).mono ?_
          rintro e V1 ⟨AL, cL, rfl, hcL, hrL, hb⟩
          have HRL := Lib.hid hrL
          have HB := Lib.hid (bt hb hbU)
          have HKF := Lib.hid (kf.next hb)
          have HKX := Lib.hid (kx.next hb)
          clear hrL hb hbU kf kx
          obtain ⟨x0, x1, x2, x3, x4⟩ := Ls.box5 HKX.out
          obtain ⟨f0, f1⟩ := box2 HKF.out
          have lx := HKX.out.lt
          go_wp2_with fail
          obtain ⟨U2, hU2⟩ : ∃ Zz, Zz = V1.alloc (.cells #[.int .i64 x.n, .int .i64 x.c, .int .i64 x.a, .int .i64 x.f, .int .i64 x.t] 26) := ⟨_, rfl⟩
          have hbU2 : Below V1.heap.size V1 U2 := by rw [hU2]; exact al1 _ _
          have ky : Bk U2 V1.heap.size 26 #[.int .i64 x.n, .int .i64 x.c, .int .i64 x.a, .int .i64 x.f, .int .i64 x.t] := by rw [hU2]; exact Bk.new _ _ _
          rw [← hU2]
          clear hU2
          clear x0 x1 x2 x3 x4 f0 f1 lx
          refine (Ls.Valid_lit true [x] _ 1 _ HO.out (RdL.of_bk (l := [x]) ky ky.lt) (by simp)).mono ?_
          rintro e V2 ⟨rfl, hb⟩
          have hB := bt hb hbU2
          replace HRL := Lib.hid (HRL.out.next hB)
          replace HKF := Lib.hid (HKF.out.next hB)
          replace HKX := Lib.hid (HKX.out.next hB)
          replace HB := Lib.hid (bt hB HB.out)
          clear hb hbU2 ky hB
          go_wp2
          go_ret2
          exact ⟨none, 0, rfl, Nat.le_refl _, RdFs.nil, HB.out⟩
        · have ha : argB x tick = true := by simp [argB, ho]; omega
          have HO : Hid (vlB [x] = true) := by show _ = _; rw [vlB_single]; exact ho
          have HX := Lib.hid ho
          have t1 : ¬ tick < 0 := by omega
          have t2 : ¬ 1100000 < tick := by omega
          by_cases hlp : 0 < L.length
          · by_cases hold : oldB L x = true
            · obtain ⟨e1, e2⟩ := sto_old h0 ha (hL ▸ hold)
              rw [e1, e2]
              clear e1 e2 ha hL h0 ho
              rw [oldB, decide_eq_true hlp, Bool.true_and] at hold
              have hff : folB (lastL L) x = false := by simpa using hold
              have HFF := Lib.hid hff
              clear hold hff
              go_enter Tryz.func5, Tryz.ntmps5
              go_wp2_with fail
              obtain ⟨U, hU⟩ : ∃ Zz, Zz = ((w.alloc (.cells #[.int .i64 m.1, .slice A m.2.length c] 24)).alloc (.cells #[.int .i64 x.n, .int .i64 x.c, .int .i64 x.a, .int .i64 x.f, .int .i64 x.t] 26)) := ⟨_, rfl⟩
              have hbU : Below w.heap.size w U := by rw [hU]; exact al2 _ _ _
              have kf : Bk U w.heap.size 24 #[.int .i64 m.1, .slice A m.2.length c] := by rw [hU]; exact (Bk.new _ _ _).alloc _
              have kx : Bk U (w.heap.size + 1) 26 #[.int .i64 x.n, .int .i64 x.c, .int .i64 x.a, .int .i64 x.f, .int .i64 x.t] := by rw [hU]; exact bkOf (by simp [at?_alloc])
              rw [← hU]
              clear hU
              refine (Load_lit L 0 m A c _ HL.out.symm HE.out (HA.out.next hbU) hc (HW.out.next hbU)).mono ?_
              rintro e V1 ⟨AL, cL, rfl, hcL, hrL, hb⟩
              have HRL := Lib.hid hrL
              have HB := Lib.hid (bt hb hbU)
              have HKF := Lib.hid (kf.next hb)
              have HKX := Lib.hid (kx.next hb)
              clear hrL hb hbU kf kx
              obtain ⟨x0, x1, x2, x3, x4⟩ := Ls.box5 HKX.out
              obtain ⟨f0, f1⟩ := box2 HKF.out
              have lx := HKX.out.lt
              go_wp2_with fail
              obtain ⟨U2, hU2⟩ : ∃ Zz, Zz = V1.alloc (.cells #[.int .i64 x.n, .int .i64 x.c, .int .i64 x.a, .int .i64 x.f, .int .i64 x.t] 26) := ⟨_, rfl⟩
              have hbU2 : Below V1.heap.size V1 U2 := by rw [hU2]; exact al1 _ _
              have ky : Bk U2 V1.heap.size 26 #[.int .i64 x.n, .int .i64 x.c, .int .i64 x.a, .int .i64 x.f, .int .i64 x.t] := by rw [hU2]; exact Bk.new _ _ _
              rw [← hU2]
              clear hU2
              clear x0 x1 x2 x3 x4 f0 f1 lx
              refine (Ls.Valid_lit true [x] _ 1 _ HO.out (RdL.of_bk (l := [x]) ky ky.lt) (by simp)).mono ?_
              rintro e V2 ⟨rfl, hb⟩
              have hB := bt hb hbU2
              replace HRL := Lib.hid (HRL.out.next hB)
              replace HKF := Lib.hid (HKF.out.next hB)
              replace HKX := Lib.hid (HKX.out.next hB)
              replace HB := Lib.hid (bt hB HB.out)
              clear hb hbU2 ky hB
              have j4 : decide ((0 : Int) < (L.length : Int)) = true := by simp; omega
              have j6 : decide (0 < L.length) = true := by simp; omega
              obtain ⟨bk, ok, rfl, _, z0, z1, z2, z3, z4⟩ := HRL.out.at_ (i := L.length - 1) (by omega)
              obtain ⟨y, hy⟩ : ∃ y, y = lastL L := ⟨_, rfl⟩
              rw [← getD_of (by omega : L.length - 1 < L.length), show L.getD (L.length - 1) l0 = y from hy.symm] at z0 z1 z2 z3 z4
              obtain ⟨k, hk⟩ : ∃ k, k = L.length - 1 := ⟨_, rfl⟩
              rw [← hk] at z0 z1 z2 z3 z4
              have j0k : (L.length : Int) - 1 = (k : Int) := by omega
              have j1k : (0 : Int) ≤ (k : Int) := by omega
              have j2k : (k : Int) < (L.length : Int) := by omega
              have j3k : IntKind.i64.wrap ((L.length : Int) - 1) = (k : Int) := by rw [IntWalk.i64_in _ (by omega)]; omega
              have Hy := Lib.hid hy
              clear hk hy
              have hdec : ¬ (y.n < x.n ∧ y.f ≤ x.f) := by have := HFF.out; rw [← Hy.out] at this; simpa [folB] using this
              obtain ⟨x0, x1, x2, x3, x4⟩ := Ls.box5 HKX.out
              obtain ⟨f0, f1⟩ := box2 HKF.out
              have lx := HKX.out.lt
              by_cases hq : x.n ≤ y.n
              · have d1 : decide (x.n ≤ y.n) = true := by simpa using hq
                clear hdec
                go_wp2
                go_quiet (fail)
                obtain ⟨V3, hV3⟩ : ∃ Zz, Zz = V2.drewN nq := ⟨_, rfl⟩
                have hb3 : Below V2.heap.size V2 V3 := by rw [hV3]; exact belowDrew (Below.refl _ _) _
                rw [← hV3]
                clear hV3
                clear x0 x1 x2 x3 x4 f0 f1 lx
                replace HRL := Lib.hid (HRL.out.next hb3)
                replace HKF := Lib.hid (HKF.out.next hb3)
                replace HKX := Lib.hid (HKX.out.next hb3)
                replace HB := Lib.hid (bt hb3 HB.out)
                clear hb3
                go_wp2
                go_ret2
                exact ⟨none, 0, rfl, Nat.le_refl _, RdFs.nil, HB.out⟩
              · have d1 : decide (x.n ≤ y.n) = false := by simpa using hq
                have d2 : decide (x.f < y.f) = true := by simp; omega
                clear hdec hq
                go_wp2
                go_quiet (fail)
                obtain ⟨V3, hV3⟩ : ∃ Zz, Zz = V2.drewN nq := ⟨_, rfl⟩
                have hb3 : Below V2.heap.size V2 V3 := by rw [hV3]; exact belowDrew (Below.refl _ _) _
                rw [← hV3]
                clear hV3
                clear x0 x1 x2 x3 x4 f0 f1 lx
                replace HRL := Lib.hid (HRL.out.next hb3)
                replace HKF := Lib.hid (HKF.out.next hb3)
                replace HKX := Lib.hid (HKX.out.next hb3)
                replace HB := Lib.hid (bt hb3 HB.out)
                clear hb3
                go_wp2
                go_ret2
                exact ⟨none, 0, rfl, Nat.le_refl _, RdFs.nil, HB.out⟩
            · have hold : oldB L x = false := by simpa using hold
              have HFF : Hid (folB (lastL L) x = true) := by show _ = _; rw [oldB, decide_eq_true hlp, Bool.true_and] at hold; simpa using hold
              by_cases h10 : appE m (packL x) = 10
              · obtain ⟨e1, e2⟩ := sto_rew h0 ha (hL ▸ hold) h10
                obtain ⟨s1, s2⟩ := keepR_small h0 x tick
                obtain ⟨RM, hRM⟩ : ∃ RM, RM = rewM m (keepR m x tick) := ⟨_, rfl⟩
                obtain ⟨RE, hRE⟩ : ∃ RE, RE = rewE m (keepR m x tick) := ⟨_, rfl⟩
                rw [e1, e2, ← hRM, ← hRE]
                have HRMd := Lib.hid hRM
                have HREd := Lib.hid hRE
                have HS2 := Lib.hid s2
                have HKR : Hid (keepR m x tick = (keptL L tick ++ [x]).map packL) := by show _ = _; rw [keepR, ← hL]
                have HVL : Hid (vlB L = true) := by show _ = _; rw [hL]; exact (load_ok h0).2.2.2.2
                obtain ⟨rs, hrs⟩ : ∃ rs, rs = keepR m x tick := ⟨_, rfl⟩
                rw [← hrs] at s1
                have HRSd := Lib.hid hrs
                obtain ⟨AM, hAM⟩ : ∃ AM, AM = appM m (packL x) := ⟨_, rfl⟩
                obtain ⟨AE, hAE⟩ : ∃ AE, AE = appE m (packL x) := ⟨_, rfl⟩
                have HAMd := Lib.hid hAM
                have HAEd := Lib.hid hAE
                rw [h10] at hAE
                subst hAE
                have HAEd' : Hid (10 = appE m (packL x)) := h10.symm
                clear e1 e2 ha hL h0 ho h10 hAM hRM hRE s2 hrs
                go_enter Tryz.func5, Tryz.ntmps5
                go_wp2_with fail
                obtain ⟨U, hU⟩ : ∃ Zz, Zz = ((w.alloc (.cells #[.int .i64 m.1, .slice A m.2.length c] 24)).alloc (.cells #[.int .i64 x.n, .int .i64 x.c, .int .i64 x.a, .int .i64 x.f, .int .i64 x.t] 26)) := ⟨_, rfl⟩
                have hbU : Below w.heap.size w U := by rw [hU]; exact al2 _ _ _
                have kf : Bk U w.heap.size 24 #[.int .i64 m.1, .slice A m.2.length c] := by rw [hU]; exact (Bk.new _ _ _).alloc _
                have kx : Bk U (w.heap.size + 1) 26 #[.int .i64 x.n, .int .i64 x.c, .int .i64 x.a, .int .i64 x.f, .int .i64 x.t] := by rw [hU]; exact bkOf (by simp [at?_alloc])
                rw [← hU]
                clear hU
                refine (Load_lit L 0 m A c _ HL.out.symm HE.out (HA.out.next hbU) hc (HW.out.next hbU)).mono ?_
                rintro e V1 ⟨AL, cL, rfl, hcL, hrL, hb⟩
                have HRL := Lib.hid hrL
                have HB := Lib.hid (bt hb hbU)
                have HKF := Lib.hid (kf.next hb)
                have HKX := Lib.hid (kx.next hb)
                clear hrL hb hbU kf kx
                obtain ⟨x0, x1, x2, x3, x4⟩ := Ls.box5 HKX.out
                obtain ⟨f0, f1⟩ := box2 HKF.out
                have lx := HKX.out.lt
                go_wp2_with fail
                obtain ⟨U2, hU2⟩ : ∃ Zz, Zz = V1.alloc (.cells #[.int .i64 x.n, .int .i64 x.c, .int .i64 x.a, .int .i64 x.f, .int .i64 x.t] 26) := ⟨_, rfl⟩
                have hbU2 : Below V1.heap.size V1 U2 := by rw [hU2]; exact al1 _ _
                have ky : Bk U2 V1.heap.size 26 #[.int .i64 x.n, .int .i64 x.c, .int .i64 x.a, .int .i64 x.f, .int .i64 x.t] := by rw [hU2]; exact Bk.new _ _ _
                rw [← hU2]
                clear hU2
                clear x0 x1 x2 x3 x4 f0 f1 lx
                refine (Ls.Valid_lit true [x] _ 1 _ HO.out (RdL.of_bk (l := [x]) ky ky.lt) (by simp)).mono ?_
                rintro e V2 ⟨rfl, hb⟩
                have hB := bt hb hbU2
                replace HRL := Lib.hid (HRL.out.next hB)
                replace HKF := Lib.hid (HKF.out.next hB)
                replace HKX := Lib.hid (HKX.out.next hB)
                replace HB := Lib.hid (bt hB HB.out)
                clear hb hbU2 ky hB
                have j4 : decide ((0 : Int) < (L.length : Int)) = true := by simp; omega
                have j6 : decide (0 < L.length) = true := by simp; omega
                obtain ⟨bk, ok, rfl, _, z0, z1, z2, z3, z4⟩ := HRL.out.at_ (i := L.length - 1) (by omega)
                obtain ⟨y, hy⟩ : ∃ y, y = lastL L := ⟨_, rfl⟩
                rw [← getD_of (by omega : L.length - 1 < L.length), show L.getD (L.length - 1) l0 = y from hy.symm] at z0 z1 z2 z3 z4
                obtain ⟨k, hk⟩ : ∃ k, k = L.length - 1 := ⟨_, rfl⟩
                rw [← hk] at z0 z1 z2 z3 z4
                have j0k : (L.length : Int) - 1 = (k : Int) := by omega
                have j1k : (0 : Int) ≤ (k : Int) := by omega
                have j2k : (k : Int) < (L.length : Int) := by omega
                have j3k : IntKind.i64.wrap ((L.length : Int) - 1) = (k : Int) := by rw [IntWalk.i64_in _ (by omega)]; omega
                have Hy := Lib.hid hy
                clear hk hy
                have hdec : y.n < x.n ∧ y.f ≤ x.f := by have := HFF.out; rw [← Hy.out] at this; simpa [folB] using this
                have d1 : decide (x.n ≤ y.n) = false := by simp; omega
                have d2 : decide (x.f < y.f) = false := by simp; omega
                clear hdec
                obtain ⟨x0, x1, x2, x3, x4⟩ := Ls.box5 HKX.out
                obtain ⟨f0, f1⟩ := box2 HKF.out
                have lx := HKX.out.lt
                go_wp2
                go_quiet (fail)
                obtain ⟨V3, hV3⟩ : ∃ Zz, Zz = V2.drewN nq := ⟨_, rfl⟩
                have hb3 : Below V2.heap.size V2 V3 := by rw [hV3]; exact belowDrew (Below.refl _ _) _
                rw [← hV3]
                clear hV3
                clear x0 x1 x2 x3 x4 f0 f1 lx
                replace HRL := Lib.hid (HRL.out.next hb3)
                replace HKF := Lib.hid (HKF.out.next hb3)
                replace HKX := Lib.hid (HKX.out.next hb3)
                replace HB := Lib.hid (bt hb3 HB.out)
                clear hb3
                go_wp2
                refine region_S (fun w' => w'.cell? ⟨w.heap.size, 0, none⟩ = some (.int .i64 m.1) ∧ w'.cell? ⟨w.heap.size, 1, none⟩ = some (.slice A m.2.length c) ∧ w'.cell? ⟨w.heap.size + 1, 0, none⟩ = some (.int .i64 x.n) ∧ w'.cell? ⟨w.heap.size + 1, 1, none⟩ = some (.int .i64 x.c) ∧ w'.cell? ⟨w.heap.size + 1, 2, none⟩ = some (.int .i64 x.a) ∧ w'.cell? ⟨w.heap.size + 1, 3, none⟩ = some (.int .i64 x.f) ∧ w'.cell? ⟨w.heap.size + 1, 4, none⟩ = some (.int .i64 x.t)) 8 (by kernel_rfl) ?_
                obtain ⟨W0, hW0⟩ : ∃ Zz, Zz = V3.drew := ⟨_, rfl⟩
                have hb0 : Below V3.heap.size V3 W0 := by rw [hW0]; exact (Below.refl _ _).drew
                rw [← hW0]
                clear hW0
                have HKS : Hid (∀ w', Below V3.heap.size V3 w' → (w'.cell? ⟨w.heap.size, 0, none⟩ = some (.int .i64 m.1) ∧ w'.cell? ⟨w.heap.size, 1, none⟩ = some (.slice A m.2.length c) ∧ w'.cell? ⟨w.heap.size + 1, 0, none⟩ = some (.int .i64 x.n) ∧ w'.cell? ⟨w.heap.size + 1, 1, none⟩ = some (.int .i64 x.c) ∧ w'.cell? ⟨w.heap.size + 1, 2, none⟩ = some (.int .i64 x.a) ∧ w'.cell? ⟨w.heap.size + 1, 3, none⟩ = some (.int .i64 x.f) ∧ w'.cell? ⟨w.heap.size + 1, 4, none⟩ = some (.int .i64 x.t))) := fun w' hW => ⟨(box2 (HKF.out.next hW)).1, (box2 (HKF.out.next hW)).2, Ls.box5 (HKX.out.next hW)⟩
                have HS0 := HKS.out _ hb0
                refine anyS_take (i := 0) rfl (by kernel_rfl) (by kernel_rfl) (by kernel_rfl) (by kernel_rfl) (fun _ _ _ h => h) (Or.inl ⟨by rfl, fun w' hS' => (by obtain ⟨s1, s2, s3, s4, s5, s6, s7⟩ := hS'; go_simp; try with_reducible rfl)⟩) HS0 ?_
                refine anyS_take (i := 1) rfl (by kernel_rfl) (by kernel_rfl) (by kernel_rfl) (by kernel_rfl) (fun _ _ _ h => h) (Or.inl ⟨by rfl, fun w' hS' => (by obtain ⟨s1, s2, s3, s4, s5, s6, s7⟩ := hS'; go_simp; try with_reducible rfl)⟩) HS0 ?_
                refine anyS_one (i := 2) (by kernel_rfl) rfl rfl (fun K hK => ?_)
                have HPK := Lib.hid (vpack_any x W0 HX.out (HW.out.next (bt hb0 HB.out)))
                go_simp
                refine HPK.out.mono ?_
                rintro e W1 ⟨pv, rfl, hown1, hb1⟩
                obtain ⟨A1, q1, rfl, hq1, hr1⟩ := own_read hown1
                have hB1 := bt hb1 hb0
                go_simp
                refine hK _ _ (fun _ => HKS.out _ hB1) ?_
                clear hK K HPK hown1 HS0
                refine anyS_one (i := 3) (by kernel_rfl) rfl rfl (fun K hK => ?_)
                have HAP := Append_l m (packL x) A A1 c q1 W1 (HA.out.next (bt hB1 HB.out)) hc (by unfold RdB; rw [packL_length]; exact hr1) (by rw [packL_length]; exact hq1) (by rw [packL_length]; omega)
                rw [packL_length] at HAP
                rw [← HAMd.out, ← HAEd.out] at HAP
                have HAPH := Lib.hid HAP
                clear HAP
                go_simp
                refine HAPH.out.mono ?_
                rintro e W2 ⟨A2, c2, rfl, hc2, hr2, hb2⟩
                have hB2 := bt hb2 hB1
                have HS1 := HKS.out _ hB2
                have HR2 := Lib.hid hr2
                go_simp
                refine hK _ _ (fun _ => HS1) ?_
                clear hK K HAPH hr2
                refine anyS_take (i := 4) rfl (by kernel_rfl) (by kernel_rfl) (by kernel_rfl) (by kernel_rfl) (fun _ _ _ h => h) (Or.inl ⟨by rfl, fun w' hS' => (by obtain ⟨s1, s2, s3, s4, s5, s6, s7⟩ := hS'; go_simp; try with_reducible rfl)⟩) HS1 ?_
                refine anyS_take (i := 5) rfl (by kernel_rfl) (by kernel_rfl) (by kernel_rfl) (by kernel_rfl) (fun _ _ _ h => h) (Or.inl ⟨by rfl, fun w' hS' => (by obtain ⟨s1, s2, s3, s4, s5, s6, s7⟩ := hS'; go_simp; try with_reducible rfl)⟩) HS1 ?_
                refine anyS_take (i := 6) rfl (by kernel_rfl) (by kernel_rfl) (by kernel_rfl) (by kernel_rfl) (fun _ _ _ h => h) (Or.inl ⟨by rfl, fun w' hS' => (by obtain ⟨s1, s2, s3, s4, s5, s6, s7⟩ := hS'; go_simp; try with_reducible rfl)⟩) HS1 ?_
                refine anyS_one (i := 7) (by kernel_rfl) rfl rfl (fun K hK => ?_)
                go_simp
                refine hK _ _ (fun _ => HS1) ?_
                clear hK K
                refine anyS_one (i := 8) (by kernel_rfl) rfl rfl (fun K hK => ?_)
                go_simp
                refine hK _ _ (fun h => absurd rfl h) ?_
                clear hK K
                refine anyS_done (by kernel_rfl) ?_ _
                simp only [normPost]
                replace HRL := Lib.hid (HRL.out.next hB2)
                replace HKF := Lib.hid (HKF.out.next hB2)
                replace HKX := Lib.hid (HKX.out.next hB2)
                replace HB := Lib.hid (bt hB2 HB.out)
                clear hb0 hb1 hb2 hB1 hB2 HS1 HKS hr1
                obtain ⟨x0, x1, x2, x3, x4⟩ := Ls.box5 HKX.out
                obtain ⟨f0, f1⟩ := box2 HKF.out
                have lx := HKX.out.lt
                go_wp2_with fail
                refine (kept_any L x tick _ cL _ HVL.out hLn HX.out (by omega) (by omega) HRL.out (HW.out.next HB.out)).mono ?_
                rintro e W4 ⟨A4, c4, rfl, hc4, hr4, hb4⟩
                rw [← HKR.out, ← HRSd.out] at hc4 hr4
                rw [← HKR.out, ← HRSd.out]
                have HR4 := Lib.hid hr4
                clear x0 x1 x2 x3 x4 f0 f1 lx
                replace HRL := Lib.hid (HRL.out.next hb4)
                replace HKF := Lib.hid (HKF.out.next hb4)
                replace HKX := Lib.hid (HKX.out.next hb4)
                replace HB := Lib.hid (bt hb4 HB.out)
                clear hb4 hr4
                obtain ⟨x0, x1, x2, x3, x4⟩ := Ls.box5 HKX.out
                obtain ⟨f0, f1⟩ := box2 HKF.out
                have lx := HKX.out.lt
                go_wp2_with fail
                have HRW := Rewrite_l m rs A A4 c c4 W4 (HA.out.next HB.out) hc HR4.out s1 (by rw [HRSd.out]; exact HS2.out)
                rw [HRSd.out, ← HRMd.out, ← HREd.out, ← HRSd.out] at HRW
                refine HRW.mono ?_
                rintro e W5 ⟨A5, c5, rfl, hc5, hr5, hb5⟩
                clear x0 x1 x2 x3 x4 f0 f1 lx
                have HR5 := Lib.hid hr5
                have HB5 := Lib.hid (bt hb5 HB.out)
                clear hr5 hb5 HRW
                go_wp2
                go_ret2
                exact ⟨A5, c5, rfl, hc5, HR5.out, HB5.out⟩
              · obtain ⟨e1, e2⟩ := sto_app h0 ha (hL ▸ hold) h10
                rw [e1, e2]
                have q10 : (appE m (packL x) != 10) = true := by simpa using h10
                obtain ⟨AM, hAM⟩ : ∃ AM, AM = appM m (packL x) := ⟨_, rfl⟩
                obtain ⟨AE, hAE⟩ : ∃ AE, AE = appE m (packL x) := ⟨_, rfl⟩
                have HAMd := Lib.hid hAM
                have HAEd := Lib.hid hAE
                rw [← hAM, ← hAE]
                rw [← hAE] at q10
                clear e1 e2 ha hL h0 ho h10 hAM hAE
                go_enter Tryz.func5, Tryz.ntmps5
                go_wp2_with fail
                obtain ⟨U, hU⟩ : ∃ Zz, Zz = ((w.alloc (.cells #[.int .i64 m.1, .slice A m.2.length c] 24)).alloc (.cells #[.int .i64 x.n, .int .i64 x.c, .int .i64 x.a, .int .i64 x.f, .int .i64 x.t] 26)) := ⟨_, rfl⟩
                have hbU : Below w.heap.size w U := by rw [hU]; exact al2 _ _ _
                have kf : Bk U w.heap.size 24 #[.int .i64 m.1, .slice A m.2.length c] := by rw [hU]; exact (Bk.new _ _ _).alloc _
                have kx : Bk U (w.heap.size + 1) 26 #[.int .i64 x.n, .int .i64 x.c, .int .i64 x.a, .int .i64 x.f, .int .i64 x.t] := by rw [hU]; exact bkOf (by simp [at?_alloc])
                rw [← hU]
                clear hU
                refine (Load_lit L 0 m A c _ HL.out.symm HE.out (HA.out.next hbU) hc (HW.out.next hbU)).mono ?_
                rintro e V1 ⟨AL, cL, rfl, hcL, hrL, hb⟩
                have HRL := Lib.hid hrL
                have HB := Lib.hid (bt hb hbU)
                have HKF := Lib.hid (kf.next hb)
                have HKX := Lib.hid (kx.next hb)
                clear hrL hb hbU kf kx
                obtain ⟨x0, x1, x2, x3, x4⟩ := Ls.box5 HKX.out
                obtain ⟨f0, f1⟩ := box2 HKF.out
                have lx := HKX.out.lt
                go_wp2_with fail
                obtain ⟨U2, hU2⟩ : ∃ Zz, Zz = V1.alloc (.cells #[.int .i64 x.n, .int .i64 x.c, .int .i64 x.a, .int .i64 x.f, .int .i64 x.t] 26) := ⟨_, rfl⟩
                have hbU2 : Below V1.heap.size V1 U2 := by rw [hU2]; exact al1 _ _
                have ky : Bk U2 V1.heap.size 26 #[.int .i64 x.n, .int .i64 x.c, .int .i64 x.a, .int .i64 x.f, .int .i64 x.t] := by rw [hU2]; exact Bk.new _ _ _
                rw [← hU2]
                clear hU2
                clear x0 x1 x2 x3 x4 f0 f1 lx
                refine (Ls.Valid_lit true [x] _ 1 _ HO.out (RdL.of_bk (l := [x]) ky ky.lt) (by simp)).mono ?_
                rintro e V2 ⟨rfl, hb⟩
                have hB := bt hb hbU2
                replace HRL := Lib.hid (HRL.out.next hB)
                replace HKF := Lib.hid (HKF.out.next hB)
                replace HKX := Lib.hid (HKX.out.next hB)
                replace HB := Lib.hid (bt hB HB.out)
                clear hb hbU2 ky hB
                have j4 : decide ((0 : Int) < (L.length : Int)) = true := by simp; omega
                have j6 : decide (0 < L.length) = true := by simp; omega
                obtain ⟨bk, ok, rfl, _, z0, z1, z2, z3, z4⟩ := HRL.out.at_ (i := L.length - 1) (by omega)
                obtain ⟨y, hy⟩ : ∃ y, y = lastL L := ⟨_, rfl⟩
                rw [← getD_of (by omega : L.length - 1 < L.length), show L.getD (L.length - 1) l0 = y from hy.symm] at z0 z1 z2 z3 z4
                obtain ⟨k, hk⟩ : ∃ k, k = L.length - 1 := ⟨_, rfl⟩
                rw [← hk] at z0 z1 z2 z3 z4
                have j0k : (L.length : Int) - 1 = (k : Int) := by omega
                have j1k : (0 : Int) ≤ (k : Int) := by omega
                have j2k : (k : Int) < (L.length : Int) := by omega
                have j3k : IntKind.i64.wrap ((L.length : Int) - 1) = (k : Int) := by rw [IntWalk.i64_in _ (by omega)]; omega
                have Hy := Lib.hid hy
                clear hk hy
                have hdec : y.n < x.n ∧ y.f ≤ x.f := by have := HFF.out; rw [← Hy.out] at this; simpa [folB] using this
                have d1 : decide (x.n ≤ y.n) = false := by simp; omega
                have d2 : decide (x.f < y.f) = false := by simp; omega
                clear hdec
                obtain ⟨x0, x1, x2, x3, x4⟩ := Ls.box5 HKX.out
                obtain ⟨f0, f1⟩ := box2 HKF.out
                have lx := HKX.out.lt
                go_wp2
                go_quiet (fail)
                obtain ⟨V3, hV3⟩ : ∃ Zz, Zz = V2.drewN nq := ⟨_, rfl⟩
                have hb3 : Below V2.heap.size V2 V3 := by rw [hV3]; exact belowDrew (Below.refl _ _) _
                rw [← hV3]
                clear hV3
                clear x0 x1 x2 x3 x4 f0 f1 lx
                replace HRL := Lib.hid (HRL.out.next hb3)
                replace HKF := Lib.hid (HKF.out.next hb3)
                replace HKX := Lib.hid (HKX.out.next hb3)
                replace HB := Lib.hid (bt hb3 HB.out)
                clear hb3
                go_wp2
                refine region_S (fun w' => w'.cell? ⟨w.heap.size, 0, none⟩ = some (.int .i64 m.1) ∧ w'.cell? ⟨w.heap.size, 1, none⟩ = some (.slice A m.2.length c) ∧ w'.cell? ⟨w.heap.size + 1, 0, none⟩ = some (.int .i64 x.n) ∧ w'.cell? ⟨w.heap.size + 1, 1, none⟩ = some (.int .i64 x.c) ∧ w'.cell? ⟨w.heap.size + 1, 2, none⟩ = some (.int .i64 x.a) ∧ w'.cell? ⟨w.heap.size + 1, 3, none⟩ = some (.int .i64 x.f) ∧ w'.cell? ⟨w.heap.size + 1, 4, none⟩ = some (.int .i64 x.t)) 8 (by kernel_rfl) ?_
                obtain ⟨W0, hW0⟩ : ∃ Zz, Zz = V3.drew := ⟨_, rfl⟩
                have hb0 : Below V3.heap.size V3 W0 := by rw [hW0]; exact (Below.refl _ _).drew
                rw [← hW0]
                clear hW0
                have HKS : Hid (∀ w', Below V3.heap.size V3 w' → (w'.cell? ⟨w.heap.size, 0, none⟩ = some (.int .i64 m.1) ∧ w'.cell? ⟨w.heap.size, 1, none⟩ = some (.slice A m.2.length c) ∧ w'.cell? ⟨w.heap.size + 1, 0, none⟩ = some (.int .i64 x.n) ∧ w'.cell? ⟨w.heap.size + 1, 1, none⟩ = some (.int .i64 x.c) ∧ w'.cell? ⟨w.heap.size + 1, 2, none⟩ = some (.int .i64 x.a) ∧ w'.cell? ⟨w.heap.size + 1, 3, none⟩ = some (.int .i64 x.f) ∧ w'.cell? ⟨w.heap.size + 1, 4, none⟩ = some (.int .i64 x.t))) := fun w' hW => ⟨(box2 (HKF.out.next hW)).1, (box2 (HKF.out.next hW)).2, Ls.box5 (HKX.out.next hW)⟩
                have HS0 := HKS.out _ hb0
                refine anyS_take (i := 0) rfl (by kernel_rfl) (by kernel_rfl) (by kernel_rfl) (by kernel_rfl) (fun _ _ _ h => h) (Or.inl ⟨by rfl, fun w' hS' => (by obtain ⟨s1, s2, s3, s4, s5, s6, s7⟩ := hS'; go_simp; try with_reducible rfl)⟩) HS0 ?_
                refine anyS_take (i := 1) rfl (by kernel_rfl) (by kernel_rfl) (by kernel_rfl) (by kernel_rfl) (fun _ _ _ h => h) (Or.inl ⟨by rfl, fun w' hS' => (by obtain ⟨s1, s2, s3, s4, s5, s6, s7⟩ := hS'; go_simp; try with_reducible rfl)⟩) HS0 ?_
                refine anyS_one (i := 2) (by kernel_rfl) rfl rfl (fun K hK => ?_)
                have HPK := Lib.hid (vpack_any x W0 HX.out (HW.out.next (bt hb0 HB.out)))
                go_simp
                refine HPK.out.mono ?_
                rintro e W1 ⟨pv, rfl, hown1, hb1⟩
                obtain ⟨A1, q1, rfl, hq1, hr1⟩ := own_read hown1
                have hB1 := bt hb1 hb0
                go_simp
                refine hK _ _ (fun _ => HKS.out _ hB1) ?_
                clear hK K HPK hown1 HS0
                refine anyS_one (i := 3) (by kernel_rfl) rfl rfl (fun K hK => ?_)
                have HAP := Append_l m (packL x) A A1 c q1 W1 (HA.out.next (bt hB1 HB.out)) hc (by unfold RdB; rw [packL_length]; exact hr1) (by rw [packL_length]; exact hq1) (by rw [packL_length]; omega)
                rw [packL_length] at HAP
                rw [← HAMd.out, ← HAEd.out] at HAP
                have HAPH := Lib.hid HAP
                clear HAP
                go_simp
                refine HAPH.out.mono ?_
                rintro e W2 ⟨A2, c2, rfl, hc2, hr2, hb2⟩
                have hB2 := bt hb2 hB1
                have HS1 := HKS.out _ hB2
                have HR2 := Lib.hid hr2
                go_simp
                refine hK _ _ (fun _ => HS1) ?_
                clear hK K HAPH hr2
                refine anyS_take (i := 4) rfl (by kernel_rfl) (by kernel_rfl) (by kernel_rfl) (by kernel_rfl) (fun _ _ _ h => h) (Or.inl ⟨by rfl, fun w' hS' => (by obtain ⟨s1, s2, s3, s4, s5, s6, s7⟩ := hS'; go_simp; try with_reducible rfl)⟩) HS1 ?_
                refine anyS_take (i := 5) rfl (by kernel_rfl) (by kernel_rfl) (by kernel_rfl) (by kernel_rfl) (fun _ _ _ h => h) (Or.inl ⟨by rfl, fun w' hS' => (by obtain ⟨s1, s2, s3, s4, s5, s6, s7⟩ := hS'; go_simp; try with_reducible rfl)⟩) HS1 ?_
                refine anyS_take (i := 6) rfl (by kernel_rfl) (by kernel_rfl) (by kernel_rfl) (by kernel_rfl) (fun _ _ _ h => h) (Or.inl ⟨by rfl, fun w' hS' => (by obtain ⟨s1, s2, s3, s4, s5, s6, s7⟩ := hS'; go_simp; try with_reducible rfl)⟩) HS1 ?_
                refine anyS_one (i := 7) (by kernel_rfl) rfl rfl (fun K hK => ?_)
                go_simp
                refine hK _ _ (fun _ => HS1) ?_
                clear hK K
                refine anyS_one (i := 8) (by kernel_rfl) rfl rfl (fun K hK => ?_)
                go_simp
                refine hK _ _ (fun h => absurd rfl h) ?_
                clear hK K
                refine anyS_done (by kernel_rfl) ?_ _
                simp only [normPost]
                replace HRL := Lib.hid (HRL.out.next hB2)
                replace HKF := Lib.hid (HKF.out.next hB2)
                replace HKX := Lib.hid (HKX.out.next hB2)
                replace HB := Lib.hid (bt hB2 HB.out)
                clear hb0 hb1 hb2 hB1 hB2 HS1 HKS hr1
                go_wp2
                go_ret2
                exact ⟨A2, c2, rfl, hc2, HR2.out, HB.out⟩
          · have hold : oldB L x = false := by rw [oldB, decide_eq_false hlp]; rfl
            by_cases h10 : appE m (packL x) = 10
            · obtain ⟨e1, e2⟩ := sto_rew h0 ha (hL ▸ hold) h10
              obtain ⟨s1, s2⟩ := keepR_small h0 x tick
              obtain ⟨RM, hRM⟩ : ∃ RM, RM = rewM m (keepR m x tick) := ⟨_, rfl⟩
              obtain ⟨RE, hRE⟩ : ∃ RE, RE = rewE m (keepR m x tick) := ⟨_, rfl⟩
              rw [e1, e2, ← hRM, ← hRE]
              have HRMd := Lib.hid hRM
              have HREd := Lib.hid hRE
              have HS2 := Lib.hid s2
              have HKR : Hid (keepR m x tick = (keptL L tick ++ [x]).map packL) := by show _ = _; rw [keepR, ← hL]
              have HVL : Hid (vlB L = true) := by show _ = _; rw [hL]; exact (load_ok h0).2.2.2.2
              obtain ⟨rs, hrs⟩ : ∃ rs, rs = keepR m x tick := ⟨_, rfl⟩
              rw [← hrs] at s1
              have HRSd := Lib.hid hrs
              obtain ⟨AM, hAM⟩ : ∃ AM, AM = appM m (packL x) := ⟨_, rfl⟩
              obtain ⟨AE, hAE⟩ : ∃ AE, AE = appE m (packL x) := ⟨_, rfl⟩
              have HAMd := Lib.hid hAM
              have HAEd := Lib.hid hAE
              rw [h10] at hAE
              subst hAE
              have HAEd' : Hid (10 = appE m (packL x)) := h10.symm
              clear e1 e2 ha hL h0 ho h10 hAM hRM hRE s2 hrs
              go_enter Tryz.func5, Tryz.ntmps5
              go_wp2_with fail
              obtain ⟨U, hU⟩ : ∃ Zz, Zz = ((w.alloc (.cells #[.int .i64 m.1, .slice A m.2.length c] 24)).alloc (.cells #[.int .i64 x.n, .int .i64 x.c, .int .i64 x.a, .int .i64 x.f, .int .i64 x.t] 26)) := ⟨_, rfl⟩
              have hbU : Below w.heap.size w U := by rw [hU]; exact al2 _ _ _
              have kf : Bk U w.heap.size 24 #[.int .i64 m.1, .slice A m.2.length c] := by rw [hU]; exact (Bk.new _ _ _).alloc _
              have kx : Bk U (w.heap.size + 1) 26 #[.int .i64 x.n, .int .i64 x.c, .int .i64 x.a, .int .i64 x.f, .int .i64 x.t] := by rw [hU]; exact bkOf (by simp [at?_alloc])
              rw [← hU]
              clear hU
              refine (Load_lit L 0 m A c _ HL.out.symm HE.out (HA.out.next hbU) hc (HW.out.next hbU)).mono ?_
              rintro e V1 ⟨AL, cL, rfl, hcL, hrL, hb⟩
              have HRL := Lib.hid hrL
              have HB := Lib.hid (bt hb hbU)
              have HKF := Lib.hid (kf.next hb)
              have HKX := Lib.hid (kx.next hb)
              clear hrL hb hbU kf kx
              obtain ⟨x0, x1, x2, x3, x4⟩ := Ls.box5 HKX.out
              obtain ⟨f0, f1⟩ := box2 HKF.out
              have lx := HKX.out.lt
              go_wp2_with fail
              obtain ⟨U2, hU2⟩ : ∃ Zz, Zz = V1.alloc (.cells #[.int .i64 x.n, .int .i64 x.c, .int .i64 x.a, .int .i64 x.f, .int .i64 x.t] 26) := ⟨_, rfl⟩
              have hbU2 : Below V1.heap.size V1 U2 := by rw [hU2]; exact al1 _ _
              have ky : Bk U2 V1.heap.size 26 #[.int .i64 x.n, .int .i64 x.c, .int .i64 x.a, .int .i64 x.f, .int .i64 x.t] := by rw [hU2]; exact Bk.new _ _ _
              rw [← hU2]
              clear hU2
              clear x0 x1 x2 x3 x4 f0 f1 lx
              refine (Ls.Valid_lit true [x] _ 1 _ HO.out (RdL.of_bk (l := [x]) ky ky.lt) (by simp)).mono ?_
              rintro e V2 ⟨rfl, hb⟩
              have hB := bt hb hbU2
              replace HRL := Lib.hid (HRL.out.next hB)
              replace HKF := Lib.hid (HKF.out.next hB)
              replace HKX := Lib.hid (HKX.out.next hB)
              replace HB := Lib.hid (bt hB HB.out)
              clear hb hbU2 ky hB
              have j4 : decide ((0 : Int) < (L.length : Int)) = false := decide_eq_false (by omega)
              have j6 : decide (0 < L.length) = false := decide_eq_false (by omega)
              obtain ⟨x0, x1, x2, x3, x4⟩ := Ls.box5 HKX.out
              obtain ⟨f0, f1⟩ := box2 HKF.out
              have lx := HKX.out.lt
              go_wp2
              go_quiet (fail)
              obtain ⟨V3, hV3⟩ : ∃ Zz, Zz = V2.drewN nq := ⟨_, rfl⟩
              have hb3 : Below V2.heap.size V2 V3 := by rw [hV3]; exact belowDrew (Below.refl _ _) _
              rw [← hV3]
              clear hV3
              clear x0 x1 x2 x3 x4 f0 f1 lx
              replace HRL := Lib.hid (HRL.out.next hb3)
              replace HKF := Lib.hid (HKF.out.next hb3)
              replace HKX := Lib.hid (HKX.out.next hb3)
              replace HB := Lib.hid (bt hb3 HB.out)
              clear hb3
              go_wp2
              refine region_S (fun w' => w'.cell? ⟨w.heap.size, 0, none⟩ = some (.int .i64 m.1) ∧ w'.cell? ⟨w.heap.size, 1, none⟩ = some (.slice A m.2.length c) ∧ w'.cell? ⟨w.heap.size + 1, 0, none⟩ = some (.int .i64 x.n) ∧ w'.cell? ⟨w.heap.size + 1, 1, none⟩ = some (.int .i64 x.c) ∧ w'.cell? ⟨w.heap.size + 1, 2, none⟩ = some (.int .i64 x.a) ∧ w'.cell? ⟨w.heap.size + 1, 3, none⟩ = some (.int .i64 x.f) ∧ w'.cell? ⟨w.heap.size + 1, 4, none⟩ = some (.int .i64 x.t)) 8 (by kernel_rfl) ?_
              obtain ⟨W0, hW0⟩ : ∃ Zz, Zz = V3.drew := ⟨_, rfl⟩
              have hb0 : Below V3.heap.size V3 W0 := by rw [hW0]; exact (Below.refl _ _).drew
              rw [← hW0]
              clear hW0
              have HKS : Hid (∀ w', Below V3.heap.size V3 w' → (w'.cell? ⟨w.heap.size, 0, none⟩ = some (.int .i64 m.1) ∧ w'.cell? ⟨w.heap.size, 1, none⟩ = some (.slice A m.2.length c) ∧ w'.cell? ⟨w.heap.size + 1, 0, none⟩ = some (.int .i64 x.n) ∧ w'.cell? ⟨w.heap.size + 1, 1, none⟩ = some (.int .i64 x.c) ∧ w'.cell? ⟨w.heap.size + 1, 2, none⟩ = some (.int .i64 x.a) ∧ w'.cell? ⟨w.heap.size + 1, 3, none⟩ = some (.int .i64 x.f) ∧ w'.cell? ⟨w.heap.size + 1, 4, none⟩ = some (.int .i64 x.t))) := fun w' hW => ⟨(box2 (HKF.out.next hW)).1, (box2 (HKF.out.next hW)).2, Ls.box5 (HKX.out.next hW)⟩
              have HS0 := HKS.out _ hb0
              refine anyS_take (i := 0) rfl (by kernel_rfl) (by kernel_rfl) (by kernel_rfl) (by kernel_rfl) (fun _ _ _ h => h) (Or.inl ⟨by rfl, fun w' hS' => (by obtain ⟨s1, s2, s3, s4, s5, s6, s7⟩ := hS'; go_simp; try with_reducible rfl)⟩) HS0 ?_
              refine anyS_take (i := 1) rfl (by kernel_rfl) (by kernel_rfl) (by kernel_rfl) (by kernel_rfl) (fun _ _ _ h => h) (Or.inl ⟨by rfl, fun w' hS' => (by obtain ⟨s1, s2, s3, s4, s5, s6, s7⟩ := hS'; go_simp; try with_reducible rfl)⟩) HS0 ?_
              refine anyS_one (i := 2) (by kernel_rfl) rfl rfl (fun K hK => ?_)
              have HPK := Lib.hid (vpack_any x W0 HX.out (HW.out.next (bt hb0 HB.out)))
              go_simp
              refine HPK.out.mono ?_
              rintro e W1 ⟨pv, rfl, hown1, hb1⟩
              obtain ⟨A1, q1, rfl, hq1, hr1⟩ := own_read hown1
              have hB1 := bt hb1 hb0
              go_simp
              refine hK _ _ (fun _ => HKS.out _ hB1) ?_
              clear hK K HPK hown1 HS0
              refine anyS_one (i := 3) (by kernel_rfl) rfl rfl (fun K hK => ?_)
              have HAP := Append_l m (packL x) A A1 c q1 W1 (HA.out.next (bt hB1 HB.out)) hc (by unfold RdB; rw [packL_length]; exact hr1) (by rw [packL_length]; exact hq1) (by rw [packL_length]; omega)
              rw [packL_length] at HAP
              rw [← HAMd.out, ← HAEd.out] at HAP
              have HAPH := Lib.hid HAP
              clear HAP
              go_simp
              refine HAPH.out.mono ?_
              rintro e W2 ⟨A2, c2, rfl, hc2, hr2, hb2⟩
              have hB2 := bt hb2 hB1
              have HS1 := HKS.out _ hB2
              have HR2 := Lib.hid hr2
              go_simp
              refine hK _ _ (fun _ => HS1) ?_
              clear hK K HAPH hr2
              refine anyS_take (i := 4) rfl (by kernel_rfl) (by kernel_rfl) (by kernel_rfl) (by kernel_rfl) (fun _ _ _ h => h) (Or.inl ⟨by rfl, fun w' hS' => (by obtain ⟨s1, s2, s3, s4, s5, s6, s7⟩ := hS'; go_simp; try with_reducible rfl)⟩) HS1 ?_
              refine anyS_take (i := 5) rfl (by kernel_rfl) (by kernel_rfl) (by kernel_rfl) (by kernel_rfl) (fun _ _ _ h => h) (Or.inl ⟨by rfl, fun w' hS' => (by obtain ⟨s1, s2, s3, s4, s5, s6, s7⟩ := hS'; go_simp; try with_reducible rfl)⟩) HS1 ?_
              refine anyS_take (i := 6) rfl (by kernel_rfl) (by kernel_rfl) (by kernel_rfl) (by kernel_rfl) (fun _ _ _ h => h) (Or.inl ⟨by rfl, fun w' hS' => (by obtain ⟨s1, s2, s3, s4, s5, s6, s7⟩ := hS'; go_simp; try with_reducible rfl)⟩) HS1 ?_
              refine anyS_one (i := 7) (by kernel_rfl) rfl rfl (fun K hK => ?_)
              go_simp
              refine hK _ _ (fun _ => HS1) ?_
              clear hK K
              refine anyS_one (i := 8) (by kernel_rfl) rfl rfl (fun K hK => ?_)
              go_simp
              refine hK _ _ (fun h => absurd rfl h) ?_
              clear hK K
              refine anyS_done (by kernel_rfl) ?_ _
              simp only [normPost]
              replace HRL := Lib.hid (HRL.out.next hB2)
              replace HKF := Lib.hid (HKF.out.next hB2)
              replace HKX := Lib.hid (HKX.out.next hB2)
              replace HB := Lib.hid (bt hB2 HB.out)
              clear hb0 hb1 hb2 hB1 hB2 HS1 HKS hr1
              obtain ⟨x0, x1, x2, x3, x4⟩ := Ls.box5 HKX.out
              obtain ⟨f0, f1⟩ := box2 HKF.out
              have lx := HKX.out.lt
              go_wp2_with fail
              refine (kept_any L x tick _ cL _ HVL.out hLn HX.out (by omega) (by omega) HRL.out (HW.out.next HB.out)).mono ?_
              rintro e W4 ⟨A4, c4, rfl, hc4, hr4, hb4⟩
              rw [← HKR.out, ← HRSd.out] at hc4 hr4
              rw [← HKR.out, ← HRSd.out]
              have HR4 := Lib.hid hr4
              clear x0 x1 x2 x3 x4 f0 f1 lx
              replace HRL := Lib.hid (HRL.out.next hb4)
              replace HKF := Lib.hid (HKF.out.next hb4)
              replace HKX := Lib.hid (HKX.out.next hb4)
              replace HB := Lib.hid (bt hb4 HB.out)
              clear hb4 hr4
              obtain ⟨x0, x1, x2, x3, x4⟩ := Ls.box5 HKX.out
              obtain ⟨f0, f1⟩ := box2 HKF.out
              have lx := HKX.out.lt
              go_wp2_with fail
              have HRW := Rewrite_l m rs A A4 c c4 W4 (HA.out.next HB.out) hc HR4.out s1 (by rw [HRSd.out]; exact HS2.out)
              rw [HRSd.out, ← HRMd.out, ← HREd.out, ← HRSd.out] at HRW
              refine HRW.mono ?_
              rintro e W5 ⟨A5, c5, rfl, hc5, hr5, hb5⟩
              clear x0 x1 x2 x3 x4 f0 f1 lx
              have HR5 := Lib.hid hr5
              have HB5 := Lib.hid (bt hb5 HB.out)
              clear hr5 hb5 HRW
              go_wp2
              go_ret2
              exact ⟨A5, c5, rfl, hc5, HR5.out, HB5.out⟩
            · obtain ⟨e1, e2⟩ := sto_app h0 ha (hL ▸ hold) h10
              rw [e1, e2]
              have q10 : (appE m (packL x) != 10) = true := by simpa using h10
              obtain ⟨AM, hAM⟩ : ∃ AM, AM = appM m (packL x) := ⟨_, rfl⟩
              obtain ⟨AE, hAE⟩ : ∃ AE, AE = appE m (packL x) := ⟨_, rfl⟩
              have HAMd := Lib.hid hAM
              have HAEd := Lib.hid hAE
              rw [← hAM, ← hAE]
              rw [← hAE] at q10
              clear e1 e2 ha hL h0 ho h10 hAM hAE
              go_enter Tryz.func5, Tryz.ntmps5
              go_wp2_with fail
              obtain ⟨U, hU⟩ : ∃ Zz, Zz = ((w.alloc (.cells #[.int .i64 m.1, .slice A m.2.length c] 24)).alloc (.cells #[.int .i64 x.n, .int .i64 x.c, .int .i64 x.a, .int .i64 x.f, .int .i64 x.t] 26)) := ⟨_, rfl⟩
              have hbU : Below w.heap.size w U := by rw [hU]; exact al2 _ _ _
              have kf : Bk U w.heap.size 24 #[.int .i64 m.1, .slice A m.2.length c] := by rw [hU]; exact (Bk.new _ _ _).alloc _
              have kx : Bk U (w.heap.size + 1) 26 #[.int .i64 x.n, .int .i64 x.c, .int .i64 x.a, .int .i64 x.f, .int .i64 x.t] := by rw [hU]; exact bkOf (by simp [at?_alloc])
              rw [← hU]
              clear hU
              refine (Load_lit L 0 m A c _ HL.out.symm HE.out (HA.out.next hbU) hc (HW.out.next hbU)).mono ?_
              rintro e V1 ⟨AL, cL, rfl, hcL, hrL, hb⟩
              have HRL := Lib.hid hrL
              have HB := Lib.hid (bt hb hbU)
              have HKF := Lib.hid (kf.next hb)
              have HKX := Lib.hid (kx.next hb)
              clear hrL hb hbU kf kx
              obtain ⟨x0, x1, x2, x3, x4⟩ := Ls.box5 HKX.out
              obtain ⟨f0, f1⟩ := box2 HKF.out
              have lx := HKX.out.lt
              go_wp2_with fail
              obtain ⟨U2, hU2⟩ : ∃ Zz, Zz = V1.alloc (.cells #[.int .i64 x.n, .int .i64 x.c, .int .i64 x.a, .int .i64 x.f, .int .i64 x.t] 26) := ⟨_, rfl⟩
              have hbU2 : Below V1.heap.size V1 U2 := by rw [hU2]; exact al1 _ _
              have ky : Bk U2 V1.heap.size 26 #[.int .i64 x.n, .int .i64 x.c, .int .i64 x.a, .int .i64 x.f, .int .i64 x.t] := by rw [hU2]; exact Bk.new _ _ _
              rw [← hU2]
              clear hU2
              clear x0 x1 x2 x3 x4 f0 f1 lx
              refine (Ls.Valid_lit true [x] _ 1 _ HO.out (RdL.of_bk (l := [x]) ky ky.lt) (by simp)).mono ?_
              rintro e V2 ⟨rfl, hb⟩
              have hB := bt hb hbU2
              replace HRL := Lib.hid (HRL.out.next hB)
              replace HKF := Lib.hid (HKF.out.next hB)
              replace HKX := Lib.hid (HKX.out.next hB)
              replace HB := Lib.hid (bt hB HB.out)
              clear hb hbU2 ky hB
              have j4 : decide ((0 : Int) < (L.length : Int)) = false := decide_eq_false (by omega)
              have j6 : decide (0 < L.length) = false := decide_eq_false (by omega)
              obtain ⟨x0, x1, x2, x3, x4⟩ := Ls.box5 HKX.out
              obtain ⟨f0, f1⟩ := box2 HKF.out
              have lx := HKX.out.lt
              go_wp2
              go_quiet (fail)
              obtain ⟨V3, hV3⟩ : ∃ Zz, Zz = V2.drewN nq := ⟨_, rfl⟩
              have hb3 : Below V2.heap.size V2 V3 := by rw [hV3]; exact belowDrew (Below.refl _ _) _
              rw [← hV3]
              clear hV3
              clear x0 x1 x2 x3 x4 f0 f1 lx
              replace HRL := Lib.hid (HRL.out.next hb3)
              replace HKF := Lib.hid (HKF.out.next hb3)
              replace HKX := Lib.hid (HKX.out.next hb3)
              replace HB := Lib.hid (bt hb3 HB.out)
              clear hb3
              go_wp2
              refine region_S (fun w' => w'.cell? ⟨w.heap.size, 0, none⟩ = some (.int .i64 m.1) ∧ w'.cell? ⟨w.heap.size, 1, none⟩ = some (.slice A m.2.length c) ∧ w'.cell? ⟨w.heap.size + 1, 0, none⟩ = some (.int .i64 x.n) ∧ w'.cell? ⟨w.heap.size + 1, 1, none⟩ = some (.int .i64 x.c) ∧ w'.cell? ⟨w.heap.size + 1, 2, none⟩ = some (.int .i64 x.a) ∧ w'.cell? ⟨w.heap.size + 1, 3, none⟩ = some (.int .i64 x.f) ∧ w'.cell? ⟨w.heap.size + 1, 4, none⟩ = some (.int .i64 x.t)) 8 (by kernel_rfl) ?_
              obtain ⟨W0, hW0⟩ : ∃ Zz, Zz = V3.drew := ⟨_, rfl⟩
              have hb0 : Below V3.heap.size V3 W0 := by rw [hW0]; exact (Below.refl _ _).drew
              rw [← hW0]
              clear hW0
              have HKS : Hid (∀ w', Below V3.heap.size V3 w' → (w'.cell? ⟨w.heap.size, 0, none⟩ = some (.int .i64 m.1) ∧ w'.cell? ⟨w.heap.size, 1, none⟩ = some (.slice A m.2.length c) ∧ w'.cell? ⟨w.heap.size + 1, 0, none⟩ = some (.int .i64 x.n) ∧ w'.cell? ⟨w.heap.size + 1, 1, none⟩ = some (.int .i64 x.c) ∧ w'.cell? ⟨w.heap.size + 1, 2, none⟩ = some (.int .i64 x.a) ∧ w'.cell? ⟨w.heap.size + 1, 3, none⟩ = some (.int .i64 x.f) ∧ w'.cell? ⟨w.heap.size + 1, 4, none⟩ = some (.int .i64 x.t))) := fun w' hW => ⟨(box2 (HKF.out.next hW)).1, (box2 (HKF.out.next hW)).2, Ls.box5 (HKX.out.next hW)⟩
              have HS0 := HKS.out _ hb0
              refine anyS_take (i := 0) rfl (by kernel_rfl) (by kernel_rfl) (by kernel_rfl) (by kernel_rfl) (fun _ _ _ h => h) (Or.inl ⟨by rfl, fun w' hS' => (by obtain ⟨s1, s2, s3, s4, s5, s6, s7⟩ := hS'; go_simp; try with_reducible rfl)⟩) HS0 ?_
              refine anyS_take (i := 1) rfl (by kernel_rfl) (by kernel_rfl) (by kernel_rfl) (by kernel_rfl) (fun _ _ _ h => h) (Or.inl ⟨by rfl, fun w' hS' => (by obtain ⟨s1, s2, s3, s4, s5, s6, s7⟩ := hS'; go_simp; try with_reducible rfl)⟩) HS0 ?_
              refine anyS_one (i := 2) (by kernel_rfl) rfl rfl (fun K hK => ?_)
              have HPK := Lib.hid (vpack_any x W0 HX.out (HW.out.next (bt hb0 HB.out)))
              go_simp
              refine HPK.out.mono ?_
              rintro e W1 ⟨pv, rfl, hown1, hb1⟩
              obtain ⟨A1, q1, rfl, hq1, hr1⟩ := own_read hown1
              have hB1 := bt hb1 hb0
              go_simp
              refine hK _ _ (fun _ => HKS.out _ hB1) ?_
              clear hK K HPK hown1 HS0
              refine anyS_one (i := 3) (by kernel_rfl) rfl rfl (fun K hK => ?_)
              have HAP := Append_l m (packL x) A A1 c q1 W1 (HA.out.next (bt hB1 HB.out)) hc (by unfold RdB; rw [packL_length]; exact hr1) (by rw [packL_length]; exact hq1) (by rw [packL_length]; omega)
              rw [packL_length] at HAP
              rw [← HAMd.out, ← HAEd.out] at HAP
              have HAPH := Lib.hid HAP
              clear HAP
              go_simp
              refine HAPH.out.mono ?_
              rintro e W2 ⟨A2, c2, rfl, hc2, hr2, hb2⟩
              have hB2 := bt hb2 hB1
              have HS1 := HKS.out _ hB2
              have HR2 := Lib.hid hr2
              go_simp
              refine hK _ _ (fun _ => HS1) ?_
              clear hK K HAPH hr2
              refine anyS_take (i := 4) rfl (by kernel_rfl) (by kernel_rfl) (by kernel_rfl) (by kernel_rfl) (fun _ _ _ h => h) (Or.inl ⟨by rfl, fun w' hS' => (by obtain ⟨s1, s2, s3, s4, s5, s6, s7⟩ := hS'; go_simp; try with_reducible rfl)⟩) HS1 ?_
              refine anyS_take (i := 5) rfl (by kernel_rfl) (by kernel_rfl) (by kernel_rfl) (by kernel_rfl) (fun _ _ _ h => h) (Or.inl ⟨by rfl, fun w' hS' => (by obtain ⟨s1, s2, s3, s4, s5, s6, s7⟩ := hS'; go_simp; try with_reducible rfl)⟩) HS1 ?_
              refine anyS_take (i := 6) rfl (by kernel_rfl) (by kernel_rfl) (by kernel_rfl) (by kernel_rfl) (fun _ _ _ h => h) (Or.inl ⟨by rfl, fun w' hS' => (by obtain ⟨s1, s2, s3, s4, s5, s6, s7⟩ := hS'; go_simp; try with_reducible rfl)⟩) HS1 ?_
              refine anyS_one (i := 7) (by kernel_rfl) rfl rfl (fun K hK => ?_)
              go_simp
              refine hK _ _ (fun _ => HS1) ?_
              clear hK K
              refine anyS_one (i := 8) (by kernel_rfl) rfl rfl (fun K hK => ?_)
              go_simp
              refine hK _ _ (fun h => absurd rfl h) ?_
              clear hK K
              refine anyS_done (by kernel_rfl) ?_ _
              simp only [normPost]
              replace HRL := Lib.hid (HRL.out.next hB2)
              replace HKF := Lib.hid (HKF.out.next hB2)
              replace HKX := Lib.hid (HKX.out.next hB2)
              replace HB := Lib.hid (bt hB2 HB.out)
              clear hb0 hb1 hb2 hB1 hB2 HS1 HKS hr1
              go_wp2
              go_ret2
              exact ⟨A2, c2, rfl, hc2, HR2.out, HB.out⟩
    · have ha : argB x tick = false := by simp [argB, ho]
      obtain ⟨e1, e2⟩ := sto_no h0 ha
      rw [e1, e2]
      have HO : Hid (vlB [x] = false) := by show _ = _; rw [vlB_single]; simpa using ho
      clear e1 e2 h0 hL ha ho
      go_enter Tryz.func5, Tryz.ntmps5
      go_wp2_with fail
      obtain ⟨U, hU⟩ : ∃ Zz, Zz = ((w.alloc (.cells #[.int .i64 m.1, .slice A m.2.length c] 24)).alloc (.cells #[.int .i64 x.n, .int .i64 x.c, .int .i64 x.a, .int .i64 x.f, .int .i64 x.t] 26)) := ⟨_, rfl⟩
      have hbU : Below w.heap.size w U := by rw [hU]; exact al2 _ _ _
      have kf : Bk U w.heap.size 24 #[.int .i64 m.1, .slice A m.2.length c] := by rw [hU]; exact (Bk.new _ _ _).alloc _
      have kx : Bk U (w.heap.size + 1) 26 #[.int .i64 x.n, .int .i64 x.c, .int .i64 x.a, .int .i64 x.f, .int .i64 x.t] := by rw [hU]; exact bkOf (by simp [at?_alloc])
      rw [← hU]
      clear hU
      refine (Load_lit L 0 m A c _ HL.out.symm HE.out (HA.out.next hbU) hc (HW.out.next hbU)).mono ?_
      rintro e V1 ⟨AL, cL, rfl, hcL, hrL, hb⟩
      have HRL := Lib.hid hrL
      have HB := Lib.hid (bt hb hbU)
      have HKF := Lib.hid (kf.next hb)
      have HKX := Lib.hid (kx.next hb)
      clear hrL hb hbU kf kx
      obtain ⟨x0, x1, x2, x3, x4⟩ := Ls.box5 HKX.out
      obtain ⟨f0, f1⟩ := box2 HKF.out
      have lx := HKX.out.lt
      go_wp2_with fail
      obtain ⟨U2, hU2⟩ : ∃ Zz, Zz = V1.alloc (.cells #[.int .i64 x.n, .int .i64 x.c, .int .i64 x.a, .int .i64 x.f, .int .i64 x.t] 26) := ⟨_, rfl⟩
      have hbU2 : Below V1.heap.size V1 U2 := by rw [hU2]; exact al1 _ _
      have ky : Bk U2 V1.heap.size 26 #[.int .i64 x.n, .int .i64 x.c, .int .i64 x.a, .int .i64 x.f, .int .i64 x.t] := by rw [hU2]; exact Bk.new _ _ _
      rw [← hU2]
      clear hU2
      clear x0 x1 x2 x3 x4 f0 f1 lx
      refine (Ls.Valid_lit false [x] _ 1 _ HO.out (RdL.of_bk (l := [x]) ky ky.lt) (by simp)).mono ?_
      rintro e V2 ⟨rfl, hb⟩
      have hB := bt hb hbU2
      replace HRL := Lib.hid (HRL.out.next hB)
      replace HKF := Lib.hid (HKF.out.next hB)
      replace HKX := Lib.hid (HKX.out.next hB)
      replace HB := Lib.hid (bt hB HB.out)
      clear hb hbU2 ky hB
      go_wp2
      go_ret2
      exact ⟨none, 0, rfl, Nat.le_refl _, RdFs.nil, HB.out⟩
  · obtain ⟨e1, e2⟩ := sto_far (x := x) (tick := tick) h0
    rw [e1, e2]
    obtain ⟨E, hEE⟩ : ∃ E, E = loadE m := ⟨_, rfl⟩
    rw [← hEE]
    have q0 : (E != 0) = true := by rw [hEE]; simpa using h0
    have HE : Hid (loadE m = E) := hEE.symm
    clear e1 e2 h0 hL hEE
    go_enter Tryz.func5, Tryz.ntmps5
    go_wp2_with fail
    obtain ⟨U, hU⟩ : ∃ Zz, Zz = ((w.alloc (.cells #[.int .i64 m.1, .slice A m.2.length c] 24)).alloc (.cells #[.int .i64 x.n, .int .i64 x.c, .int .i64 x.a, .int .i64 x.f, .int .i64 x.t] 26)) := ⟨_, rfl⟩
    have hbU : Below w.heap.size w U := by rw [hU]; exact al2 _ _ _
    have kf : Bk U w.heap.size 24 #[.int .i64 m.1, .slice A m.2.length c] := by rw [hU]; exact (Bk.new _ _ _).alloc _
    have kx : Bk U (w.heap.size + 1) 26 #[.int .i64 x.n, .int .i64 x.c, .int .i64 x.a, .int .i64 x.f, .int .i64 x.t] := by rw [hU]; exact bkOf (by simp [at?_alloc])
    rw [← hU]
    clear hU
    refine (Load_lit L E m A c _ HL.out.symm HE.out (HA.out.next hbU) hc (HW.out.next hbU)).mono ?_
    rintro e V1 ⟨AL, cL, rfl, hcL, hrL, hb⟩
    have HRL := Lib.hid hrL
    have HB := Lib.hid (bt hb hbU)
    have HKF := Lib.hid (kf.next hb)
    have HKX := Lib.hid (kx.next hb)
    clear hrL hb hbU kf kx
    go_wp2
    go_ret2
    exact ⟨none, 0, rfl, Nat.le_refl _, RdFs.nil, HB.out⟩
end Go.Proofs.YthebojaminploaaGreatDoor
