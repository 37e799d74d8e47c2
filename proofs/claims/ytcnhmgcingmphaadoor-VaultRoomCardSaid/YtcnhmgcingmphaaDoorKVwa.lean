/- The law VaultTorn, walked. -/
import Derived.Test.YtcnhmgcingmphaaDoorKVh
import Derived.BigQuiet
set_option maxRecDepth 100000
set_option linter.unusedVariables false
set_option linter.unusedSimpArgs false
namespace Go.Proofs.YtcnhmgcingmphaaDoor
open Go.RowKit Go.Sort Go.Shelf

theorem Same_b (b : Bool) (l1 l2 : List Lea) (A1 A2 : Option Addr) (c1 c2 : Nat) (w : World) (h : eqLs l1 l2 = b) (h1 : RdL w w.heap.size A1 l1) (h2 : RdL w w.heap.size A2 l2) (n1 : l1.length ≤ 1000000000) (n2 : l2.length ≤ 1000000000) :
    Calls Tryd.prog 12 #[.slice A1 l1.length c1, .slice A2 l2.length c2] w fun e w' => e = .returned (.bool b) ∧ Below w.heap.size w w' := by
  subst h; exact Ls.rSame_any l1 l2 A1 A2 c1 c2 w h1 h2 n1 n2
/-- what Store did, for a walk -/
theorem sto_walk {m : Mem} {x : Lea} {tick : Int} (h : stoE m x tick = 0) : loadE m = 0 ∧ ∃ (K : Nat) (mz : Mem) (af : List Lea), (stoM m x tick).length = K + 1 ∧ K ≤ 100000 ∧ (stoM m x tick)[K]? = some mz ∧ loadE mz = 0 ∧ loadL mz = af ∧ lastL af = x ∧ af.length ≤ 64 ∧ 0 < af.length ∧
    ∀ k (hk : k < (stoM m x tick).length), loadE (stoM m x tick)[k] = 0 ∧ (loadL (stoM m x tick)[k] = loadL m ∨ loadL (stoM m x tick)[k] = af) := by
  obtain ⟨L, F, z, af, hs⟩ := sto_of h
  obtain ⟨e, h1, h2⟩ := hs.ok
  refine ⟨hs.load, F.length, mk m z, af, h1, h2, by rw [e, List.getElem?_append_right (by simp)]; simp, hs.fin.1, hs.fin.2, hs.last.2, ((vlB_iff _).1 hs.valid).1, List.length_pos_iff.2 hs.last.1, fun k hk => ?_⟩
  obtain ⟨_, _, k3, k4 | k4⟩ := hs.at_ k hk
  · exact ⟨k3, .inl k4.2⟩
  · exact ⟨k3, .inr k4.2.2⟩
theorem load_len64 (m : Mem) : (loadL m).length ≤ 64 := by
  by_cases h : loadE m = 0
  · have := (load_len h).2; omega
  · rw [load_none h]; simp
set_option maxHeartbeats 4000000 in
theorem VaultTorn_walk (m : Mem) (x : Lea) (tick : Int) (A : Option Addr) (c : Nat) (w : World) (hW : Wd w) (hA : RdB w w.heap.size A m.2) (hc : m.2.length ≤ c) :
    Calls Tryd.prog 3 #[.agg #[.int .i64 m.1, .slice A m.2.length c], .agg #[.int .i64 x.n, .int .i64 x.c, .int .i64 x.a, .int .i64 x.f, .int .i64 x.t], .int .i64 tick] w fun e w' => e = .returned (.bool true) ∧ Below w.heap.size w w' := by
  have F_W := Lib.hid hW
  have F_m := Lib.hid hA
  have HB := Lib.hid (Below.refl w.heap.size w)
  clear hW hA
  obtain ⟨old, hold⟩ : ∃ old, old = loadL m := ⟨_, rfl⟩
  have HO := Lib.hid hold
  have hol : old.length ≤ 64 := by rw [hold]; exact load_len64 m
  clear hold
  by_cases h0 : stoE m x tick = 0
  · obtain ⟨hE, K, mz, af, hN, hK, hZ, hZE, hZL, hLX, hafl, haf0, hall⟩ := sto_walk h0
    have HG := Lib.hid h0
    have HE := Lib.hid hE
    have HN := Lib.hid hN
    have HZ := Lib.hid hZ
    have HZE := Lib.hid hZE
    have HZL := Lib.hid hZL
    have HLX := Lib.hid hLX
    have HALL := Lib.hid hall
    clear h0 hE hN hZ hZE hZL hLX hall
    go_enter Tryd.func3, Tryd.ntmps3
    go_wp2_with fail
    refine (head_any _ (F_W.out.next (al2 _ _ _))).mono ?_
    rintro e V1 ⟨rfl, hb⟩
    have hB := bt hb (al2 w _ _)
    have K_f : Hid (Bk V1 (w.heap.size) 24 #[.int .i64 m.1, .slice A m.2.length c]) := Bk.next (by first | exact Bk.new _ _ _ | exact (Bk.new _ _ _).alloc _ | exact ((Bk.new _ _ _).alloc _).alloc _ | exact bkOf (by simp [at?_alloc])) hb
    have K_x : Hid (Bk V1 (w.heap.size + 1) 26 #[.int .i64 x.n, .int .i64 x.c, .int .i64 x.a, .int .i64 x.f, .int .i64 x.t]) := Bk.next (by first | exact Bk.new _ _ _ | exact (Bk.new _ _ _).alloc _ | exact ((Bk.new _ _ _).alloc _).alloc _ | exact bkOf (by simp [at?_alloc])) hb
    replace F_W := Lib.hid (F_W.out.next hB)
    replace F_m := Lib.hid (F_m.out.next hB)
    replace HB := Lib.hid (bt hB HB.out)
    clear hb hB
    obtain ⟨c_f0, c_f1⟩ := box2 K_f.out
    have l_f := K_f.out.lt
    obtain ⟨c_x0, c_x1, c_x2, c_x3, c_x4⟩ := box5 K_x.out
    have l_x := K_x.out.lt
    go_wp2_with fail
    clear c_f0 c_f1 l_f
    clear c_x0 c_x1 c_x2 c_x3 c_x4 l_x
    refine (Load_lit old 0 m A c _ HO.out.symm HE.out F_m.out hc F_W.out).mono ?_
    rintro e V2 ⟨A1, c1, rfl, hc1, r1, hb⟩
    have hB := hb
    replace F_W := Lib.hid (F_W.out.next hB)
    replace F_m := Lib.hid (F_m.out.next hB)
    replace K_f := Lib.hid (K_f.out.next hB)
    replace K_x := Lib.hid (K_x.out.next hB)
    replace HB := Lib.hid (bt hB HB.out)
    clear hb hB
    have F_1 := Lib.hid (r1)
    clear r1
    obtain ⟨c_f0, c_f1⟩ := box2 K_f.out
    have l_f := K_f.out.lt
    obtain ⟨c_x0, c_x1, c_x2, c_x3, c_x4⟩ := box5 K_x.out
    have l_x := K_x.out.lt
    go_wp2_with fail
    clear c_f0 c_f1 l_f
    clear c_x0 c_x1 c_x2 c_x3 c_x4 l_x
    refine (Store_lit (K + 1) 0 m x tick A c _ HN.out HG.out F_m.out hc F_W.out).mono ?_
    rintro e V3 ⟨A2, c2, rfl, hc2, r2, hb⟩
    have hB := hb
    replace F_W := Lib.hid (F_W.out.next hB)
    replace F_m := Lib.hid (F_m.out.next hB)
    replace F_1 := Lib.hid (F_1.out.next hB)
    replace K_f := Lib.hid (K_f.out.next hB)
    replace K_x := Lib.hid (K_x.out.next hB)
    replace HB := Lib.hid (bt hB HB.out)
    clear hb hB
    have F_2 := Lib.hid (r2)
    clear r2
    obtain ⟨b9, o9, rfl, hb9, hall⟩ := F_2.out (by rw [HN.out]; omega)
    obtain ⟨A3, c3, z0, z1, hc3, r3⟩ := hall K mz HZ.out
    have i1 : (0 : Int) ≤ (K : Int) := by omega
    have i2 : (K : Int) < (K : Int) + 1 := by omega
    have q2 : (((K : Int) + 1) == 0) = false := by rw [beq_eq_false_iff_ne]; omega
    clear hall
    have F_z := Lib.hid (r3)
    clear r3
    obtain ⟨c_f0, c_f1⟩ := box2 K_f.out
    have l_f := K_f.out.lt
    obtain ⟨c_x0, c_x1, c_x2, c_x3, c_x4⟩ := box5 K_x.out
    have l_x := K_x.out.lt
    go_wp2_with fail
    clear c_f0 c_f1 l_f
    clear c_x0 c_x1 c_x2 c_x3 c_x4 l_x
    refine (Load_lit af 0 mz A3 c3 _ HZL.out HZE.out F_z.out hc3 F_W.out).mono ?_
    rintro e V4 ⟨A4, c4, rfl, hc4, r4, hb⟩
    have hB := hb
    replace F_W := Lib.hid (F_W.out.next hB)
    replace F_m := Lib.hid (F_m.out.next hB)
    replace F_1 := Lib.hid (F_1.out.next hB)
    replace F_2 := Lib.hid (F_2.out.next hB)
    replace F_z := Lib.hid (F_z.out.next hB)
    replace K_f := Lib.hid (K_f.out.next hB)
    replace K_x := Lib.hid (K_x.out.next hB)
    replace HB := Lib.hid (bt hB HB.out)
    clear hb hB
    have F_4 := Lib.hid (r4)
    clear r4 z0 z1
    obtain ⟨c_x0, c_x1, c_x2, c_x3, c_x4⟩ := box5 K_x.out
    have l_x := K_x.out.lt
    obtain ⟨bk, ok, rfl, _, u0, u1, u2, u3, u4⟩ := F_4.out.at_ (i := af.length - 1) (by omega)
    obtain ⟨y, hy⟩ : ∃ y, y = lastL af := ⟨_, rfl⟩
    rw [← getD_of (by omega : af.length - 1 < af.length), show af.getD (af.length - 1) l0 = y from hy.symm] at u0 u1 u2 u3 u4
    obtain ⟨k, hk⟩ : ∃ k, k = af.length - 1 := ⟨_, rfl⟩
    rw [← hk] at u0 u1 u2 u3 u4
    have j0k : (af.length : Int) - 1 = (k : Int) := by omega
    have j1k : (0 : Int) ≤ (k : Int) := by omega
    have j2k : (k : Int) < (af.length : Int) := by omega
    have j3k : IntKind.i64.wrap ((af.length : Int) - 1) = (k : Int) := by rw [IntWalk.i64_in _ (by omega)]; omega
    have Hy := Lib.hid hy
    clear hk hy
    obtain rfl : y = x := by rw [Hy.out, HLX.out]
    have q3 : ((af.length : Int) == 0) = false := by rw [beq_eq_false_iff_ne]; omega
    have hq := Ls.eqLease y y
    have hgd := Ls.guardLease
    have hxx : eqL y y = true := (eqL_iff _ _).2 rfl
    go_wp2
    go_quiet (fail)
    obtain ⟨U5, hU5⟩ : ∃ Zz, Zz = V4.drewN nq := ⟨_, rfl⟩
    have hb5 : Below V4.heap.size V4 U5 := by rw [hU5]; exact belowDrew (Below.refl _ _) _
    rw [← hU5]
    clear hU5
    clear u0 u1 u2 u3 u4 hq hgd hxx j0k j1k j2k j3k
    clear c_x0 c_x1 c_x2 c_x3 c_x4 l_x
    replace F_W := Lib.hid (F_W.out.next hb5)
    replace F_m := Lib.hid (F_m.out.next hb5)
    replace F_1 := Lib.hid (F_1.out.next hb5)
    replace F_2 := Lib.hid (F_2.out.next hb5)
    replace F_z := Lib.hid (F_z.out.next hb5)
    replace F_4 := Lib.hid (F_4.out.next hb5)
    replace K_f := Lib.hid (K_f.out.next hb5)
    replace K_x := Lib.hid (K_x.out.next hb5)
    replace HB := Lib.hid (bt hb5 HB.out)
    clear hb5
    go_wp2
    go_loopw [76] (fun i wr => ∃ k : Nat, i = .int .i64 (k : Int) ∧ k ≤ K + 1 ∧ Below U5.heap.size U5 wr) (fun i _ => K + 1 - (intOf i).toNat)
    case atStart => exact ⟨0, rfl, Nat.zero_le _, Below.refl _ _⟩
    case round =>
      obtain ⟨k, rfl, hk, hbr⟩ := hrel
      have HR := Lib.hid hbr
      have lr := hbr.size
      clear hbr
      by_cases hlt : k < K + 1
      · have hkl : k < (stoM m y tick).length := by rw [HN.out]; omega
        obtain ⟨b1, o1, A', c', e1, hb1, z0, z1, hc', hr'⟩ := (F_2.out.next HR.out).at_ hkl
        obtain ⟨rfl, rfl⟩ : b9 = b1 ∧ o9 = o1 := by simpa using e1
        obtain ⟨hl1, hl2⟩ := HALL.out k hkl
        obtain ⟨mm, hmm⟩ : ∃ mm, mm = (stoM m y tick)[k] := ⟨_, rfl⟩
        rw [← hmm] at z0 z1 hc' hr' hl1 hl2
        obtain ⟨now, hnow⟩ : ∃ now, loadL mm = now := ⟨_, rfl⟩
        rw [hnow, ← HO.out] at hl2
        have HR' := Lib.hid hr'
        have HL1 := Lib.hid hl1
        have HNW := Lib.hid hnow
        have hnl : now.length ≤ 64 := by rw [← hnow]; exact load_len64 mm
        have k1 : (0 : Int) ≤ (k : Int) := by omega
        have k2 : (k : Int) < (K : Int) + 1 := by omega
        clear e1 hmm hr' hl1 hnow hkl
        go_wp2_with fail
        refine (Load_lit now 0 mm A' c' _ HNW.out HL1.out (HR'.out.next (al1 _ _)) hc' (F_W.out.next (bt (al1 _ _) HR.out))).mono ?_
        rintro e X1 ⟨A6, c6, rfl, hc6, r6, hb⟩
        have HX1 := Lib.hid (bt hb (bt (al1 wr _) HR.out))
        have F_6 := Lib.hid r6
        clear hb r6 z0 z1
        by_cases hq : now = old
        · have HQ := Lib.hid hq
          clear hq hl2
          go_wp2_with fail
          refine (Same_b true now old A6 A1 c6 c1 _ ((eqLs_iff _ _).2 HQ.out) F_6.out (F_1.out.next HX1.out) (by omega) (by omega)).mono ?_
          rintro e X2 ⟨rfl, hb⟩
          have HX2 := Lib.hid (bt hb HX1.out)
          replace F_6 := Lib.hid (F_6.out.next hb)
          clear hb
          go_wp2
          go_roundw
          case rel => exact ⟨k + 1, by go_num, by omega, HX2.out⟩
          case measure => simp [intOf]; omega
        · have HQ0 : Hid (eqLs now old = false) := Bool.eq_false_iff.2 fun h => hq ((eqLs_iff _ _).1 h)
          have HQ : Hid (now = af) := hl2.resolve_left hq
          clear hq hl2
          go_wp2_with fail
          refine (Same_b false now old A6 A1 c6 c1 _ (HQ0.out) F_6.out (F_1.out.next HX1.out) (by omega) (by omega)).mono ?_
          rintro e X2 ⟨rfl, hb⟩
          have HX2 := Lib.hid (bt hb HX1.out)
          replace F_6 := Lib.hid (F_6.out.next hb)
          clear hb
          go_wp2_with fail
          refine (Same_b true now af A6 _ c6 c4 _ ((eqLs_iff _ _).2 HQ.out) F_6.out (F_4.out.next HX2.out) (by omega) (by omega)).mono ?_
          rintro e X3 ⟨rfl, hb⟩
          have HX3 := Lib.hid (bt hb HX2.out)
          clear hb
          go_wp2
          go_roundw
          case rel => exact ⟨k + 1, by go_num, by omega, HX3.out⟩
          case measure => simp [intOf]; omega
      · obtain rfl : k = K + 1 := by omega
        have hx : (((K + 1 : Nat)) : Int) = (K : Int) + 1 := by omega
        rw [hx]
        go_wp2
        go_ret
        exact ⟨rfl, bt HR.out HB.out⟩
  · obtain ⟨E, hE⟩ : ∃ E, loadE m = E := ⟨_, rfl⟩
    obtain ⟨G, hG⟩ : ∃ G, stoE m x tick = G := ⟨_, rfl⟩
    have HN : Hid ((stoM m x tick).length = 0) := by show _ = _; rw [sto_bad h0]; rfl
    have HE := Lib.hid hE
    have HG := Lib.hid hG
    have q0 : (G != 0) = true := by rw [← hG]; simpa using h0
    clear hE hG h0
    by_cases hE0 : E = 0
    · subst hE0
      go_enter Tryd.func3, Tryd.ntmps3
      go_wp2_with fail
      refine (head_any _ (F_W.out.next (al2 _ _ _))).mono ?_
      rintro e V1 ⟨rfl, hb⟩
      have hB := bt hb (al2 w _ _)
      have K_f : Hid (Bk V1 (w.heap.size) 24 #[.int .i64 m.1, .slice A m.2.length c]) := Bk.next (by first | exact Bk.new _ _ _ | exact (Bk.new _ _ _).alloc _ | exact ((Bk.new _ _ _).alloc _).alloc _ | exact bkOf (by simp [at?_alloc])) hb
      have K_x : Hid (Bk V1 (w.heap.size + 1) 26 #[.int .i64 x.n, .int .i64 x.c, .int .i64 x.a, .int .i64 x.f, .int .i64 x.t]) := Bk.next (by first | exact Bk.new _ _ _ | exact (Bk.new _ _ _).alloc _ | exact ((Bk.new _ _ _).alloc _).alloc _ | exact bkOf (by simp [at?_alloc])) hb
      replace F_W := Lib.hid (F_W.out.next hB)
      replace F_m := Lib.hid (F_m.out.next hB)
      replace HB := Lib.hid (bt hB HB.out)
      clear hb hB
      obtain ⟨c_f0, c_f1⟩ := box2 K_f.out
      have l_f := K_f.out.lt
      obtain ⟨c_x0, c_x1, c_x2, c_x3, c_x4⟩ := box5 K_x.out
      have l_x := K_x.out.lt
      go_wp2_with fail
      clear c_f0 c_f1 l_f
      clear c_x0 c_x1 c_x2 c_x3 c_x4 l_x
      refine (Load_lit old 0 m A c _ HO.out.symm HE.out F_m.out hc F_W.out).mono ?_
      rintro e V2 ⟨A1, c1, rfl, hc1, r1, hb⟩
      have hB := hb
      replace F_W := Lib.hid (F_W.out.next hB)
      replace F_m := Lib.hid (F_m.out.next hB)
      replace K_f := Lib.hid (K_f.out.next hB)
      replace K_x := Lib.hid (K_x.out.next hB)
      replace HB := Lib.hid (bt hB HB.out)
      clear hb hB
      have F_1 := Lib.hid (r1)
      clear r1
      obtain ⟨c_f0, c_f1⟩ := box2 K_f.out
      have l_f := K_f.out.lt
      obtain ⟨c_x0, c_x1, c_x2, c_x3, c_x4⟩ := box5 K_x.out
      have l_x := K_x.out.lt
      go_wp2_with fail
      clear c_f0 c_f1 l_f
      clear c_x0 c_x1 c_x2 c_x3 c_x4 l_x
      refine (Store_lit 0 G m x tick A c _ HN.out HG.out F_m.out hc F_W.out).mono ?_
      rintro e V3 ⟨A2, c2, rfl, hc2, r2, hb⟩
      have hB := hb
      replace F_W := Lib.hid (F_W.out.next hB)
      replace F_m := Lib.hid (F_m.out.next hB)
      replace F_1 := Lib.hid (F_1.out.next hB)
      replace K_f := Lib.hid (K_f.out.next hB)
      replace K_x := Lib.hid (K_x.out.next hB)
      replace HB := Lib.hid (bt hB HB.out)
      clear hb hB
      have F_2 := Lib.hid (r2)
      clear r2
      go_wp2
      go_ret
      exact ⟨rfl, HB.out⟩
    · have q1 : (E != 0) = true := by simpa using hE0
      clear hE0
      go_enter Tryd.func3, Tryd.ntmps3
      go_wp2_with fail
      refine (head_any _ (F_W.out.next (al2 _ _ _))).mono ?_
      rintro e V1 ⟨rfl, hb⟩
      have hB := bt hb (al2 w _ _)
      have K_f : Hid (Bk V1 (w.heap.size) 24 #[.int .i64 m.1, .slice A m.2.length c]) := Bk.next (by first | exact Bk.new _ _ _ | exact (Bk.new _ _ _).alloc _ | exact ((Bk.new _ _ _).alloc _).alloc _ | exact bkOf (by simp [at?_alloc])) hb
      have K_x : Hid (Bk V1 (w.heap.size + 1) 26 #[.int .i64 x.n, .int .i64 x.c, .int .i64 x.a, .int .i64 x.f, .int .i64 x.t]) := Bk.next (by first | exact Bk.new _ _ _ | exact (Bk.new _ _ _).alloc _ | exact ((Bk.new _ _ _).alloc _).alloc _ | exact bkOf (by simp [at?_alloc])) hb
      replace F_W := Lib.hid (F_W.out.next hB)
      replace F_m := Lib.hid (F_m.out.next hB)
      replace HB := Lib.hid (bt hB HB.out)
      clear hb hB
      obtain ⟨c_f0, c_f1⟩ := box2 K_f.out
      have l_f := K_f.out.lt
      obtain ⟨c_x0, c_x1, c_x2, c_x3, c_x4⟩ := box5 K_x.out
      have l_x := K_x.out.lt
      go_wp2_with fail
      clear c_f0 c_f1 l_f
      clear c_x0 c_x1 c_x2 c_x3 c_x4 l_x
      refine (Load_lit old E m A c _ HO.out.symm HE.out F_m.out hc F_W.out).mono ?_
      rintro e V2 ⟨A1, c1, rfl, hc1, r1, hb⟩
      have hB := hb
      replace F_W := Lib.hid (F_W.out.next hB)
      replace F_m := Lib.hid (F_m.out.next hB)
      replace K_f := Lib.hid (K_f.out.next hB)
      replace K_x := Lib.hid (K_x.out.next hB)
      replace HB := Lib.hid (bt hB HB.out)
      clear hb hB
      have F_1 := Lib.hid (r1)
      clear r1
      obtain ⟨c_f0, c_f1⟩ := box2 K_f.out
      have l_f := K_f.out.lt
      obtain ⟨c_x0, c_x1, c_x2, c_x3, c_x4⟩ := box5 K_x.out
      have l_x := K_x.out.lt
      go_wp2_with fail
      clear c_f0 c_f1 l_f
      clear c_x0 c_x1 c_x2 c_x3 c_x4 l_x
      refine (Store_lit 0 G m x tick A c _ HN.out HG.out F_m.out hc F_W.out).mono ?_
      rintro e V3 ⟨A2, c2, rfl, hc2, r2, hb⟩
      have hB := hb
      replace F_W := Lib.hid (F_W.out.next hB)
      replace F_m := Lib.hid (F_m.out.next hB)
      replace F_1 := Lib.hid (F_1.out.next hB)
      replace K_f := Lib.hid (K_f.out.next hB)
      replace K_x := Lib.hid (K_x.out.next hB)
      replace HB := Lib.hid (bt hB HB.out)
      clear hb hB
      have F_2 := Lib.hid (r2)
      clear r2
      go_wp2
      go_ret
      exact ⟨rfl, HB.out⟩
end Go.Proofs.YtcnhmgcingmphaaDoor
