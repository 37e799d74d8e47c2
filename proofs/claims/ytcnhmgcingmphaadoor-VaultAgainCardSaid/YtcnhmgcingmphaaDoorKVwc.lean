/- The law VaultAgain, walked. -/
import Derived.Test.YtcnhmgcingmphaaDoorKVh
import Derived.Test.YtcnhmgcingmphaaDoorKVwa
import Derived.Test.YtcnhmgcingmphaaDoorKJr
import Derived.BigQuiet
set_option maxRecDepth 100000
set_option linter.unusedVariables false
set_option linter.unusedSimpArgs false
namespace Go.Proofs.YtcnhmgcingmphaaDoor
open Go.RowKit Go.Sort Go.Shelf

theorem Area_lit (a : Nat) (m : Mem) (b o c : Nat) (w : World) (h : curO m = some a) (h32 : m.2.length = 2048) (hc : m.2.length ≤ c) (hA : RdB w w.heap.size (some ⟨b, o, none⟩) m.2) :
    Calls Tryd.prog 17 #[.agg #[.int .i64 m.1, .slice (some ⟨b, o, none⟩) m.2.length c]] w fun e w' => e = .returned (.int .i64 (a : Int)) ∧ Below w.heap.size w w' := by
  have := Area_any m b o c w (by omega) (by omega) hc hA
  rwa [show areaI m = (a : Int) from by unfold areaI; rw [h]] at this
theorem Generation_lit (g a : Nat) (m : Mem) (b o c : Nat) (w : World) (hg : genB (areaB m a) = g) (ha : a ≤ 1) (h32 : m.2.length = 2048) (hc : m.2.length ≤ c) (hA : RdB w w.heap.size (some ⟨b, o, none⟩) m.2) :
    Calls Tryd.prog 16 #[.agg #[.int .i64 m.1, .slice (some ⟨b, o, none⟩) m.2.length c], .int .i64 (a : Int)] w fun e w' => e = .returned (.int .i64 (g : Int)) ∧ Below w.heap.size w w' := by
  subst hg; exact Generation_any m a b o c w ha (by omega) (by omega) hc hA
theorem sto_len (m : Mem) (x : Lea) (tick : Int) : (stoM m x tick).length ≤ 1000000 := by
  by_cases h : stoE m x tick = 0
  · obtain ⟨_, K, _, _, h1, h2, _⟩ := sto_walk h; omega
  · rw [sto_bad h]; simp
theorem gen_area {m : Mem} (h : lookE m = 0) : ∃ a, a ≤ 1 ∧ curO m = some a ∧ genB (areaB m a) = (lookC m).gen := by
  obtain ⟨a, l, e, hJ⟩ := Jr.of h
  exact ⟨a, hJ.facts.1, hJ.2.1, by rw [hJ.look.2]⟩
set_option maxHeartbeats 4000000 in
theorem VaultAgain_walk (m : Mem) (x : Lea) (tick : Int) (s : Nat) (A : Option Addr) (c : Nat) (w : World) (hs : s ≤ 65535) (hW : Wd w) (hA : RdB w w.heap.size A m.2) (hc : m.2.length ≤ c) :
    Calls Tryd.prog 5 #[.agg #[.int .i64 m.1, .slice A m.2.length c], .agg #[.int .i64 x.n, .int .i64 x.c, .int .i64 x.a, .int .i64 x.f, .int .i64 x.t], .int .i64 tick, .int .u16 (s : Int)] w fun e w' => e = .returned (.bool true) ∧ Below w.heap.size w w' := by
  have F_W := Lib.hid hW
  have F_m := Lib.hid hA
  have HB := Lib.hid (Below.refl w.heap.size w)
  clear hW hA
  by_cases h0 : stoE m x tick = 0
  · obtain ⟨hE, K, mz, af, hN, hK, _⟩ := sto_walk h0
    obtain ⟨L, F, z, af', hs⟩ := sto_of h0
    obtain ⟨m1, hml, m3, _, _⟩ := load_ok hE
    obtain ⟨bA, oA, rfl, _, _⟩ := F_m.out.addr (by omega)
    obtain ⟨r, hrr⟩ : ∃ r, r = s % (K + 1) := ⟨_, rfl⟩
    have hr : r < K + 1 := by rw [hrr]; exact Nat.mod_lt _ (by omega)
    have hmod : (s : Int) % ((K : Int) + 1) = (r : Int) := by rw [hrr, Int.natCast_emod, Int.natCast_add]; rfl
    have htmod : Int.tmod (s : Int) ((K : Int) + 1) = (r : Int) := by rw [Int.tmod_eq_emod_of_nonneg (by omega)]; exact hmod
    have hag := hs.again r (by rw [hN]; exact hr)
    obtain ⟨t, ht⟩ : ∃ t, (stoM m x tick)[r]'(by rw [hN]; exact hr) = t := ⟨_, rfl⟩
    rw [ht] at hag
    obtain ⟨N2, hN2⟩ : ∃ N2, (stoM t x tick).length = N2 := ⟨_, rfl⟩
    obtain ⟨G2, hG2⟩ : ∃ G2, stoE t x tick = G2 := ⟨_, rfl⟩
    obtain ⟨lm, hlm⟩ : ∃ lm, lastM t (stoM t x tick) (stoE t x tick) = lm := ⟨_, rfl⟩
    rw [hlm, hG2] at hag
    rw [hG2] at hlm
    obtain ⟨now, hnow⟩ : ∃ now, loadL lm = now := ⟨_, rfl⟩
    rw [hnow] at hag
    obtain ⟨hl0, hag⟩ := hag
    have hnl : now.length ≤ 64 := by rw [← hnow]; exact load_len64 lm
    have HML := Lib.hid hml
    have HG := Lib.hid h0
    have HN := Lib.hid hN
    have HT : Hid ((stoM m x tick)[r]? = some t) := by show _ = _; rw [List.getElem?_eq_getElem (by rw [hN]; exact hr), ht]
    have HN2 := Lib.hid hN2
    have HG2 := Lib.hid hG2
    have HLM := Lib.hid hlm
    have HNW := Lib.hid hnow
    have HL0 := Lib.hid hl0
    have HMOD := Lib.hid hmod
    have HTM := Lib.hid htmod
    clear hmod htmod
    have i1 : (0 : Int) ≤ (r : Int) := by omega
    have i2 : (r : Int) < (K : Int) + 1 := by omega
    have q2 : (((K : Int) + 1) == 0) = false := by rw [beq_eq_false_iff_ne]; omega
    have q5 : ¬ ((K : Int) + 1 = 0) := by omega
    rcases hag with ⟨h10, hgen⟩ | hag
    · obtain ⟨a, ha, hcu, hgn⟩ := gen_area m3
      rw [hgen] at hgn
      have HCU := Lib.hid hcu
      have HGN := Lib.hid hgn
      obtain rfl : G2 = 10 := h10
      clear hgen hcu hgn m3
      clear hml hE hN h0 hs m1 ht hN2 hG2 hlm hnow hl0 hrr
      go_enter Tryd.func5, Tryd.ntmps5
      go_wp2_with fail
      refine (head_any _ (F_W.out.next (al2 _ _ _))).mono ?_
      rintro e V1 ⟨rfl, hb⟩
      have hB := bt hb (al2 w _ _)
      have K_f : Hid (Bk V1 (w.heap.size) 24 #[.int .i64 m.1, .slice (some ⟨bA, oA, none⟩) m.2.length c]) := Bk.next (by first | exact Bk.new _ _ _ | exact (Bk.new _ _ _).alloc _ | exact ((Bk.new _ _ _).alloc _).alloc _ | exact bkOf (by simp [at?_alloc])) hb
      have K_x : Hid (Bk V1 (w.heap.size + 1) 26 #[.int .i64 x.n, .int .i64 x.c, .int .i64 x.a, .int .i64 x.f, .int .i64 x.t]) := Bk.next (by first | exact Bk.new _ _ _ | exact (Bk.new _ _ _).alloc _ | exact ((Bk.new _ _ _).alloc _).alloc _ | exact bkOf (by simp [at?_alloc])) hb
      replace F_W := Lib.hid (F_W.out.next hB)
      replace F_m := Lib.hid (F_m.out.next hB)
      replace HB := Lib.hid (bt hB HB.out)
      clear hb hB
      obtain ⟨c_f0, c_f1⟩ := box2 K_f.out
      have l_f := K_f.out.lt
      obtain ⟨c_x0, c_x1, c_x2, c_x3, c_x4⟩ := box5 K_x.out
      have l_x := K_x.out.lt
      go_wp2_with fail
      clear c_f0 c_f1 l_f
      clear c_x0 c_x1 c_x2 c_x3 c_x4 l_x
      refine (Store_lit (K + 1) 0 m x tick (some ⟨bA, oA, none⟩) c _ HN.out HG.out F_m.out hc F_W.out).mono ?_
      rintro e V2 ⟨A2, c2, rfl, hc2, r2, hb⟩
      have hB := hb
      replace F_W := Lib.hid (F_W.out.next hB)
      replace F_m := Lib.hid (F_m.out.next hB)
      replace K_f := Lib.hid (K_f.out.next hB)
      replace K_x := Lib.hid (K_x.out.next hB)
      replace HB := Lib.hid (bt hB HB.out)
      clear hb hB
      have F_2 := Lib.hid (r2)
      clear r2
      obtain ⟨b9, o9, rfl, hb9, hall⟩ := F_2.out (by rw [HN.out]; omega)
      obtain ⟨A3, c3, z0, z1, hc3, r3⟩ := hall r t HT.out
      clear hall
      have hmod := HMOD.out
      have htmod := HTM.out
      have F_t := Lib.hid (r3)
      clear r3
      obtain ⟨c_f0, c_f1⟩ := box2 K_f.out
      have l_f := K_f.out.lt
      obtain ⟨c_x0, c_x1, c_x2, c_x3, c_x4⟩ := box5 K_x.out
      have l_x := K_x.out.lt
      go_wp2_with fail
      clear c_f0 c_f1 l_f
      clear c_x0 c_x1 c_x2 c_x3 c_x4 l_x
      refine (Store_lit N2 10 t x tick A3 c3 _ HN2.out HG2.out (F_t.out.next (al1 _ _)) hc3 (F_W.out.next (al1 _ _))).mono ?_
      rintro e V3 ⟨A4, c4, rfl, hc4, r4, hb⟩
      have hB := bt hb (al1 V2 _)
      have K_t : Hid (Bk V3 (V2.heap.size) 24 #[.int .i64 t.1, .slice A3 t.2.length c3]) := Bk.next (by first | exact Bk.new _ _ _ | exact (Bk.new _ _ _).alloc _ | exact ((Bk.new _ _ _).alloc _).alloc _ | exact bkOf (by simp [at?_alloc])) hb
      replace F_W := Lib.hid (F_W.out.next hB)
      replace F_m := Lib.hid (F_m.out.next hB)
      replace F_2 := Lib.hid (F_2.out.next hB)
      replace F_t := Lib.hid (F_t.out.next hB)
      replace K_f := Lib.hid (K_f.out.next hB)
      replace K_x := Lib.hid (K_x.out.next hB)
      replace HB := Lib.hid (bt hB HB.out)
      clear hb hB
      have F_4 := Lib.hid (r4)
      clear r4 z0 z1 hmod htmod
      obtain ⟨c_f0, c_f1⟩ := box2 K_f.out
      have l_f := K_f.out.lt
      obtain ⟨c_x0, c_x1, c_x2, c_x3, c_x4⟩ := box5 K_x.out
      have l_x := K_x.out.lt
      obtain ⟨c_t0, c_t1⟩ := box2 K_t.out
      have l_t := K_t.out.lt
      go_wp2_with fail
      clear c_f0 c_f1 l_f
      clear c_x0 c_x1 c_x2 c_x3 c_x4 l_x
      clear c_t0 c_t1 l_t
      refine (last_lit lm N2 t (stoM t x tick) 10 A3 A4 c3 c4 _ HLM.out HN2.out F_t.out hc3 F_4.out (sto_len _ _ _)).mono ?_
      rintro e V4 ⟨A5, c5, rfl, hc5, r5, hb⟩
      have hB := hb
      replace F_W := Lib.hid (F_W.out.next hB)
      replace F_m := Lib.hid (F_m.out.next hB)
      replace F_2 := Lib.hid (F_2.out.next hB)
      replace F_t := Lib.hid (F_t.out.next hB)
      replace F_4 := Lib.hid (F_4.out.next hB)
      replace K_f := Lib.hid (K_f.out.next hB)
      replace K_x := Lib.hid (K_x.out.next hB)
      replace K_t := Lib.hid (K_t.out.next hB)
      replace HB := Lib.hid (bt hB HB.out)
      clear hb hB
      have F_5 := Lib.hid (r5)
      clear r5
      obtain ⟨c_f0, c_f1⟩ := box2 K_f.out
      have l_f := K_f.out.lt
      obtain ⟨c_x0, c_x1, c_x2, c_x3, c_x4⟩ := box5 K_x.out
      have l_x := K_x.out.lt
      obtain ⟨c_t0, c_t1⟩ := box2 K_t.out
      have l_t := K_t.out.lt
      go_wp2_with fail
      clear c_f0 c_f1 l_f
      clear c_x0 c_x1 c_x2 c_x3 c_x4 l_x
      clear c_t0 c_t1 l_t
      refine (Load_lit now 0 lm A5 c5 _ HNW.out HL0.out F_5.out hc5 F_W.out).mono ?_
      rintro e V5 ⟨A6, c6, rfl, hc6, r6, hb⟩
      have hB := hb
      replace F_W := Lib.hid (F_W.out.next hB)
      replace F_m := Lib.hid (F_m.out.next hB)
      replace F_2 := Lib.hid (F_2.out.next hB)
      replace F_t := Lib.hid (F_t.out.next hB)
      replace F_4 := Lib.hid (F_4.out.next hB)
      replace F_5 := Lib.hid (F_5.out.next hB)
      replace K_f := Lib.hid (K_f.out.next hB)
      replace K_x := Lib.hid (K_x.out.next hB)
      replace K_t := Lib.hid (K_t.out.next hB)
      replace HB := Lib.hid (bt hB HB.out)
      clear hb hB
      have F_6 := Lib.hid (r6)
      clear r6
      obtain ⟨c_f0, c_f1⟩ := box2 K_f.out
      have l_f := K_f.out.lt
      go_wp2
      have Rc_f0 := cell_regrown c_f0
      have Rc_f1 := cell_regrown c_f1
      have CA := fun (d : Nat) (os : Array Obj) => Calls.regrown_of (Area_lit a m bA oA c (grow (redrawn V5 d) os) HCU.out HML.out hc (F_m.out.next (below_regrown V5 d os)))
      have CG := fun (d : Nat) (os : Array Obj) => Calls.regrown_of (Generation_lit 4294967295 a m bA oA c (grow (redrawn V5 d) os) HGN.out ha HML.out hc (F_m.out.next (below_regrown V5 d os)))
      refine wp_region_quiet_below (by kernel_rfl) (by kernel_rfl) ?_
      repeat (first | go_big_quiet_step (first | (with_reducible exact CA _ _) | (with_reducible exact CG _ _)) | quiet_step (first | (with_reducible exact CA _ _) | (with_reducible exact CG _ _)))
      refine wpQuiet_nil ?_
      intro _ hw'
      obtain ⟨⟨dq, osq⟩, hw''⟩ := hw'
      subst hw''
      obtain ⟨U9, hU9⟩ : ∃ V, V = grow (redrawn V5 dq) osq := ⟨_, rfl⟩
      have hbU9 : Below V5.heap.size V5 U9 := by rw [hU9]; exact below_regrown _ _ _
      rw [← hU9]
      clear hU9
      clear Rc_f0
      clear Rc_f1
      clear CA
      clear CG
      go_wp2
      go_ret
      exact ⟨rfl, bt hbU9 HB.out⟩
    · by_cases hg0 : G2 = 0
      · have q6 : (G2 == 10) = false := by rcases hag.1 with h | h <;> rw [h] <;> rfl
        have hnp : 0 < now.length := List.length_pos_iff.2 hag.2.1
        have HLX := Lib.hid hag.2.2
        clear m3
        obtain rfl : G2 = 0 := hg0
        clear hag
        clear hml hE hN h0 hs m1 ht hN2 hG2 hlm hnow hl0 hrr
        go_enter Tryd.func5, Tryd.ntmps5
        go_wp2_with fail
        refine (head_any _ (F_W.out.next (al2 _ _ _))).mono ?_
        rintro e V1 ⟨rfl, hb⟩
        have hB := bt hb (al2 w _ _)
        have K_f : Hid (Bk V1 (w.heap.size) 24 #[.int .i64 m.1, .slice (some ⟨bA, oA, none⟩) m.2.length c]) := Bk.next (by first | exact Bk.new _ _ _ | exact (Bk.new _ _ _).alloc _ | exact ((Bk.new _ _ _).alloc _).alloc _ | exact bkOf (by simp [at?_alloc])) hb
        have K_x : Hid (Bk V1 (w.heap.size + 1) 26 #[.int .i64 x.n, .int .i64 x.c, .int .i64 x.a, .int .i64 x.f, .int .i64 x.t]) := Bk.next (by first | exact Bk.new _ _ _ | exact (Bk.new _ _ _).alloc _ | exact ((Bk.new _ _ _).alloc _).alloc _ | exact bkOf (by simp [at?_alloc])) hb
        replace F_W := Lib.hid (F_W.out.next hB)
        replace F_m := Lib.hid (F_m.out.next hB)
        replace HB := Lib.hid (bt hB HB.out)
        clear hb hB
        obtain ⟨c_f0, c_f1⟩ := box2 K_f.out
        have l_f := K_f.out.lt
        obtain ⟨c_x0, c_x1, c_x2, c_x3, c_x4⟩ := box5 K_x.out
        have l_x := K_x.out.lt
        go_wp2_with fail
        clear c_f0 c_f1 l_f
        clear c_x0 c_x1 c_x2 c_x3 c_x4 l_x
        refine (Store_lit (K + 1) 0 m x tick (some ⟨bA, oA, none⟩) c _ HN.out HG.out F_m.out hc F_W.out).mono ?_
        rintro e V2 ⟨A2, c2, rfl, hc2, r2, hb⟩
        have hB := hb
        replace F_W := Lib.hid (F_W.out.next hB)
        replace F_m := Lib.hid (F_m.out.next hB)
        replace K_f := Lib.hid (K_f.out.next hB)
        replace K_x := Lib.hid (K_x.out.next hB)
        replace HB := Lib.hid (bt hB HB.out)
        clear hb hB
        have F_2 := Lib.hid (r2)
        clear r2
        obtain ⟨b9, o9, rfl, hb9, hall⟩ := F_2.out (by rw [HN.out]; omega)
        obtain ⟨A3, c3, z0, z1, hc3, r3⟩ := hall r t HT.out
        clear hall
        have hmod := HMOD.out
        have htmod := HTM.out
        have F_t := Lib.hid (r3)
        clear r3
        obtain ⟨c_f0, c_f1⟩ := box2 K_f.out
        have l_f := K_f.out.lt
        obtain ⟨c_x0, c_x1, c_x2, c_x3, c_x4⟩ := box5 K_x.out
        have l_x := K_x.out.lt
        go_wp2_with fail
        clear c_f0 c_f1 l_f
        clear c_x0 c_x1 c_x2 c_x3 c_x4 l_x
        refine (Store_lit N2 0 t x tick A3 c3 _ HN2.out HG2.out (F_t.out.next (al1 _ _)) hc3 (F_W.out.next (al1 _ _))).mono ?_
        rintro e V3 ⟨A4, c4, rfl, hc4, r4, hb⟩
        have hB := bt hb (al1 V2 _)
        have K_t : Hid (Bk V3 (V2.heap.size) 24 #[.int .i64 t.1, .slice A3 t.2.length c3]) := Bk.next (by first | exact Bk.new _ _ _ | exact (Bk.new _ _ _).alloc _ | exact ((Bk.new _ _ _).alloc _).alloc _ | exact bkOf (by simp [at?_alloc])) hb
        replace F_W := Lib.hid (F_W.out.next hB)
        replace F_m := Lib.hid (F_m.out.next hB)
        replace F_2 := Lib.hid (F_2.out.next hB)
        replace F_t := Lib.hid (F_t.out.next hB)
        replace K_f := Lib.hid (K_f.out.next hB)
        replace K_x := Lib.hid (K_x.out.next hB)
        replace HB := Lib.hid (bt hB HB.out)
        clear hb hB
        have F_4 := Lib.hid (r4)
        clear r4 z0 z1 hmod htmod
        obtain ⟨c_f0, c_f1⟩ := box2 K_f.out
        have l_f := K_f.out.lt
        obtain ⟨c_x0, c_x1, c_x2, c_x3, c_x4⟩ := box5 K_x.out
        have l_x := K_x.out.lt
        obtain ⟨c_t0, c_t1⟩ := box2 K_t.out
        have l_t := K_t.out.lt
        go_wp2_with fail
        clear c_f0 c_f1 l_f
        clear c_x0 c_x1 c_x2 c_x3 c_x4 l_x
        clear c_t0 c_t1 l_t
        refine (last_lit lm N2 t (stoM t x tick) 0 A3 A4 c3 c4 _ HLM.out HN2.out F_t.out hc3 F_4.out (sto_len _ _ _)).mono ?_
        rintro e V4 ⟨A5, c5, rfl, hc5, r5, hb⟩
        have hB := hb
        replace F_W := Lib.hid (F_W.out.next hB)
        replace F_m := Lib.hid (F_m.out.next hB)
        replace F_2 := Lib.hid (F_2.out.next hB)
        replace F_t := Lib.hid (F_t.out.next hB)
        replace F_4 := Lib.hid (F_4.out.next hB)
        replace K_f := Lib.hid (K_f.out.next hB)
        replace K_x := Lib.hid (K_x.out.next hB)
        replace K_t := Lib.hid (K_t.out.next hB)
        replace HB := Lib.hid (bt hB HB.out)
        clear hb hB
        have F_5 := Lib.hid (r5)
        clear r5
        obtain ⟨c_f0, c_f1⟩ := box2 K_f.out
        have l_f := K_f.out.lt
        obtain ⟨c_x0, c_x1, c_x2, c_x3, c_x4⟩ := box5 K_x.out
        have l_x := K_x.out.lt
        obtain ⟨c_t0, c_t1⟩ := box2 K_t.out
        have l_t := K_t.out.lt
        go_wp2_with fail
        clear c_f0 c_f1 l_f
        clear c_x0 c_x1 c_x2 c_x3 c_x4 l_x
        clear c_t0 c_t1 l_t
        refine (Load_lit now 0 lm A5 c5 _ HNW.out HL0.out F_5.out hc5 F_W.out).mono ?_
        rintro e V5 ⟨A6, c6, rfl, hc6, r6, hb⟩
        have hB := hb
        replace F_W := Lib.hid (F_W.out.next hB)
        replace F_m := Lib.hid (F_m.out.next hB)
        replace F_2 := Lib.hid (F_2.out.next hB)
        replace F_t := Lib.hid (F_t.out.next hB)
        replace F_4 := Lib.hid (F_4.out.next hB)
        replace F_5 := Lib.hid (F_5.out.next hB)
        replace K_f := Lib.hid (K_f.out.next hB)
        replace K_x := Lib.hid (K_x.out.next hB)
        replace K_t := Lib.hid (K_t.out.next hB)
        replace HB := Lib.hid (bt hB HB.out)
        clear hb hB
        have F_6 := Lib.hid (r6)
        clear r6
        obtain ⟨c_x0, c_x1, c_x2, c_x3, c_x4⟩ := box5 K_x.out
        have l_x := K_x.out.lt
        obtain ⟨bk, ok, rfl, _, u0, u1, u2, u3, u4⟩ := F_6.out.at_ (i := now.length - 1) (by omega)
        obtain ⟨y, hy⟩ : ∃ y, y = lastL now := ⟨_, rfl⟩
        rw [← getD_of (by omega : now.length - 1 < now.length), show now.getD (now.length - 1) l0 = y from hy.symm] at u0 u1 u2 u3 u4
        obtain ⟨k, hk⟩ : ∃ k, k = now.length - 1 := ⟨_, rfl⟩
        rw [← hk] at u0 u1 u2 u3 u4
        have j0k : (now.length : Int) - 1 = (k : Int) := by omega
        have j1k : (0 : Int) ≤ (k : Int) := by omega
        have j2k : (k : Int) < (now.length : Int) := by omega
        have j3k : IntKind.i64.wrap ((now.length : Int) - 1) = (k : Int) := by rw [IntWalk.i64_in _ (by omega)]; omega
        have Hy := Lib.hid hy
        clear hk hy
        obtain rfl : y = x := by rw [Hy.out, HLX.out]
        have q3 : decide ((0 : Int) < (now.length : Int)) = true := by simp; omega
        have q4 : decide (0 < now.length) = true := by simp; omega
        have hq := Ls.eqLease y y
        have hgd := Ls.guardLease
        have hxx : eqL y y = true := (eqL_iff _ _).2 rfl
        go_wp2
        go_quiet (fail)
        go_wp2
        go_ret
        exact ⟨rfl, belowDrew HB.out _⟩
      · have q6 : (G2 == 10) = false := by rcases hag.1 with h | h <;> rw [h] <;> rfl
        have hnp : 0 < now.length := List.length_pos_iff.2 hag.2.1
        have HLX := Lib.hid hag.2.2
        clear m3
        obtain rfl : G2 = 12 := hag.1.resolve_left hg0
        clear hag hg0
        clear hml hE hN h0 hs m1 ht hN2 hG2 hlm hnow hl0 hrr
        go_enter Tryd.func5, Tryd.ntmps5
        go_wp2_with fail
        refine (head_any _ (F_W.out.next (al2 _ _ _))).mono ?_
        rintro e V1 ⟨rfl, hb⟩
        have hB := bt hb (al2 w _ _)
        have K_f : Hid (Bk V1 (w.heap.size) 24 #[.int .i64 m.1, .slice (some ⟨bA, oA, none⟩) m.2.length c]) := Bk.next (by first | exact Bk.new _ _ _ | exact (Bk.new _ _ _).alloc _ | exact ((Bk.new _ _ _).alloc _).alloc _ | exact bkOf (by simp [at?_alloc])) hb
        have K_x : Hid (Bk V1 (w.heap.size + 1) 26 #[.int .i64 x.n, .int .i64 x.c, .int .i64 x.a, .int .i64 x.f, .int .i64 x.t]) := Bk.next (by first | exact Bk.new _ _ _ | exact (Bk.new _ _ _).alloc _ | exact ((Bk.new _ _ _).alloc _).alloc _ | exact bkOf (by simp [at?_alloc])) hb
        replace F_W := Lib.hid (F_W.out.next hB)
        replace F_m := Lib.hid (F_m.out.next hB)
        replace HB := Lib.hid (bt hB HB.out)
        clear hb hB
        obtain ⟨c_f0, c_f1⟩ := box2 K_f.out
        have l_f := K_f.out.lt
        obtain ⟨c_x0, c_x1, c_x2, c_x3, c_x4⟩ := box5 K_x.out
        have l_x := K_x.out.lt
        go_wp2_with fail
        clear c_f0 c_f1 l_f
        clear c_x0 c_x1 c_x2 c_x3 c_x4 l_x
        refine (Store_lit (K + 1) 0 m x tick (some ⟨bA, oA, none⟩) c _ HN.out HG.out F_m.out hc F_W.out).mono ?_
        rintro e V2 ⟨A2, c2, rfl, hc2, r2, hb⟩
        have hB := hb
        replace F_W := Lib.hid (F_W.out.next hB)
        replace F_m := Lib.hid (F_m.out.next hB)
        replace K_f := Lib.hid (K_f.out.next hB)
        replace K_x := Lib.hid (K_x.out.next hB)
        replace HB := Lib.hid (bt hB HB.out)
        clear hb hB
        have F_2 := Lib.hid (r2)
        clear r2
        obtain ⟨b9, o9, rfl, hb9, hall⟩ := F_2.out (by rw [HN.out]; omega)
        obtain ⟨A3, c3, z0, z1, hc3, r3⟩ := hall r t HT.out
        clear hall
        have hmod := HMOD.out
        have htmod := HTM.out
        have F_t := Lib.hid (r3)
        clear r3
        obtain ⟨c_f0, c_f1⟩ := box2 K_f.out
        have l_f := K_f.out.lt
        obtain ⟨c_x0, c_x1, c_x2, c_x3, c_x4⟩ := box5 K_x.out
        have l_x := K_x.out.lt
        go_wp2_with fail
        clear c_f0 c_f1 l_f
        clear c_x0 c_x1 c_x2 c_x3 c_x4 l_x
        refine (Store_lit N2 12 t x tick A3 c3 _ HN2.out HG2.out (F_t.out.next (al1 _ _)) hc3 (F_W.out.next (al1 _ _))).mono ?_
        rintro e V3 ⟨A4, c4, rfl, hc4, r4, hb⟩
        have hB := bt hb (al1 V2 _)
        have K_t : Hid (Bk V3 (V2.heap.size) 24 #[.int .i64 t.1, .slice A3 t.2.length c3]) := Bk.next (by first | exact Bk.new _ _ _ | exact (Bk.new _ _ _).alloc _ | exact ((Bk.new _ _ _).alloc _).alloc _ | exact bkOf (by simp [at?_alloc])) hb
        replace F_W := Lib.hid (F_W.out.next hB)
        replace F_m := Lib.hid (F_m.out.next hB)
        replace F_2 := Lib.hid (F_2.out.next hB)
        replace F_t := Lib.hid (F_t.out.next hB)
        replace K_f := Lib.hid (K_f.out.next hB)
        replace K_x := Lib.hid (K_x.out.next hB)
        replace HB := Lib.hid (bt hB HB.out)
        clear hb hB
        have F_4 := Lib.hid (r4)
        clear r4 z0 z1 hmod htmod
        obtain ⟨c_f0, c_f1⟩ := box2 K_f.out
        have l_f := K_f.out.lt
        obtain ⟨c_x0, c_x1, c_x2, c_x3, c_x4⟩ := box5 K_x.out
        have l_x := K_x.out.lt
        obtain ⟨c_t0, c_t1⟩ := box2 K_t.out
        have l_t := K_t.out.lt
        go_wp2_with fail
        clear c_f0 c_f1 l_f
        clear c_x0 c_x1 c_x2 c_x3 c_x4 l_x
        clear c_t0 c_t1 l_t
        refine (last_lit lm N2 t (stoM t x tick) 12 A3 A4 c3 c4 _ HLM.out HN2.out F_t.out hc3 F_4.out (sto_len _ _ _)).mono ?_
        rintro e V4 ⟨A5, c5, rfl, hc5, r5, hb⟩
        have hB := hb
        replace F_W := Lib.hid (F_W.out.next hB)
        replace F_m := Lib.hid (F_m.out.next hB)
        replace F_2 := Lib.hid (F_2.out.next hB)
        replace F_t := Lib.hid (F_t.out.next hB)
        replace F_4 := Lib.hid (F_4.out.next hB)
        replace K_f := Lib.hid (K_f.out.next hB)
        replace K_x := Lib.hid (K_x.out.next hB)
        replace K_t := Lib.hid (K_t.out.next hB)
        replace HB := Lib.hid (bt hB HB.out)
        clear hb hB
        have F_5 := Lib.hid (r5)
        clear r5
        obtain ⟨c_f0, c_f1⟩ := box2 K_f.out
        have l_f := K_f.out.lt
        obtain ⟨c_x0, c_x1, c_x2, c_x3, c_x4⟩ := box5 K_x.out
        have l_x := K_x.out.lt
        obtain ⟨c_t0, c_t1⟩ := box2 K_t.out
        have l_t := K_t.out.lt
        go_wp2_with fail
        clear c_f0 c_f1 l_f
        clear c_x0 c_x1 c_x2 c_x3 c_x4 l_x
        clear c_t0 c_t1 l_t
        refine (Load_lit now 0 lm A5 c5 _ HNW.out HL0.out F_5.out hc5 F_W.out).mono ?_
        rintro e V5 ⟨A6, c6, rfl, hc6, r6, hb⟩
        have hB := hb
        replace F_W := Lib.hid (F_W.out.next hB)
        replace F_m := Lib.hid (F_m.out.next hB)
        replace F_2 := Lib.hid (F_2.out.next hB)
        replace F_t := Lib.hid (F_t.out.next hB)
        replace F_4 := Lib.hid (F_4.out.next hB)
        replace F_5 := Lib.hid (F_5.out.next hB)
        replace K_f := Lib.hid (K_f.out.next hB)
        replace K_x := Lib.hid (K_x.out.next hB)
        replace K_t := Lib.hid (K_t.out.next hB)
        replace HB := Lib.hid (bt hB HB.out)
        clear hb hB
        have F_6 := Lib.hid (r6)
        clear r6
        obtain ⟨c_x0, c_x1, c_x2, c_x3, c_x4⟩ := box5 K_x.out
        have l_x := K_x.out.lt
        obtain ⟨bk, ok, rfl, _, u0, u1, u2, u3, u4⟩ := F_6.out.at_ (i := now.length - 1) (by omega)
        obtain ⟨y, hy⟩ : ∃ y, y = lastL now := ⟨_, rfl⟩
        rw [← getD_of (by omega : now.length - 1 < now.length), show now.getD (now.length - 1) l0 = y from hy.symm] at u0 u1 u2 u3 u4
        obtain ⟨k, hk⟩ : ∃ k, k = now.length - 1 := ⟨_, rfl⟩
        rw [← hk] at u0 u1 u2 u3 u4
        have j0k : (now.length : Int) - 1 = (k : Int) := by omega
        have j1k : (0 : Int) ≤ (k : Int) := by omega
        have j2k : (k : Int) < (now.length : Int) := by omega
        have j3k : IntKind.i64.wrap ((now.length : Int) - 1) = (k : Int) := by rw [IntWalk.i64_in _ (by omega)]; omega
        have Hy := Lib.hid hy
        clear hk hy
        obtain rfl : y = x := by rw [Hy.out, HLX.out]
        have q3 : decide ((0 : Int) < (now.length : Int)) = true := by simp; omega
        have q4 : decide (0 < now.length) = true := by simp; omega
        have hq := Ls.eqLease y y
        have hgd := Ls.guardLease
        have hxx : eqL y y = true := (eqL_iff _ _).2 rfl
        go_wp2
        go_quiet (fail)
        go_wp2
        go_ret
        exact ⟨rfl, belowDrew HB.out _⟩
  · obtain ⟨G, hG⟩ : ∃ G, stoE m x tick = G := ⟨_, rfl⟩
    have HN : Hid ((stoM m x tick).length = 0) := by show _ = _; rw [sto_bad h0]; rfl
    have HG := Lib.hid hG
    have q0 : (G != 0) = true := by rw [← hG]; simpa using h0
    clear hG h0
    go_enter Tryd.func5, Tryd.ntmps5
    go_wp2_with fail
    refine (head_any _ (F_W.out.next (al2 _ _ _))).mono ?_
    rintro e V1 ⟨rfl, hb⟩
    have hB := bt hb (al2 w _ _)
    have K_f : Hid (Bk V1 (w.heap.size) 24 #[.int .i64 m.1, .slice A m.2.length c]) := Bk.next (by first | exact Bk.new _ _ _ | exact (Bk.new _ _ _).alloc _ | exact ((Bk.new _ _ _).alloc _).alloc _ | exact bkOf (by simp [at?_alloc])) hb
    have K_x : Hid (Bk V1 (w.heap.size + 1) 26 #[.int .i64 x.n, .int .i64 x.c, .int .i64 x.a, .int .i64 x.f, .int .i64 x.t]) := Bk.next (by first | exact Bk.new _ _ _ | exact (Bk.new _ _ _).alloc _ | exact ((Bk.new _ _ _).alloc _).alloc _ | exact bkOf (by simp [at?_alloc])) hb
    replace F_W := Lib.hid (F_W.out.next hB)
    replace F_m := Lib.hid (F_m.out.next hB)
    replace HB := Lib.hid (bt hB HB.out)
    clear hb hB
    obtain ⟨c_f0, c_f1⟩ := box2 K_f.out
    have l_f := K_f.out.lt
    obtain ⟨c_x0, c_x1, c_x2, c_x3, c_x4⟩ := box5 K_x.out
    have l_x := K_x.out.lt
    go_wp2_with fail
    clear c_f0 c_f1 l_f
    clear c_x0 c_x1 c_x2 c_x3 c_x4 l_x
    refine (Store_lit 0 G m x tick A c _ HN.out HG.out F_m.out hc F_W.out).mono ?_
    rintro e V2 ⟨A2, c2, rfl, hc2, r2, hb⟩
    have hB := hb
    replace F_W := Lib.hid (F_W.out.next hB)
    replace F_m := Lib.hid (F_m.out.next hB)
    replace K_f := Lib.hid (K_f.out.next hB)
    replace K_x := Lib.hid (K_x.out.next hB)
    replace HB := Lib.hid (bt hB HB.out)
    clear hb hB
    have F_2 := Lib.hid (r2)
    clear r2
    go_wp2
    go_ret
    exact ⟨rfl, HB.out⟩
theorem VaultAgain_int (m : Mem) (x : Lea) (tick st : Int) (A : Option Addr) (c : Nat) (w : World) (h0 : 0 ≤ st) (h1 : st ≤ 65535) (hW : Wd w) (hA : RdB w w.heap.size A m.2) (hc : m.2.length ≤ c) :
    Calls Tryd.prog 5 #[.agg #[.int .i64 m.1, .slice A m.2.length c], .agg #[.int .i64 x.n, .int .i64 x.c, .int .i64 x.a, .int .i64 x.f, .int .i64 x.t], .int .i64 tick, .int .u16 st] w fun e w' => e = .returned (.bool true) ∧ Below w.heap.size w w' := by
  obtain ⟨s, rfl⟩ := Int.eq_ofNat_of_zero_le h0
  exact VaultAgain_walk m x tick s A c w (by omega) hW hA hc
end Go.Proofs.YtcnhmgcingmphaaDoor
