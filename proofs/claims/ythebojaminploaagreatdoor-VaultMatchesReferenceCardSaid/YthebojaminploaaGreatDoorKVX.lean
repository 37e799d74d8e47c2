/- The lease reference's Expire once more: what it returns is an owned row. -/
import Derived.Test.YthebojaminploaaGreatDoorKVZ
import Derived.Test.YthebojaminploaaGreatDoorKLZ
import Derived.BigQuiet
set_option maxRecDepth 100000
set_option linter.unusedVariables false
set_option linter.unusedSimpArgs false
namespace Go.Proofs.YthebojaminploaaGreatDoor.Ls
open Go.RowKit Go.Sort Go.Shelf
set_option maxHeartbeats 2000000 in
theorem rExpire_own (l : List Lea) (A : Option Addr) (c : Nat) (tick : Int) (w : World) (hv : vlB l = true) (h0 : 0 ≤ tick) (h1 : tick ≤ 1100000) (hA : RdL w w.heap.size A l) (hn : l.length ≤ 1000000000) :
    Calls Tryz.prog 54 #[.slice A l.length c, .int .i64 tick] w fun e w' => ∃ A' c', e = .returned (.tuple #[.slice A' (l.filter (lftB tick)).length c', .int .i64 0]) ∧ (l.filter (lftB tick)).length ≤ c' ∧ w'.ownsRow w.heap.size 26 5 (.slice A' (l.filter (lftB tick)).length c') (l.filter (lftB tick)).length (lsc (l.filter (lftB tick))) ∧ Below w.heap.size w w' := by
  obtain ⟨i0, hi, hz0, hz1, hz2⟩ := info_parts info_lease
  have HA := Lib.hid hA
  clear hA
  have h64 := ((vlB_at l).1 hv).1
  have HV := Lib.hid hv
  have z0 : decide (tick < 0) = false := by simp; omega
  have z1 : decide (1100000 < tick) = false := by simp; omega
  go_enter Tryz.func54, Tryz.ntmps54
  go_wp2_with fail
  refine (rValid_lit true l A c _ HV.out HA.out hn).mono ?_
  rintro e V ⟨rfl, hbV⟩
  clear hv
  have HBV := Lib.hid hbV
  have hbase := hbV.size
  clear hbV
  go_wp2
  go_loopw [6, 7] (fun v i wr => ∃ k : Nat, i = .int .i64 k ∧ k ≤ l.length ∧ wr.ownsRow w.heap.size 26 5 v ((l.take k).filter (lftB tick)).length (lsc ((l.take k).filter (lftB tick))) ∧ Below w.heap.size w wr) (fun _ i _ => l.length - (intOf i).toNat)
  case atStart => exact ⟨0, rfl, Nat.zero_le _, World.ownsRow_nil _ _ _ _, HBV.out⟩
  case round =>
    obtain ⟨k, rfl, hk, hown, hb⟩ := hrel
    have HO := Lib.hid hown
    have HB := Lib.hid hb
    have hbase := hb.size
    clear hown hb
    by_cases hlt : k < l.length
    · obtain ⟨b, o, rfl, hbb, x0, x1, x2, x3, x4⟩ := (HA.out.next HB.out).at_ hlt
      obtain ⟨x, hx⟩ : ∃ y, y = l[k] := ⟨_, rfl⟩
      have h1x := vlB_one HV.out (List.getElem_mem hlt)
      rw [← hx] at x0 x1 x2 x3 x4 h1x
      have HX := Lib.hid hx
      have H1X := Lib.hid h1x
      clear hx h1x
      have hfl : ((l.take k).filter (lftB tick)).length ≤ 64 := Nat.le_trans filter_take_le (by omega)
      obtain ⟨ys, hys⟩ : ∃ ys, ys = ((l.take k).filter (lftB tick)) := ⟨_, rfl⟩
      rw [← hys] at hfl HO
      have HYS := Lib.hid hys
      clear hys
      have k1 : (0 : Int) ≤ (k : Int) := by omega
      have k2 : (k : Int) < (l.length : Int) := by omega
      go_wp2_with fail
      refine (rEnd_any x _ H1X.out).mono ?_
      rintro e W2 ⟨rfl, hb2⟩
      have HB2 := Lib.hid hb2
      have hbase2 := hb2.size
      have q0 := (hb2.cell (p := ⟨b, o + k * 5, none⟩) hbb).trans x0
      have q1 := (hb2.cell (p := ⟨b, o + k * 5 + 1, none⟩) hbb).trans x1
      have q2 := (hb2.cell (p := ⟨b, o + k * 5 + 2, none⟩) hbb).trans x2
      have q3 := (hb2.cell (p := ⟨b, o + k * 5 + 3, none⟩) hbb).trans x3
      have q4 := (hb2.cell (p := ⟨b, o + k * 5 + 4, none⟩) hbb).trans x4
      clear x0 x1 x2 x3 x4 hb2
      by_cases hle : tick < endI x
      · have hl : lftB tick x = true := by simp [lftB]; omega
        have HL := Lib.hid hl
        clear hl
        have HO2 := Lib.hid (own_next HO.out HB2.out)
        go_wp2_with (at_builtin; refine wpList_append_own _ rfl _ _ 32 rfl w.heap.size 26 i0 (.agg #[.int .i64 0, .int .i64 0, .int .i64 0, .int .i64 0, .int .i64 0]) 5 40 Tryz.underlying32 hi hz0 hz1 hz2 rfl (by decide) _ ys.length (lsc ys) rfl (HO2.out.alloc _) ⟨W2.heap.size, 0, none⟩ 1 1 [.int .i64 x.n, .int .i64 x.c, .int .i64 x.a, .int .i64 x.f, .int .i64 x.t] rfl rfl (news5 _ _ _ _ _ _ _) (by simp [Value.oneCell']) (by simp only [maxLen]; omega) (by omega) (by have := hbase; simp; omega) ?_; intro v' w1 hown' hgrow _)
        have HR : Hid (w1.ownsRow w.heap.size 26 5 v' ((l.take (k + 1)).filter (lftB tick)).length (lsc ((l.take (k + 1)).filter (lftB tick)))) := by
          show w1.ownsRow _ _ _ _ _ _
          rw [filter_take_pos hlt HX.out HL.out, ← HYS.out, lsc_snoc, List.length_append]; exact hown'
        have HG : Hid (Below w.heap.size w w1) := (bt HB2.out HB.out).trans (own_below HO2.out (Below.refl _ _) hgrow (by omega))
        clear hown' hgrow
        go_wp2
        go_roundw
        case rel => exact ⟨k + 1, by go_num, by omega, HR.out, HG.out⟩
        case measure => simp [intOf]; omega
      · have hl : lftB tick x = false := by simp [lftB]; omega
        have HL := Lib.hid hl
        clear hl
        go_wp2
        go_roundw
        case rel => exact ⟨k + 1, by go_num, by omega, by rw [filter_take_neg hlt HX.out HL.out, ← HYS.out]; exact own_next HO.out HB2.out, bt HB2.out HB.out⟩
        case measure => simp [intOf]; omega
    · obtain rfl : k = l.length := by omega
      have hown := HO.out
      rw [List.take_of_length_le (Nat.le_refl _)] at hown
      obtain ⟨A', c', rfl, hc', hr'⟩ := own_read hown
      have HR := Lib.hid hown
      clear hr' hown HO
      go_wp2
      go_ret2
      exact ⟨A', c', rfl, hc', HR.out, HB.out⟩
end Go.Proofs.YthebojaminploaaGreatDoor.Ls

/- The vault's reference: Kept. -/
set_option maxRecDepth 100000
set_option linter.unusedVariables false
set_option linter.unusedSimpArgs false
namespace Go.Proofs.YthebojaminploaaGreatDoor
open Go.RowKit Go.Sort Go.Shelf
set_option maxHeartbeats 1000000 in
theorem rvKept_nil (l : List Lea) (A : Option Addr) (c : Nat) (tick : Int) (w : World) (hl0 : l.length = 0) (hv : vlB l = true) (h0 : 0 ≤ tick) (h1 : tick ≤ 1100000) (hA : RdL w w.heap.size A l) :
    Calls Tryz.prog 25 #[.slice A l.length c, .int .i64 tick] w fun e w' => ∃ A' c', e = .returned (.slice A' (keptL l tick).length c') ∧ (keptL l tick).length ≤ c' ∧ RdL w' w'.heap.size A' (keptL l tick) ∧ Below w.heap.size w w' := by
  have HA := Lib.hid hA
  have q0 : ¬ (0 : Int) < (l.length : Int) := by omega
  have hn64 : l.length ≤ 64 := by omega
  have q9 : decide (0 < l.length) = false := decide_eq_false (by omega)
  have HL0 := Lib.hid hl0
  clear hA hl0
  go_enter Tryz.func25, Tryz.ntmps25
  go_wp2_with fail
  refine (Ls.rExpire_own l A c tick w hv h0 h1 HA.out (by omega)).mono ?_
  rintro e V1 ⟨A1, c1, rfl, hc1, ho, hb⟩
  have HO := Lib.hid ho
  have HB := Lib.hid hb
  obtain ⟨L, hL⟩ : ∃ L, L = leftL l tick := ⟨_, rfl⟩
  have hL' : l.filter (lftB tick) = L := hL.symm
  rw [hL'] at HO hc1 ⊢
  have HLL := Lib.hid hL
  have HR : Hid (RdL V1 V1.heap.size A1 L) := Lib.hid (by obtain ⟨A9, c9, e9, _, hr9⟩ := own_read HO.out; have ea : A1 = A9 ∧ c1 = c9 := (by simpa using e9); rw [ea.1]; exact hr9)
  clear ho hb hL hL'
  have HZ : Hid (keptL l tick = L) := Lib.hid (by unfold keptL moreB; rw [← HLL.out]; simp [HL0.out])
  go_wp2_with fail
  refine wp_region_quiet_below (by kernel_rfl) (by kernel_rfl) ?_
  repeat (first | go_big_quiet_step (fail) | quiet_step (fail))
  refine wpQuiet_nil ?_
  intro _ hw'
  obtain ⟨⟨dq, osq⟩, hw''⟩ := hw'
  subst hw''
  obtain ⟨V2, hV2⟩ : ∃ V, V = grow (redrawn V1 dq) osq := ⟨_, rfl⟩
  have hbV2 : Below V1.heap.size V1 V2 := by rw [hV2]; exact below_regrown _ _ _
  rw [← hV2]
  clear hV2
  replace HR := Lib.hid (HR.out.next hbV2)
  replace HB := Lib.hid (bt hbV2 HB.out)
  clear hbV2
  go_wp2
  go_ret
  exact ⟨A1, c1, by rw [HZ.out]; rfl, by rw [HZ.out]; exact hc1, by rw [HZ.out]; exact HR.out, HB.out⟩
end Go.Proofs.YthebojaminploaaGreatDoor

/- The vault's reference: Kept, any leases. -/
set_option maxRecDepth 100000
set_option linter.unusedVariables false
set_option linter.unusedSimpArgs false
namespace Go.Proofs.YthebojaminploaaGreatDoor
open Go.RowKit Go.Sort Go.Shelf
theorem vl_inj {l : List Lea} (hv : vlB l = true) {p y : Lea} (m1 : p ∈ l) (m2 : y ∈ l) (hn : p.n = y.n) : p = y := by
  obtain ⟨i, hi, rfl⟩ := List.getElem_of_mem m1
  obtain ⟨j, hj, rfl⟩ := List.getElem_of_mem m2
  have h3 := ((vlB_iff l).1 hv).2.2
  rw [List.pairwise_iff_getElem] at h3
  rcases Nat.lt_trichotomy i j with h | h | h
  · have := ((folB_iff _ _).1 (h3 i j hi hj h)).1; omega
  · subst h; rfl
  · have := ((folB_iff _ _).1 (h3 j i hj hi h)).1; omega
set_option maxHeartbeats 2000000 in
theorem rvKept_any (l : List Lea) (A : Option Addr) (c : Nat) (tick : Int) (w : World) (hn64 : l.length ≤ 64) (hv : vlB l = true) (h0 : 0 ≤ tick) (h1 : tick ≤ 1100000) (hA : RdL w w.heap.size A l) :
    Calls Tryz.prog 25 #[.slice A l.length c, .int .i64 tick] w fun e w' => ∃ A' c', e = .returned (.slice A' (keptL l tick).length c') ∧ (keptL l tick).length ≤ c' ∧ RdL w' w'.heap.size A' (keptL l tick) ∧ Below w.heap.size w w' := by
  by_cases h3 : 0 < l.length
  · obtain ⟨i0, hi, hz0, hz1, hz2⟩ := info_parts Ls.info_lease
    have HA := Lib.hid hA
    have HV := Lib.hid hv
    have j4 : decide ((0 : Int) < (l.length : Int)) = true := by simp; omega
    have j6 : decide (0 < l.length) = true := by simp; omega
    clear hA
    go_enter Tryz.func25, Tryz.ntmps25
    go_wp2_with fail
    refine (Ls.rExpire_own l A c tick w HV.out h0 h1 HA.out (by omega)).mono ?_
    rintro e V1 ⟨A1, c1, rfl, hc1, ho, hb⟩
    have HO := Lib.hid ho
    have HB := Lib.hid hb
    obtain ⟨L, hL⟩ : ∃ L, L = leftL l tick := ⟨_, rfl⟩
    have hL' : l.filter (lftB tick) = L := hL.symm
    rw [hL'] at HO hc1 ⊢
    have hLn : L.length ≤ l.length := by rw [hL]; exact left_len _ _
    have HLL := Lib.hid hL
    have HR : Hid (RdL V1 V1.heap.size A1 L) := Lib.hid (by obtain ⟨A9, c9, e9, _, hr9⟩ := own_read HO.out; have ea : A1 = A9 ∧ c1 = c9 := (by simpa using e9); rw [ea.1]; exact hr9)
    have HLW := Lib.hid (HA.out.next HB.out)
    have hbase := hb.size
    clear ho hb hL hL' hv
    by_cases h2 : L.length = 0
    · have l1 : ((L.length : Int) == 0) = true := by simp [h2]
      have HM : Hid (moreB l L = true) := by show _ = _; simp [moreB, h2]; omega
      have H2 := Lib.hid h2
      clear h2
      obtain ⟨bk, ok, rfl, _, z0, z1, z2, z3, z4⟩ := HLW.out.at_ (i := l.length - 1) (by omega)
      obtain ⟨y, hy⟩ : ∃ y, y = lastL l := ⟨_, rfl⟩
      rw [← getD_of (by omega : l.length - 1 < l.length), show l.getD (l.length - 1) l0 = y from hy.symm] at z0 z1 z2 z3 z4
      obtain ⟨k, hk⟩ : ∃ k, k = l.length - 1 := ⟨_, rfl⟩
      rw [← hk] at z0 z1 z2 z3 z4
      have j0k : (l.length : Int) - 1 = (k : Int) := by omega
      have j1k : (0 : Int) ≤ (k : Int) := by omega
      have j2k : (k : Int) < (l.length : Int) := by omega
      have j3k : IntKind.i64.wrap ((l.length : Int) - 1) = (k : Int) := by rw [IntWalk.i64_in _ (by omega)]; omega
      have Hy := Lib.hid hy
      clear hk hy
      have lbk : bk < V1.heap.size := World.block_lt_of_cell? V1 _ z0
      go_wp2
      go_quiet (fail)
      obtain ⟨W3, hW3⟩ : ∃ Zz, Zz = V1.drewN nq := ⟨_, rfl⟩
      have hb3 : Below V1.heap.size V1 W3 := by rw [hW3]; exact belowDrew (Below.refl _ _) _
      rw [← hW3]
      clear hW3
      obtain ⟨z0, z1, z2, z3, z4⟩ : (_ ∧ _ ∧ _ ∧ _ ∧ _) := ⟨(hb3.cell (p := ⟨bk, ok + k * 5, none⟩) lbk).trans z0, (hb3.cell (p := ⟨bk, ok + k * 5 + 1, none⟩) lbk).trans z1, (hb3.cell (p := ⟨bk, ok + k * 5 + 2, none⟩) lbk).trans z2, (hb3.cell (p := ⟨bk, ok + k * 5 + 3, none⟩) lbk).trans z3, (hb3.cell (p := ⟨bk, ok + k * 5 + 4, none⟩) lbk).trans z4⟩
      have HO3 := Lib.hid (Ls.own_next HO.out hb3)
      have HB3 := Lib.hid (bt hb3 HB.out)
      have hbase3 := HB3.out.size
      clear hb3 HO
      go_wp2_with (at_builtin; refine wpList_append_own _ rfl _ _ 32 rfl w.heap.size 26 i0 (.agg #[.int .i64 0, .int .i64 0, .int .i64 0, .int .i64 0, .int .i64 0]) 5 40 Tryz.underlying32 hi hz0 hz1 hz2 rfl (by decide) _ L.length (lsc L) rfl (HO3.out.alloc _) ⟨W3.heap.size, 0, none⟩ 1 1 [.int .i64 y.n, .int .i64 y.c, .int .i64 y.a, .int .i64 y.f, .int .i64 y.t] rfl rfl (Ls.news5 _ _ _ _ _ _ _) (by simp [Value.oneCell']) (by simp only [maxLen]; omega) (by omega) (by simp; omega) ?_; intro v' w1 hown' hgrow _)
      have HB4 : Hid (Below w.heap.size w w1) := HB3.out.trans (Ls.own_below HO3.out (Below.refl _ _) hgrow (by omega))
      have HO4 : Hid (w1.ownsRow w.heap.size 26 5 v' (L ++ [y]).length (lsc (L ++ [y]))) := Lib.hid (by rw [lsc_snoc, List.length_append]; exact hown')
      obtain ⟨A4, c4, rfl, hc4, hr4⟩ := own_read HO4.out
      have HR4 := Lib.hid hr4
      clear hown' hgrow hr4 z0 z1 z2 z3 z4
      go_wp2
      go_ret
      have e9 : keptL l tick = L ++ [y] := by rw [keptL, ← HLL.out, HM.out, Hy.out]; rfl
      exact ⟨A4, c4, by rw [e9]; rfl, by rw [e9]; exact hc4, by rw [e9]; exact HR4.out, HB4.out⟩
    · have l1 : ((L.length : Int) == 0) = false := by rw [beq_eq_false_iff_ne]; omega
      obtain ⟨bk, ok, rfl, _, z0, z1, z2, z3, z4⟩ := HLW.out.at_ (i := l.length - 1) (by omega)
      obtain ⟨y, hy⟩ : ∃ y, y = lastL l := ⟨_, rfl⟩
      rw [← getD_of (by omega : l.length - 1 < l.length), show l.getD (l.length - 1) l0 = y from hy.symm] at z0 z1 z2 z3 z4
      obtain ⟨k, hk⟩ : ∃ k, k = l.length - 1 := ⟨_, rfl⟩
      rw [← hk] at z0 z1 z2 z3 z4
      have j0k : (l.length : Int) - 1 = (k : Int) := by omega
      have j1k : (0 : Int) ≤ (k : Int) := by omega
      have j2k : (k : Int) < (l.length : Int) := by omega
      have j3k : IntKind.i64.wrap ((l.length : Int) - 1) = (k : Int) := by rw [IntWalk.i64_in _ (by omega)]; omega
      have Hy := Lib.hid hy
      clear hk hy
      have lbk : bk < V1.heap.size := World.block_lt_of_cell? V1 _ z0
      obtain ⟨bk5, ok5, rfl, _, u0, u1, u2, u3, u4⟩ := HR.out.at_ (i := L.length - 1) (by omega)
      obtain ⟨p, hp⟩ : ∃ y, y = lastL L := ⟨_, rfl⟩
      rw [← getD_of (by omega : L.length - 1 < L.length), show L.getD (L.length - 1) l0 = p from hp.symm] at u0 u1 u2 u3 u4
      obtain ⟨k5, hk5⟩ : ∃ k, k = L.length - 1 := ⟨_, rfl⟩
      rw [← hk5] at u0 u1 u2 u3 u4
      have j0k5 : (L.length : Int) - 1 = (k5 : Int) := by omega
      have j1k5 : (0 : Int) ≤ (k5 : Int) := by omega
      have j2k5 : (k5 : Int) < (L.length : Int) := by omega
      have j3k5 : IntKind.i64.wrap ((L.length : Int) - 1) = (k5 : Int) := by rw [IntWalk.i64_in _ (by omega)]; omega
      have Hp := Lib.hid hp
      clear hk5 hp
      have hgd := Ls.guardLease
      by_cases hq0 : p.n = y.n
      · have hmem : p = y := by
          have m1 : p ∈ l := by
            have : p ∈ L := by rw [Hp.out]; exact lastL_mem (fun e => h2 (by rw [e]; rfl))
            rw [HLL.out] at this
            exact (List.mem_filter.1 this).1
          have m2 : y ∈ l := by rw [Hy.out]; exact lastL_mem (fun e => by rw [e] at h3; simp at h3)
          exact vl_inj HV.out m1 m2 hq0
        have HM : Hid (moreB l L = false) := by show _ = _; rw [moreB, ← Hp.out, ← Hy.out, hq0, decide_eq_false h2]; simp
        clear hq0
        subst hmem
        have hq := Ls.eqLease p p
        have hpy : eqL p p = true := (eqL_iff _ _).2 rfl
        go_wp2
        go_quiet (fail)
        obtain ⟨W3, hW3⟩ : ∃ Zz, Zz = V1.drewN nq := ⟨_, rfl⟩
        have hb3 : Below V1.heap.size V1 W3 := by rw [hW3]; exact belowDrew (Below.refl _ _) _
        rw [← hW3]
        clear hW3
        clear hq hpy hgd z0 z1 z2 z3 z4 u0 u1 u2 u3 u4
        have HR3 := Lib.hid (HR.out.next hb3)
        have HB3 := Lib.hid (bt hb3 HB.out)
        clear hb3
        go_wp2
        go_ret
        have e9 : keptL l tick = L := by rw [keptL, ← HLL.out, HM.out]; simp
        exact ⟨_, c1, by rw [e9]; rfl, by rw [e9]; exact hc1, by rw [e9]; exact HR3.out, HB3.out⟩
      · have hq := Ls.eqLease p y
        have hpy : eqL p y = false := Bool.eq_false_iff.2 fun h => hq0 (by rw [(eqL_iff _ _).1 h])
        have HM : Hid (moreB l L = true) := by show _ = _; rw [moreB, ← Hp.out, ← Hy.out]; simp [hq0]; omega
        clear hq0
        go_wp2
        go_quiet (fail)
        obtain ⟨W3, hW3⟩ : ∃ Zz, Zz = V1.drewN nq := ⟨_, rfl⟩
        have hb3 : Below V1.heap.size V1 W3 := by rw [hW3]; exact belowDrew (Below.refl _ _) _
        rw [← hW3]
        clear hW3
        clear hq hpy hgd
        obtain ⟨z0, z1, z2, z3, z4⟩ : (_ ∧ _ ∧ _ ∧ _ ∧ _) := ⟨(hb3.cell (p := ⟨bk, ok + k * 5, none⟩) lbk).trans z0, (hb3.cell (p := ⟨bk, ok + k * 5 + 1, none⟩) lbk).trans z1, (hb3.cell (p := ⟨bk, ok + k * 5 + 2, none⟩) lbk).trans z2, (hb3.cell (p := ⟨bk, ok + k * 5 + 3, none⟩) lbk).trans z3, (hb3.cell (p := ⟨bk, ok + k * 5 + 4, none⟩) lbk).trans z4⟩
        have HO3 := Lib.hid (Ls.own_next HO.out hb3)
        have HB3 := Lib.hid (bt hb3 HB.out)
        have hbase3 := HB3.out.size
        clear hb3 HO
        clear u0 u1 u2 u3 u4
        go_wp2_with (at_builtin; refine wpList_append_own _ rfl _ _ 32 rfl w.heap.size 26 i0 (.agg #[.int .i64 0, .int .i64 0, .int .i64 0, .int .i64 0, .int .i64 0]) 5 40 Tryz.underlying32 hi hz0 hz1 hz2 rfl (by decide) _ L.length (lsc L) rfl (HO3.out.alloc _) ⟨W3.heap.size, 0, none⟩ 1 1 [.int .i64 y.n, .int .i64 y.c, .int .i64 y.a, .int .i64 y.f, .int .i64 y.t] rfl rfl (Ls.news5 _ _ _ _ _ _ _) (by simp [Value.oneCell']) (by simp only [maxLen]; omega) (by omega) (by simp; omega) ?_; intro v' w1 hown' hgrow _)
        have HB4 : Hid (Below w.heap.size w w1) := HB3.out.trans (Ls.own_below HO3.out (Below.refl _ _) hgrow (by omega))
        have HO4 : Hid (w1.ownsRow w.heap.size 26 5 v' (L ++ [y]).length (lsc (L ++ [y]))) := Lib.hid (by rw [lsc_snoc, List.length_append]; exact hown')
        obtain ⟨A4, c4, rfl, hc4, hr4⟩ := own_read HO4.out
        have HR4 := Lib.hid hr4
        clear hown' hgrow hr4 z0 z1 z2 z3 z4
        go_wp2
        go_ret
        have e9 : keptL l tick = L ++ [y] := by rw [keptL, ← HLL.out, HM.out, Hy.out]; rfl
        exact ⟨A4, c4, by rw [e9]; rfl, by rw [e9]; exact hc4, by rw [e9]; exact HR4.out, HB4.out⟩
  · exact rvKept_nil l A c tick w (by omega) hv h0 h1 hA
end Go.Proofs.YthebojaminploaaGreatDoor
