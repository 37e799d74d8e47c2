/- The law TopLeaseEnds, walked. -/
import Derived.Test.YtlfogcidklpeiaaDoorEc
import Derived.Test.YtlfogcidklpeiaaDoorBOpen
import Derived.Deep.Cut
import Derived.Deep.CutRange
set_option maxRecDepth 100000
set_option linter.unusedVariables false
set_option linter.unusedSimpArgs false
namespace Go.Proofs.YtlfogcidklpeiaaDoor
open Go.RowKit Go.Sort Ck

/-- how many ticks of the lease are left when tick t begins, by a clock with drift d, the lease having come in tick L -/
def lvT (d L T t : Int) : Int := if t ≤ L then 0 else max 0 (T - (shownI t d - shownI L d))
def avT (d L T A t : Int) : Int := if lvT d L T t = 0 then 0 else A
theorem lv_nn (d L T t : Int) : 0 ≤ lvT d L T t := by unfold lvT; split <;> omega
theorem lv_le {d L T t : Int} (d0 : -200 ≤ d) (d1 : d ≤ 200) (hT : 0 ≤ T) : lvT d L T t ≤ T := by
  unfold lvT
  split
  · omega
  · have := shown_far (L := L) (t := t) (d := d) (by omega) d0 d1
    omega
theorem lv_next {d L T t m : Int} (h : t ≠ L) (hm : m = shownI (t + 1) d - shownI t d) (m0 : 0 ≤ m) : lvT d L T (t + 1) = max 0 (lvT d L T t - m) := by
  unfold lvT
  by_cases h1 : t ≤ L
  · rw [if_pos (by omega), if_pos h1]; omega
  · rw [if_neg (by omega), if_neg h1]; omega
theorem lv_here {d L T m : Int} (hm : m = shownI (L + 1) d - shownI L d) : lvT d L T (L + 1) = max 0 (T - m) := by
  unfold lvT
  rw [if_neg (by omega)]; omega
theorem lv_left {d L T t : Int} (h : lvT d L T (t + 1) ≠ 0) : L ≤ t ∧ shownI (t + 1) d - shownI L d < T := by
  unfold lvT at h
  split at h
  · exact absurd rfl h
  · omega
theorem chk {c : Chg} (hc : c.Ok) {d L A F T t : Int} {p : Nat} (hx : oneB ⟨1, 0, A, F, T⟩ = true) (h0 : F ≤ L) (h1 : L ≤ F + 10) (d0 : -200 ≤ d) (d1 : d ≤ 200) :
    alw c p (avT d L T A (t + 1)) (lvT d L T (t + 1)) ≤ max c.fb (if aliB t ⟨1, 0, A, F, T⟩ = true then A else 0) := by
  have hA := ((oneB_iff _).1 hx)
  simp only at hA
  have hfb : 0 ≤ c.fb := by obtain ⟨_, _, g, _, _, _, _, h⟩ := hc; omega
  unfold alw avT
  by_cases hp : (p : Int) ≠ 4
  · rw [if_pos hp]; omega
  · rw [if_neg hp]
    by_cases hl : lvT d L T (t + 1) = 0
    · rw [if_neg (by simpa using hl)]; omega
    · rw [if_pos hl, if_neg hl]
      obtain ⟨g1, g2⟩ := lv_left hl
      have := ends_alive (x := ⟨1, 0, A, F, T⟩) hx h0 h1 g1 d0 d1 g2
      rw [if_pos this]; omega
theorem Alive_one (x : Lea) (hx : oneB x = true) (hc : x.c = 0) (t v : Int) (h0 : 0 ≤ t) (h1 : t ≤ 1100000) (hv : (if aliB t x = true then x.a else 0) = v) (G : Nat) (w : World) (hk : Bk w G 30 #[.int .i64 x.n, .int .i64 x.c, .int .i64 x.a, .int .i64 x.f, .int .i64 x.t]) :
    Calls Tryd.prog 6 #[.slice (some ⟨G, 0, none⟩) 1 1, .int .i64 1, .int .i64 t] w fun e w' => ∃ g o c, e = .returned (.tuple #[.slice (some ⟨g, o, none⟩) 1 c, .int .i64 0]) ∧ 1 ≤ c ∧ w.heap.size ≤ g ∧ g < w'.heap.size ∧ w'.cell? ⟨g, o, none⟩ = some (.int .i64 v) ∧ Below w.heap.size w w' := by
  have h := Alive_any [x] (some ⟨G, 0, none⟩) 1 1 t w (RdL.of_bk hk hk.lt) (by simp)
  obtain ⟨e1, e2⟩ := one_alive (t := t) hx hc h0 h1
  rw [e1, e2, hv] at h
  refine h.mono ?_
  rintro e w' ⟨A, c, rfl, hcl, ⟨hr, hn⟩, hb⟩
  obtain ⟨g, o, rfl, hg, hcell⟩ := hr.at_ (k := 0) (by simp)
  exact ⟨g, o, c, rfl, hcl, hn g o rfl, hg, by simpa using hcell, hb⟩
theorem Shown_lit (t d N : Int) (h0 : 0 ≤ t) (h1 : t ≤ 1000000) (d0 : -200 ≤ d) (d1 : d ≤ 200) (hN : shownI t d = N) (w : World) :
    Calls Tryd.prog 7 #[.int .i64 t, .int .i64 d] w fun e w' => e = .returned (.tuple #[.int .i64 N, .int .i64 0]) ∧ w = w' := hN ▸ Shown_yes t d h0 h1 d0 d1 w
theorem gMax2 {P : Program} (w : World) (ts : Array TypeId) (t : TypeId) (k k' : IntKind) (x y : Int) : (Builtin.max_ ts t #[.int k x, .int k' y]).run P w = .ok (.int k (max x y)) w := by
  have e : (if y > x then y else x) = max x y := by split <;> omega
  rw [← e]
  simp [Builtin.max_, Builtin.max2]
theorem shown_nn {t d : Int} (h0 : 0 ≤ t) (d0 : -200 ≤ d) : 0 ≤ shownI t d := by
  unfold shownI
  have := Int.mul_nonneg h0 (show 0 ≤ 1000000 + d by omega)
  omega
theorem shown_hi {t d : Int} (h0 : 0 ≤ t) (h1 : t ≤ 1000000) (d0 : -200 ≤ d) (d1 : d ≤ 200) : shownI t d ≤ 2000000 := by
  unfold shownI
  obtain ⟨e, a, b⟩ := mul_bd t d h0 h1 d0 d1
  omega
set_option maxHeartbeats 8000000 in
theorem TopLeaseEnds_walk (c : Chg) (p0 a0 l0 : Int) (wd : Bool) (d fr lt A lg : Int) (ev : List UInt8) (Ae : Option Addr) (ce : Nat) (w : World) (f0 : 0 ≤ fr) (f1 : fr ≤ 4294967295) (t0 : 0 ≤ lt) (t1 : lt ≤ 255) (g0 : 0 ≤ lg) (g1 : lg ≤ 255) (hE : RdB w w.heap.size Ae ev) (hn : ev.length ≤ 9223372036854775807) (hA : Af w) :
    Calls Tryd.prog 3 #[.agg #[.string c.nm, .int .i64 c.no, .int .i64 c.ph, .int .i64 c.mn, .int .i64 c.mx, .int .i64 c.st, .int .i64 c.fb, .int .i64 c.ow], .agg #[.int .i64 p0, .int .i64 a0, .int .i64 l0, .bool wd], .int .i64 d, .int .u32 fr, .int .u8 lt, .int .i64 A, .int .u8 lg, .slice Ae ev.length ce] w fun e w' => e = .returned (.bool true) ∧ Below w.heap.size w w' := by
  have HA := Lib.hid hA
  have HE := Lib.hid hE
  clear hA hE
  go_enter Tryd.func3, Tryd.ntmps3
  go_wp2_with fail
  obtain ⟨K, hK⟩ : ∃ K, K = w.heap.size := ⟨_, rfl⟩
  rw [← hK]
  obtain ⟨V0, hV0⟩ : ∃ Zz, Zz = (w.alloc (.cells #[.string c.nm, .int .i64 c.no, .int .i64 c.ph, .int .i64 c.mn, .int .i64 c.mx, .int .i64 c.st, .int .i64 c.fb, .int .i64 c.ow] 23)).alloc (.cells #[.int .i64 p0, .int .i64 a0, .int .i64 l0, .bool wd] 25) := ⟨_, rfl⟩
  have k1 : Bk V0 K 23 #[.string c.nm, .int .i64 c.no, .int .i64 c.ph, .int .i64 c.mn, .int .i64 c.mx, .int .i64 c.st, .int .i64 c.fb, .int .i64 c.ow] := by rw [hV0, hK]; exact bkOf (by simp [at?_alloc])
  have k2 : Bk V0 (K + 1) 25 #[.int .i64 p0, .int .i64 a0, .int .i64 l0, .bool wd] := by rw [hV0, hK]; exact bkOf (by simp [at?_alloc])
  have hbV : Below w.heap.size w V0 := by rw [hV0]; exact al2 _ _ _
  rw [← hV0]
  clear hV0
  have K1 := Lib.hid k1
  have K2 := Lib.hid k2
  have HB := Lib.hid hbV
  have HKW := Lib.hid hK
  clear hK k1 k2 hbV
  refine (r7Lease_any V0 (HA.out.next HB.out)).mono ?_
  rintro e W1 ⟨rfl, hb⟩
  replace K1 := Lib.hid (K1.out.next hb)
  replace K2 := Lib.hid (K2.out.next hb)
  replace HB := Lib.hid (bt hb HB.out)
  clear hb
  obtain ⟨F, hF⟩ : ∃ F, fr % 999800 = F := ⟨_, rfl⟩
  obtain ⟨T0, hT0⟩ : ∃ T0, lg % 60 = T0 := ⟨_, rfl⟩
  obtain ⟨L0, hL0⟩ : ∃ L0, lt % 11 = L0 := ⟨_, rfl⟩
  have F0 : 0 ≤ F := by omega
  have F1 : F < 999800 := by omega
  have T00 : 0 ≤ T0 := by omega
  have T01 : T0 < 60 := by omega
  have L00 : 0 ≤ L0 := by omega
  have L01 : L0 < 11 := by omega
  obtain ⟨c0, c1, c2, c3, c4, c5, c6, c7⟩ := bx8 K1.out
  have lk := K1.out.lt
  obtain ⟨s0, s1, s2, s3⟩ := bx4 K2.out
  have ls := K2.out.lt
  go_wp2_with fail
  obtain ⟨X, hX⟩ : ∃ X, X = W1.heap.size := ⟨_, rfl⟩
  rw [← hX]
  obtain ⟨T, hT⟩ : ∃ T, T = 1 + T0 := ⟨_, rfl⟩
  rw [← hT]
  obtain ⟨V2, hV2⟩ : ∃ Zz, Zz = W1.alloc (.cells #[.int .i64 1, .int .i64 0, .int .i64 A, .int .i64 F, .int .i64 T] 30) := ⟨_, rfl⟩
  have hb : Below W1.heap.size W1 V2 := by rw [hV2]; exact al1 _ _
  have k3 : Bk V2 X 30 #[.int .i64 1, .int .i64 0, .int .i64 A, .int .i64 F, .int .i64 T] := by rw [hV2, hX]; exact Bk.new _ _ _
  rw [← hV2]
  clear hV2
  replace K1 := Lib.hid (K1.out.next hb)
  replace K2 := Lib.hid (K2.out.next hb)
  have K3 := Lib.hid k3
  have HXK : Hid (K + 1 < X) := by show _ < _; rw [hX]; exact ls
  replace HB := Lib.hid (bt hb HB.out)
  clear hb k3 hX c0 c1 c2 c3 c4 c5 c6 c7 s0 s1 s2 s3 ls lk hT0
  have T1 : 1 ≤ T := by omega
  have T2 : T ≤ 60 := by omega
  clear hT
  refine (rValid_any c p0 a0 l0 wd V2).mono ?_
  rintro e W2 ⟨v, rfl, hv, hb⟩
  replace K1 := Lib.hid (K1.out.next hb)
  replace K2 := Lib.hid (K2.out.next hb)
  replace K3 := Lib.hid (K3.out.next hb)
  replace HB := Lib.hid (bt hb HB.out)
  clear hb
  obtain ⟨c0, c1, c2, c3, c4, c5, c6, c7⟩ := bx8 K1.out
  have lk := K1.out.lt
  obtain ⟨s0, s1, s2, s3⟩ := bx4 K2.out
  have ls := K2.out.lt
  cases v
  · go_wp2
    go_ret
    exact ⟨rfl, HB.out⟩
  · obtain ⟨hok, p00, p01, l00, l01, a00, a01, hla⟩ := hv rfl
    have HCO := Lib.hid hok
    clear hv hok
    by_cases hl : l0 = 0
    · obtain rfl : a0 = 0 := hla hl
      subst hl
      clear hla
      cases wd
      · by_cases d1 : d < -200
        · go_wp2
          go_ret
          exact ⟨rfl, HB.out⟩
        · by_cases d2 : 200 < d
          · go_wp2
            go_ret
            exact ⟨rfl, HB.out⟩
          · by_cases d3 : A < 0
            · go_wp2
              go_ret
              exact ⟨rfl, HB.out⟩
            · by_cases d4 : c.mx < A
              · go_wp2
                go_ret
                exact ⟨rfl, HB.out⟩
              · obtain ⟨p, rfl⟩ := Int.eq_ofNat_of_zero_le p00
                have dr0 : -200 ≤ d := by omega
                have dr1 : d ≤ 200 := by omega
                have A0 : 0 ≤ A := by omega
                have HMX : Hid (A ≤ c.mx) := by show _ ≤ _; omega
                have A1 : A ≤ 80 := by have := HCO.out.2.2.2.1; omega
                have HX1 : Hid (oneB ⟨1, 0, A, F, T⟩ = true) := (oneB_iff _).2 ⟨by simp only; omega, by simp only; omega, by simp only; omega, by simp only; omega, by simp only; omega, by simp only; omega, by simp only; omega, by simp only; omega, by simp only; omega, by simp only; omega⟩
                obtain ⟨L, hL⟩ : ∃ L, L = F + L0 := ⟨_, rfl⟩
                have La0 : F ≤ L := by omega
                have La1 : L ≤ F + 10 := by omega
                obtain ⟨x0, x1, x2, x3, x4⟩ := box5 K3.out
                have lx := K3.out.lt
                go_wp2_with fail
                rw [← hL]
                clear c0 c1 c2 c3 c4 c5 c6 c7 s0 s1 s2 s3 ls lk x0 x1 x2 x3 x4 lx hL hL0 hF d1 d2 d3 d4
                have HZ1 : Hid (lvT d L T (F + ((0 : Nat) : Int)) = 0) := by show _ = _; unfold lvT; rw [if_pos (by simp; omega)]
                have HZ2 : Hid (avT d L T A (F + ((0 : Nat) : Int)) = 0) := by show _ = _; unfold avT; rw [if_pos HZ1.out]
                go_loopw [20] (fun v20 wr => ∃ k : Nat, v20 = .int .i64 (F + (k : Int)) ∧ k ≤ 90 ∧ Bk wr K 23 #[.string c.nm, .int .i64 c.no, .int .i64 c.ph, .int .i64 c.mn, .int .i64 c.mx, .int .i64 c.st, .int .i64 c.fb, .int .i64 c.ow] ∧ ∃ p : Nat, p ≤ 5 ∧ Bk wr (K + 1) 25 #[.int .i64 (p : Int), .int .i64 (avT d L T A (F + (k : Int))), .int .i64 (lvT d L T (F + (k : Int))), .bool false] ∧ Bk wr X 30 #[.int .i64 1, .int .i64 0, .int .i64 A, .int .i64 F, .int .i64 T] ∧ Below w.heap.size w wr) (fun v20 _ => (F + 90 - intOf v20).toNat)
                case atStart => exact ⟨0, by simp, by omega, K1.out, p, by omega, by rw [HZ1.out, HZ2.out]; exact K2.out, K3.out, HB.out⟩
                case round =>
                  obtain ⟨k, rfl, hk, k1, p, hp, k2, k3, hbx⟩ := hrel
                  clear K1 K2 K3 HB p01
                  have K1 := Lib.hid k1
                  have K2 := Lib.hid k2
                  have K3 := Lib.hid k3
                  have HB := Lib.hid hbx
                  clear k1 k2 k3 hbx
                  by_cases hlt : k < 90
                  · obtain ⟨t, ht⟩ : ∃ t : Int, t = F + (k : Int) := ⟨_, rfl⟩
                    rw [← ht] at K2 ⊢
                    have t0 : 0 ≤ t := by omega
                    have t1 : t ≤ 999900 := by omega
                    have t2 : t < F + 90 := by omega
                    have t3 : t - F = (k : Int) := by omega
                    have t4 : F ≤ t := by omega
                    obtain ⟨a, ha⟩ : ∃ a, a = avT d L T A t := ⟨_, rfl⟩
                    obtain ⟨l, hl⟩ : ∃ l, l = lvT d L T t := ⟨_, rfl⟩
                    have l0 : 0 ≤ l := by rw [hl]; exact lv_nn _ _ _ _
                    have l1 : l ≤ T := by rw [hl]; exact lv_le dr0 dr1 (by omega)
                    have HSO : Hid (Cst.Ok c ⟨p, a, l, false⟩) := ⟨by simp only; omega, by simp only; omega, l0, by simp only; omega, by simp only [ha, avT]; split <;> omega, by simp only [ha, avT]; have := HMX.out; split <;> omega, fun h => by simp only [ha, avT]; rw [← hl, if_pos h], rfl⟩
                    rw [← ha, ← hl] at K2
                    have HAQ := Lib.hid ha
                    have HLQ := Lib.hid hl
                    obtain ⟨V, hV⟩ : ∃ V, (if aliB t ⟨1, 0, A, F, T⟩ = true then A else 0) = V := ⟨_, rfl⟩
                    have HV := Lib.hid hV
                    have HT := Lib.hid ht
                    clear ha hl hV ht
                    obtain ⟨x0, x1, x2, x3, x4⟩ := box5 K3.out
                    have lx := K3.out.lt
                    go_wp2_with fail
                    obtain ⟨G, hG⟩ : ∃ G, G = wr.heap.size := ⟨_, rfl⟩
                    rw [← hG]
                    obtain ⟨W9, hW9⟩ : ∃ Zz, Zz = wr.alloc (.cells #[.int .i64 1, .int .i64 0, .int .i64 A, .int .i64 F, .int .i64 T] 30) := ⟨_, rfl⟩
                    have hb : Below wr.heap.size wr W9 := by rw [hW9]; exact al1 _ _
                    have kg : Bk W9 G 30 #[.int .i64 1, .int .i64 0, .int .i64 A, .int .i64 F, .int .i64 T] := by rw [hW9, hG]; exact Bk.new _ _ _
                    rw [← hW9]
                    clear hW9
                    replace K1 := Lib.hid (K1.out.next hb)
                    replace K2 := Lib.hid (K2.out.next hb)
                    replace K3 := Lib.hid (K3.out.next hb)
                    replace HB := Lib.hid (bt hb HB.out)
                    clear hb hG
                    have HKS : Hid (K + 1 < W9.heap.size) := K2.out.lt
                    clear x0 x1 x2 x3 x4 lx
                    refine (Alive_one ⟨1, 0, A, F, T⟩ HX1.out rfl t V (by omega) (by omega) HV.out G W9 kg).mono ?_
                    rintro e W2 ⟨ga, oa, ca, rfl, hca, hga1, hga2, hva, hb⟩
                    replace K1 := Lib.hid (K1.out.next hb)
                    replace K2 := Lib.hid (K2.out.next hb)
                    replace K3 := Lib.hid (K3.out.next hb)
                    replace HB := Lib.hid (bt hb HB.out)
                    have VA := Lib.hid hva
                    have HGA := Lib.hid hga2
                    have HGK : Hid (K + 1 < ga) := by show _ < _; have := HKS.out; omega
                    have ca0 : (0 : Int) < (1 : Int) := by omega
                    clear kg hva hga1 hga2 hb
                    obtain ⟨N0, hN0⟩ : ∃ N, shownI t d = N := ⟨_, rfl⟩
                    obtain ⟨N1, hN1⟩ : ∃ N, shownI (t + 1) d = N := ⟨_, rfl⟩
                    have hst := shown_step (t := t) (d := d) t0 dr0 dr1
                    rw [hN0, hN1] at hst
                    obtain ⟨hst0, hst1⟩ := hst
                    have HN0 := Lib.hid hN0
                    have HN1 := Lib.hid hN1
                    have nb0 : 0 ≤ N0 := by rw [← hN0]; exact shown_nn t0 dr0
                    have nb1 : N0 ≤ 2000000 := by rw [← hN0]; exact shown_hi t0 (by omega) dr0 dr1
                    clear hN0 hN1
                    go_wp2_with fail
                    refine (Shown_lit t d N0 (by omega) (by omega) (by omega) (by omega) HN0.out _).mono ?_
                    rintro e w' ⟨rfl, rfl⟩
                    go_wp2_with fail
                    refine (Shown_lit (t + 1) d N1 (by omega) (by omega) (by omega) (by omega) HN1.out _).mono ?_
                    rintro e w' ⟨rfl, rfl⟩
                    obtain ⟨x0, x1, x2, x3, x4⟩ := box5 K3.out
                    have lx := K3.out.lt
                    go_upto_if 147 with fail
                    clear x0 x1 x2 x3 x4 lx
                    obtain ⟨wc0, hwc0⟩ : ∃ Zz, Zz = W2 := ⟨_, rfl⟩
                    rw [← hwc0] at K1 K2 K3 HB VA HGA ⊢
                    clear hwc0

                    go_cut [27, 28, 29, 30, 31] from 86 to 211 (fun v27 v28 v29 v30 v31 wx => ∃ p' : Nat, p' ≤ 5 ∧ Bk wx K 23 #[.string c.nm, .int .i64 c.no, .int .i64 c.ph, .int .i64 c.mn, .int .i64 c.mx, .int .i64 c.st, .int .i64 c.fb, .int .i64 c.ow] ∧ Bk wx (K + 1) 25 #[.int .i64 (p' : Int), .int .i64 a, .int .i64 l, .bool false] ∧ Bk wx X 30 #[.int .i64 1, .int .i64 0, .int .i64 A, .int .i64 F, .int .i64 T] ∧ wx.cell? ⟨ga, oa, none⟩ = some (.int .i64 V) ∧ ga < wx.heap.size ∧ Below w.heap.size w wx)
                    case first =>
                      by_cases hev : k < ev.length
                      · obtain ⟨be, oe, hAe, hbe, ce⟩ := (RdB.below HE.out HB.out).at_ hev
                        obtain ⟨kb, hkb⟩ : ∃ kb : Int, kb = (ev[k].toNat : Int) := ⟨_, rfl⟩
                        have kb1 := ev[k].toNat_lt
                        have kb2 : 0 ≤ kb := by omega
                        have kb3 : kb ≤ 255 := by omega
                        obtain ⟨kd, hkd⟩ : ∃ kd : Int, kb % 6 = kd := ⟨_, rfl⟩
                        have kd1 : 0 ≤ kd := by omega
                        have kd2 : kd ≤ 5 := by omega
                        rw [← hkb] at ce
                        subst hAe
                        have ev0 : (0 : Int) ≤ (k : Int) := by omega
                        have ev1 : (k : Int) < (ev.length : Int) := by omega
                        have hbe2 : be < wc0.heap.size := by have := HB.out.size; omega
                        clear hkb kb1
                        by_cases h4 : kd = 3
                        · subst h4
                          obtain ⟨c0, c1, c2, c3, c4, c5, c6, c7⟩ := bx8 K1.out
                          have lk := K1.out.lt
                          obtain ⟨s0, s1, s2, s3⟩ := bx4 K2.out
                          have fs0 := K2.out.frozen 0
                          have fs1 := K2.out.frozen 1
                          have fs2 := K2.out.frozen 2
                          have fs3 := K2.out.frozen 3
                          have ls := K2.out.lt
                          obtain ⟨x0, x1, x2, x3, x4⟩ := box5 K3.out
                          have lx := K3.out.lt
                          go_wp2_with fail
                          refine (Step_evt c p a l 4 1 _ HCO.out HSO.out (HA.out.next HB.out) (by omega) (by omega) (by omega)).mono ?_
                          rintro e W3 ⟨y1, y2, y3, er, rfl, hok, hb⟩
                          clear c0 c1 c2 c3 c4 c5 c6 c7 lk
                          clear s0 s1 s2 s3 fs0 fs1 fs2 fs3 ls
                          clear x0 x1 x2 x3 x4 lx
                          replace K1 := Lib.hid (K1.out.next hb)
                          replace K2 := Lib.hid (K2.out.next hb)
                          replace K3 := Lib.hid (K3.out.next hb)
                          replace HB := Lib.hid (bt hb HB.out)
                          replace VA := Lib.hid (hb.cell (p := ⟨ga, oa, none⟩) HGA.out |>.trans VA.out)
                          replace HGA := Lib.hid (Nat.lt_of_lt_of_le HGA.out hb.size)
                          clear ce hbe hbe2 hb
                          by_cases her : er = 0
                          · obtain ⟨p', hp', e1, e2, e3⟩ := hok her
                            have e2' := e2.symm
                            have e3' := e3.symm
                            subst e1 e2' e3'
                            subst her
                            clear hok hkd
                            obtain ⟨c0, c1, c2, c3, c4, c5, c6, c7⟩ := bx8 K1.out
                            have lk := K1.out.lt
                            obtain ⟨s0, s1, s2, s3⟩ := bx4 K2.out
                            have fs0 := K2.out.frozen 0
                            have fs1 := K2.out.frozen 1
                            have fs2 := K2.out.frozen 2
                            have fs3 := K2.out.frozen 3
                            have ls := K2.out.lt
                            obtain ⟨x0, x1, x2, x3, x4⟩ := box5 K3.out
                            have lx := K3.out.lt
                            go_wp2
                            clear c0 c1 c2 c3 c4 c5 c6 c7 lk
                            clear s0 s1 s2 s3 fs0 fs1 fs2 fs3 ls
                            clear x0 x1 x2 x3 x4 lx
                            obtain ⟨U, hU⟩ : ∃ Zz, Zz = (((W3.setCell ⟨K + 1, 0, none⟩ (.int .i64 (p' : Int))).setCell ⟨K + 1, 1, none⟩ (.int .i64 a)).setCell ⟨K + 1, 2, none⟩ (.int .i64 l)).setCell ⟨K + 1, 3, none⟩ (.bool false) := ⟨_, rfl⟩
                            have k1 : Bk U K 23 #[.string c.nm, .int .i64 c.no, .int .i64 c.ph, .int .i64 c.mn, .int .i64 c.mx, .int .i64 c.st, .int .i64 c.fb, .int .i64 c.ow] := by rw [hU]; exact ((((K1.out.far (p := ⟨K + 1, 0, none⟩) (by simp only; omega) ((.int .i64 (p' : Int)))).far (p := ⟨K + 1, 1, none⟩) (by simp only; omega) ((.int .i64 a))).far (p := ⟨K + 1, 2, none⟩) (by simp only; omega) ((.int .i64 l))).far (p := ⟨K + 1, 3, none⟩) (by simp only; omega) ((.bool false)))
                            have k2 : Bk U (K + 1) 25 #[.int .i64 (p' : Int), .int .i64 a, .int .i64 l, .bool false] := by rw [hU]; have := ((((K2.out.set 0 ((.int .i64 (p' : Int)))).set 1 ((.int .i64 a))).set 2 ((.int .i64 l))).set 3 ((.bool false))); simpa using this
                            have k3 : Bk U X 30 #[.int .i64 1, .int .i64 0, .int .i64 A, .int .i64 F, .int .i64 T] := by rw [hU]; exact ((((K3.out.far (p := ⟨K + 1, 0, none⟩) (by have := HXK.out; simp only; omega) ((.int .i64 (p' : Int)))).far (p := ⟨K + 1, 1, none⟩) (by have := HXK.out; simp only; omega) ((.int .i64 a))).far (p := ⟨K + 1, 2, none⟩) (by have := HXK.out; simp only; omega) ((.int .i64 l))).far (p := ⟨K + 1, 3, none⟩) (by have := HXK.out; simp only; omega) ((.bool false)))
                            have hbx : Below w.heap.size w U := by rw [hU]; exact ((((HB.out.setCell (p := ⟨K + 1, 0, none⟩) (by have := HKW.out; simp only; omega) _).setCell (p := ⟨K + 1, 1, none⟩) (by have := HKW.out; simp only; omega) _).setCell (p := ⟨K + 1, 2, none⟩) (by have := HKW.out; simp only; omega) _).setCell (p := ⟨K + 1, 3, none⟩) (by have := HKW.out; simp only; omega) _)
                            have va : U.cell? ⟨ga, oa, none⟩ = some (.int .i64 V) := by rw [hU]; exact ((World.cell?_setCell_other _ ⟨K + 1, 3, none⟩ ⟨ga, oa, none⟩ (.bool false) (fun e => by injection e with e _; have := HGK.out; omega)).trans ((World.cell?_setCell_other _ ⟨K + 1, 2, none⟩ ⟨ga, oa, none⟩ (.int .i64 l) (fun e => by injection e with e _; have := HGK.out; omega)).trans ((World.cell?_setCell_other _ ⟨K + 1, 1, none⟩ ⟨ga, oa, none⟩ (.int .i64 a) (fun e => by injection e with e _; have := HGK.out; omega)).trans ((World.cell?_setCell_other _ ⟨K + 1, 0, none⟩ ⟨ga, oa, none⟩ (.int .i64 (p' : Int)) (fun e => by injection e with e _; have := HGK.out; omega)).trans VA.out))))
                            have hga : ga < U.heap.size := by rw [hU]; have := HGA.out; simpa [World.setCell] using this
                            rw [← hU]
                            clear hU
                            replace K1 := Lib.hid k1
                            replace K2 := Lib.hid k2
                            replace K3 := Lib.hid k3
                            replace HB := Lib.hid hbx
                            replace VA := Lib.hid va
                            replace HGA := Lib.hid hga
                            clear k1 k2 k3 hbx va hga
                            obtain ⟨Y9, hY9⟩ : ∃ Zz, Zz = U.alloc (.cells #[.int .i64 (p' : Int), .int .i64 a, .int .i64 l, .bool false] 25) := ⟨_, rfl⟩
                            have hb : Below U.heap.size U Y9 := by rw [hY9]; exact al1 _ _
                            rw [← hY9]
                            clear hY9
                            replace K1 := Lib.hid (K1.out.next hb)
                            replace K2 := Lib.hid (K2.out.next hb)
                            replace K3 := Lib.hid (K3.out.next hb)
                            replace HB := Lib.hid (bt hb HB.out)
                            replace VA := Lib.hid (hb.cell (p := ⟨ga, oa, none⟩) HGA.out |>.trans VA.out)
                            replace HGA := Lib.hid (Nat.lt_of_lt_of_le HGA.out hb.size)
                            clear hb
                            go_meet
                            exact ⟨p', by omega, K1.out, K2.out, K3.out, VA.out, HGA.out, HB.out⟩
                          · have her1 : (er == 0) = false := by rw [beq_eq_false_iff_ne]; exact her
                            clear hok her hkd
                            obtain ⟨c0, c1, c2, c3, c4, c5, c6, c7⟩ := bx8 K1.out
                            have lk := K1.out.lt
                            obtain ⟨s0, s1, s2, s3⟩ := bx4 K2.out
                            have fs0 := K2.out.frozen 0
                            have fs1 := K2.out.frozen 1
                            have fs2 := K2.out.frozen 2
                            have fs3 := K2.out.frozen 3
                            have ls := K2.out.lt
                            obtain ⟨x0, x1, x2, x3, x4⟩ := box5 K3.out
                            have lx := K3.out.lt
                            go_wp2
                            clear c0 c1 c2 c3 c4 c5 c6 c7 lk
                            clear s0 s1 s2 s3 fs0 fs1 fs2 fs3 ls
                            clear x0 x1 x2 x3 x4 lx
                            obtain ⟨Y9, hY9⟩ : ∃ Zz, Zz = W3.alloc (.cells #[.int .i64 y1, .int .i64 y2, .int .i64 y3, .bool false] 25) := ⟨_, rfl⟩
                            have hb : Below W3.heap.size W3 Y9 := by rw [hY9]; exact al1 _ _
                            rw [← hY9]
                            clear hY9
                            replace K1 := Lib.hid (K1.out.next hb)
                            replace K2 := Lib.hid (K2.out.next hb)
                            replace K3 := Lib.hid (K3.out.next hb)
                            replace HB := Lib.hid (bt hb HB.out)
                            replace VA := Lib.hid (hb.cell (p := ⟨ga, oa, none⟩) HGA.out |>.trans VA.out)
                            replace HGA := Lib.hid (Nat.lt_of_lt_of_le HGA.out hb.size)
                            clear hb
                            go_meet
                            exact ⟨p, by omega, K1.out, K2.out, K3.out, VA.out, HGA.out, HB.out⟩
                        · have h41 : (1 + kd == 4) = false := by rw [beq_eq_false_iff_ne]; omega
                          obtain ⟨c0, c1, c2, c3, c4, c5, c6, c7⟩ := bx8 K1.out
                          have lk := K1.out.lt
                          obtain ⟨s0, s1, s2, s3⟩ := bx4 K2.out
                          have fs0 := K2.out.frozen 0
                          have fs1 := K2.out.frozen 1
                          have fs2 := K2.out.frozen 2
                          have fs3 := K2.out.frozen 3
                          have ls := K2.out.lt
                          obtain ⟨x0, x1, x2, x3, x4⟩ := box5 K3.out
                          have lx := K3.out.lt
                          go_wp2_with fail
                          refine (Step_evt c p a l (1 + kd) 0 _ HCO.out HSO.out (HA.out.next HB.out) (by omega) (by omega) (by omega)).mono ?_
                          rintro e W3 ⟨y1, y2, y3, er, rfl, hok, hb⟩
                          clear c0 c1 c2 c3 c4 c5 c6 c7 lk
                          clear s0 s1 s2 s3 fs0 fs1 fs2 fs3 ls
                          clear x0 x1 x2 x3 x4 lx
                          replace K1 := Lib.hid (K1.out.next hb)
                          replace K2 := Lib.hid (K2.out.next hb)
                          replace K3 := Lib.hid (K3.out.next hb)
                          replace HB := Lib.hid (bt hb HB.out)
                          replace VA := Lib.hid (hb.cell (p := ⟨ga, oa, none⟩) HGA.out |>.trans VA.out)
                          replace HGA := Lib.hid (Nat.lt_of_lt_of_le HGA.out hb.size)
                          clear ce hbe hbe2 hb h41
                          by_cases her : er = 0
                          · obtain ⟨p', hp', e1, e2, e3⟩ := hok her
                            have e2' := e2.symm
                            have e3' := e3.symm
                            subst e1 e2' e3'
                            subst her
                            clear hok hkd
                            obtain ⟨c0, c1, c2, c3, c4, c5, c6, c7⟩ := bx8 K1.out
                            have lk := K1.out.lt
                            obtain ⟨s0, s1, s2, s3⟩ := bx4 K2.out
                            have fs0 := K2.out.frozen 0
                            have fs1 := K2.out.frozen 1
                            have fs2 := K2.out.frozen 2
                            have fs3 := K2.out.frozen 3
                            have ls := K2.out.lt
                            obtain ⟨x0, x1, x2, x3, x4⟩ := box5 K3.out
                            have lx := K3.out.lt
                            go_wp2
                            clear c0 c1 c2 c3 c4 c5 c6 c7 lk
                            clear s0 s1 s2 s3 fs0 fs1 fs2 fs3 ls
                            clear x0 x1 x2 x3 x4 lx
                            obtain ⟨U, hU⟩ : ∃ Zz, Zz = (((W3.setCell ⟨K + 1, 0, none⟩ (.int .i64 (p' : Int))).setCell ⟨K + 1, 1, none⟩ (.int .i64 a)).setCell ⟨K + 1, 2, none⟩ (.int .i64 l)).setCell ⟨K + 1, 3, none⟩ (.bool false) := ⟨_, rfl⟩
                            have k1 : Bk U K 23 #[.string c.nm, .int .i64 c.no, .int .i64 c.ph, .int .i64 c.mn, .int .i64 c.mx, .int .i64 c.st, .int .i64 c.fb, .int .i64 c.ow] := by rw [hU]; exact ((((K1.out.far (p := ⟨K + 1, 0, none⟩) (by simp only; omega) ((.int .i64 (p' : Int)))).far (p := ⟨K + 1, 1, none⟩) (by simp only; omega) ((.int .i64 a))).far (p := ⟨K + 1, 2, none⟩) (by simp only; omega) ((.int .i64 l))).far (p := ⟨K + 1, 3, none⟩) (by simp only; omega) ((.bool false)))
                            have k2 : Bk U (K + 1) 25 #[.int .i64 (p' : Int), .int .i64 a, .int .i64 l, .bool false] := by rw [hU]; have := ((((K2.out.set 0 ((.int .i64 (p' : Int)))).set 1 ((.int .i64 a))).set 2 ((.int .i64 l))).set 3 ((.bool false))); simpa using this
                            have k3 : Bk U X 30 #[.int .i64 1, .int .i64 0, .int .i64 A, .int .i64 F, .int .i64 T] := by rw [hU]; exact ((((K3.out.far (p := ⟨K + 1, 0, none⟩) (by have := HXK.out; simp only; omega) ((.int .i64 (p' : Int)))).far (p := ⟨K + 1, 1, none⟩) (by have := HXK.out; simp only; omega) ((.int .i64 a))).far (p := ⟨K + 1, 2, none⟩) (by have := HXK.out; simp only; omega) ((.int .i64 l))).far (p := ⟨K + 1, 3, none⟩) (by have := HXK.out; simp only; omega) ((.bool false)))
                            have hbx : Below w.heap.size w U := by rw [hU]; exact ((((HB.out.setCell (p := ⟨K + 1, 0, none⟩) (by have := HKW.out; simp only; omega) _).setCell (p := ⟨K + 1, 1, none⟩) (by have := HKW.out; simp only; omega) _).setCell (p := ⟨K + 1, 2, none⟩) (by have := HKW.out; simp only; omega) _).setCell (p := ⟨K + 1, 3, none⟩) (by have := HKW.out; simp only; omega) _)
                            have va : U.cell? ⟨ga, oa, none⟩ = some (.int .i64 V) := by rw [hU]; exact ((World.cell?_setCell_other _ ⟨K + 1, 3, none⟩ ⟨ga, oa, none⟩ (.bool false) (fun e => by injection e with e _; have := HGK.out; omega)).trans ((World.cell?_setCell_other _ ⟨K + 1, 2, none⟩ ⟨ga, oa, none⟩ (.int .i64 l) (fun e => by injection e with e _; have := HGK.out; omega)).trans ((World.cell?_setCell_other _ ⟨K + 1, 1, none⟩ ⟨ga, oa, none⟩ (.int .i64 a) (fun e => by injection e with e _; have := HGK.out; omega)).trans ((World.cell?_setCell_other _ ⟨K + 1, 0, none⟩ ⟨ga, oa, none⟩ (.int .i64 (p' : Int)) (fun e => by injection e with e _; have := HGK.out; omega)).trans VA.out))))
                            have hga : ga < U.heap.size := by rw [hU]; have := HGA.out; simpa [World.setCell] using this
                            rw [← hU]
                            clear hU
                            replace K1 := Lib.hid k1
                            replace K2 := Lib.hid k2
                            replace K3 := Lib.hid k3
                            replace HB := Lib.hid hbx
                            replace VA := Lib.hid va
                            replace HGA := Lib.hid hga
                            clear k1 k2 k3 hbx va hga
                            obtain ⟨Y9, hY9⟩ : ∃ Zz, Zz = U.alloc (.cells #[.int .i64 (p' : Int), .int .i64 a, .int .i64 l, .bool false] 25) := ⟨_, rfl⟩
                            have hb : Below U.heap.size U Y9 := by rw [hY9]; exact al1 _ _
                            rw [← hY9]
                            clear hY9
                            replace K1 := Lib.hid (K1.out.next hb)
                            replace K2 := Lib.hid (K2.out.next hb)
                            replace K3 := Lib.hid (K3.out.next hb)
                            replace HB := Lib.hid (bt hb HB.out)
                            replace VA := Lib.hid (hb.cell (p := ⟨ga, oa, none⟩) HGA.out |>.trans VA.out)
                            replace HGA := Lib.hid (Nat.lt_of_lt_of_le HGA.out hb.size)
                            clear hb
                            go_meet
                            exact ⟨p', by omega, K1.out, K2.out, K3.out, VA.out, HGA.out, HB.out⟩
                          · have her1 : (er == 0) = false := by rw [beq_eq_false_iff_ne]; exact her
                            clear hok her hkd
                            obtain ⟨c0, c1, c2, c3, c4, c5, c6, c7⟩ := bx8 K1.out
                            have lk := K1.out.lt
                            obtain ⟨s0, s1, s2, s3⟩ := bx4 K2.out
                            have fs0 := K2.out.frozen 0
                            have fs1 := K2.out.frozen 1
                            have fs2 := K2.out.frozen 2
                            have fs3 := K2.out.frozen 3
                            have ls := K2.out.lt
                            obtain ⟨x0, x1, x2, x3, x4⟩ := box5 K3.out
                            have lx := K3.out.lt
                            go_wp2
                            clear c0 c1 c2 c3 c4 c5 c6 c7 lk
                            clear s0 s1 s2 s3 fs0 fs1 fs2 fs3 ls
                            clear x0 x1 x2 x3 x4 lx
                            obtain ⟨Y9, hY9⟩ : ∃ Zz, Zz = W3.alloc (.cells #[.int .i64 y1, .int .i64 y2, .int .i64 y3, .bool false] 25) := ⟨_, rfl⟩
                            have hb : Below W3.heap.size W3 Y9 := by rw [hY9]; exact al1 _ _
                            rw [← hY9]
                            clear hY9
                            replace K1 := Lib.hid (K1.out.next hb)
                            replace K2 := Lib.hid (K2.out.next hb)
                            replace K3 := Lib.hid (K3.out.next hb)
                            replace HB := Lib.hid (bt hb HB.out)
                            replace VA := Lib.hid (hb.cell (p := ⟨ga, oa, none⟩) HGA.out |>.trans VA.out)
                            replace HGA := Lib.hid (Nat.lt_of_lt_of_le HGA.out hb.size)
                            clear hb
                            go_meet
                            exact ⟨p, by omega, K1.out, K2.out, K3.out, VA.out, HGA.out, HB.out⟩
                      · have ev1 : ¬ (k : Int) < (ev.length : Int) := by omega
                        obtain ⟨c0, c1, c2, c3, c4, c5, c6, c7⟩ := bx8 K1.out
                        have lk := K1.out.lt
                        obtain ⟨s0, s1, s2, s3⟩ := bx4 K2.out
                        have fs0 := K2.out.frozen 0
                        have fs1 := K2.out.frozen 1
                        have fs2 := K2.out.frozen 2
                        have fs3 := K2.out.frozen 3
                        have ls := K2.out.lt
                        obtain ⟨x0, x1, x2, x3, x4⟩ := box5 K3.out
                        have lx := K3.out.lt
                        go_wp2
                        clear c0 c1 c2 c3 c4 c5 c6 c7 lk
                        clear s0 s1 s2 s3 fs0 fs1 fs2 fs3 ls
                        clear x0 x1 x2 x3 x4 lx
                        go_meet
                        exact ⟨p, by omega, K1.out, K2.out, K3.out, VA.out, HGA.out, HB.out⟩
                    case rest =>
                      obtain ⟨p', hp', k1, k2, k3, va, hga, hbx⟩ := hcut
                      clear K1 K2 K3 VA HGA HB HSO
                      obtain ⟨V5, hV5⟩ : ∃ Zz, Zz = wc := ⟨_, rfl⟩
                      rw [← hV5] at k1 k2 k3 va hga hbx ⊢
                      have K1 := Lib.hid k1
                      have K2 := Lib.hid k2
                      have K3 := Lib.hid k3
                      have VA := Lib.hid va
                      have HGA := Lib.hid hga
                      have HB := Lib.hid hbx
                      clear hV5 k1 k2 k3 va hga hbx
                      have z0 : 0 ≤ a := by rw [HAQ.out]; unfold avT; split <;> omega
                      have z1 : a ≤ A := by rw [HAQ.out]; unfold avT; split <;> omega
                      have z2 : l = 0 → a = 0 := fun h => by rw [HAQ.out]; unfold avT; rw [← HLQ.out, if_pos h]
                      have HSO : Hid (Cst.Ok c ⟨p', a, l, false⟩) := ⟨by simp only; omega, by simp only; omega, l0, by simp only; omega, z0, by simp only; have := HMX.out; omega, z2, rfl⟩
                      by_cases htl : t = L
                      · subst htl
                        obtain ⟨c0, c1, c2, c3, c4, c5, c6, c7⟩ := bx8 K1.out
                        have lk := K1.out.lt
                        obtain ⟨s0, s1, s2, s3⟩ := bx4 K2.out
                        have fs0 := K2.out.frozen 0
                        have fs1 := K2.out.frozen 1
                        have fs2 := K2.out.frozen 2
                        have fs3 := K2.out.frozen 3
                        have ls := K2.out.lt
                        obtain ⟨x0, x1, x2, x3, x4⟩ := box5 K3.out
                        have lx := K3.out.lt
                        go_wp2_with fail
                        refine (Step_7 c p' a l A T _ HCO.out HSO.out (HA.out.next HB.out) (by omega) HMX.out (by omega) (by omega)).mono ?_
                        rintro e W3 ⟨rfl, hb⟩
                        clear c0 c1 c2 c3 c4 c5 c6 c7 lk
                        clear s0 s1 s2 s3 fs0 fs1 fs2 fs3 ls
                        clear x0 x1 x2 x3 x4 lx
                        replace K1 := Lib.hid (K1.out.next hb)
                        replace K2 := Lib.hid (K2.out.next hb)
                        replace K3 := Lib.hid (K3.out.next hb)
                        replace HB := Lib.hid (bt hb HB.out)
                        replace VA := Lib.hid (hb.cell (p := ⟨ga, oa, none⟩) HGA.out |>.trans VA.out)
                        replace HGA := Lib.hid (Nat.lt_of_lt_of_le HGA.out hb.size)
                        clear hb z0 z1 z2
                        obtain ⟨c0, c1, c2, c3, c4, c5, c6, c7⟩ := bx8 K1.out
                        have lk := K1.out.lt
                        obtain ⟨s0, s1, s2, s3⟩ := bx4 K2.out
                        have fs0 := K2.out.frozen 0
                        have fs1 := K2.out.frozen 1
                        have fs2 := K2.out.frozen 2
                        have fs3 := K2.out.frozen 3
                        have ls := K2.out.lt
                        obtain ⟨x0, x1, x2, x3, x4⟩ := box5 K3.out
                        have lx := K3.out.lt
                        go_wp2_with fail
                        clear c0 c1 c2 c3 c4 c5 c6 c7 lk
                        clear s0 s1 s2 s3 fs0 fs1 fs2 fs3 ls
                        clear x0 x1 x2 x3 x4 lx
                        obtain ⟨U, hU⟩ : ∃ Zz, Zz = (((W3.setCell ⟨K + 1, 0, none⟩ (.int .i64 (p' : Int))).setCell ⟨K + 1, 1, none⟩ (.int .i64 A)).setCell ⟨K + 1, 2, none⟩ (.int .i64 T)).setCell ⟨K + 1, 3, none⟩ (.bool false) := ⟨_, rfl⟩
                        have k1 : Bk U K 23 #[.string c.nm, .int .i64 c.no, .int .i64 c.ph, .int .i64 c.mn, .int .i64 c.mx, .int .i64 c.st, .int .i64 c.fb, .int .i64 c.ow] := by rw [hU]; exact ((((K1.out.far (p := ⟨K + 1, 0, none⟩) (by simp only; omega) ((.int .i64 (p' : Int)))).far (p := ⟨K + 1, 1, none⟩) (by simp only; omega) ((.int .i64 A))).far (p := ⟨K + 1, 2, none⟩) (by simp only; omega) ((.int .i64 T))).far (p := ⟨K + 1, 3, none⟩) (by simp only; omega) ((.bool false)))
                        have k2 : Bk U (K + 1) 25 #[.int .i64 (p' : Int), .int .i64 A, .int .i64 T, .bool false] := by rw [hU]; have := ((((K2.out.set 0 ((.int .i64 (p' : Int)))).set 1 ((.int .i64 A))).set 2 ((.int .i64 T))).set 3 ((.bool false))); simpa using this
                        have k3 : Bk U X 30 #[.int .i64 1, .int .i64 0, .int .i64 A, .int .i64 F, .int .i64 T] := by rw [hU]; exact ((((K3.out.far (p := ⟨K + 1, 0, none⟩) (by have := HXK.out; simp only; omega) ((.int .i64 (p' : Int)))).far (p := ⟨K + 1, 1, none⟩) (by have := HXK.out; simp only; omega) ((.int .i64 A))).far (p := ⟨K + 1, 2, none⟩) (by have := HXK.out; simp only; omega) ((.int .i64 T))).far (p := ⟨K + 1, 3, none⟩) (by have := HXK.out; simp only; omega) ((.bool false)))
                        have hbx : Below w.heap.size w U := by rw [hU]; exact ((((HB.out.setCell (p := ⟨K + 1, 0, none⟩) (by have := HKW.out; simp only; omega) _).setCell (p := ⟨K + 1, 1, none⟩) (by have := HKW.out; simp only; omega) _).setCell (p := ⟨K + 1, 2, none⟩) (by have := HKW.out; simp only; omega) _).setCell (p := ⟨K + 1, 3, none⟩) (by have := HKW.out; simp only; omega) _)
                        have va : U.cell? ⟨ga, oa, none⟩ = some (.int .i64 V) := by rw [hU]; exact ((World.cell?_setCell_other _ ⟨K + 1, 3, none⟩ ⟨ga, oa, none⟩ (.bool false) (fun e => by injection e with e _; have := HGK.out; omega)).trans ((World.cell?_setCell_other _ ⟨K + 1, 2, none⟩ ⟨ga, oa, none⟩ (.int .i64 T) (fun e => by injection e with e _; have := HGK.out; omega)).trans ((World.cell?_setCell_other _ ⟨K + 1, 1, none⟩ ⟨ga, oa, none⟩ (.int .i64 A) (fun e => by injection e with e _; have := HGK.out; omega)).trans ((World.cell?_setCell_other _ ⟨K + 1, 0, none⟩ ⟨ga, oa, none⟩ (.int .i64 (p' : Int)) (fun e => by injection e with e _; have := HGK.out; omega)).trans VA.out))))
                        have hga : ga < U.heap.size := by rw [hU]; have := HGA.out; simpa [World.setCell] using this
                        rw [← hU]
                        clear hU
                        replace K1 := Lib.hid k1
                        replace K2 := Lib.hid k2
                        replace K3 := Lib.hid k3
                        replace HB := Lib.hid hbx
                        replace VA := Lib.hid va
                        replace HGA := Lib.hid hga
                        clear k1 k2 k3 hbx va hga
                        obtain ⟨Y5, hY5⟩ : ∃ Zz, Zz = U.alloc (.cells #[.int .i64 (p' : Int), .int .i64 A, .int .i64 T, .bool false] 25) := ⟨_, rfl⟩
                        have hb : Below U.heap.size U Y5 := by rw [hY5]; exact al1 _ _
                        rw [← hY5]
                        clear hY5
                        replace K1 := Lib.hid (K1.out.next hb)
                        replace K2 := Lib.hid (K2.out.next hb)
                        replace K3 := Lib.hid (K3.out.next hb)
                        replace HB := Lib.hid (bt hb HB.out)
                        replace VA := Lib.hid (hb.cell (p := ⟨ga, oa, none⟩) HGA.out |>.trans VA.out)
                        replace HGA := Lib.hid (Nat.lt_of_lt_of_le HGA.out hb.size)
                        clear hb
                        obtain ⟨c0, c1, c2, c3, c4, c5, c6, c7⟩ := bx8 K1.out
                        have lk := K1.out.lt
                        obtain ⟨s0, s1, s2, s3⟩ := bx4 K2.out
                        have fs0 := K2.out.frozen 0
                        have fs1 := K2.out.frozen 1
                        have fs2 := K2.out.frozen 2
                        have fs3 := K2.out.frozen 3
                        have ls := K2.out.lt
                        obtain ⟨x0, x1, x2, x3, x4⟩ := box5 K3.out
                        have lx := K3.out.lt
                        go_wp2_with fail
                        clear c0 c1 c2 c3 c4 c5 c6 c7 lk
                        clear s0 s1 s2 s3 fs0 fs1 fs2 fs3 ls
                        clear x0 x1 x2 x3 x4 lx
                        go_loopw [189] (fun j wr => ∃ m : Nat, j = .int .i64 (m : Int) ∧ (m : Int) ≤ N1 - N0 ∧ Bk wr K 23 #[.string c.nm, .int .i64 c.no, .int .i64 c.ph, .int .i64 c.mn, .int .i64 c.mx, .int .i64 c.st, .int .i64 c.fb, .int .i64 c.ow] ∧ Bk wr X 30 #[.int .i64 1, .int .i64 0, .int .i64 A, .int .i64 F, .int .i64 T] ∧ wr.cell? ⟨ga, oa, none⟩ = some (.int .i64 V) ∧ ga < wr.heap.size ∧ Below w.heap.size w wr ∧ ∃ aa la, Bk wr (K + 1) 25 #[.int .i64 (p' : Int), .int .i64 aa, .int .i64 la, .bool false] ∧ la = max 0 (T - (m : Int)) ∧ aa = if la = 0 then 0 else A) (fun j _ => (N1 - N0 - intOf j).toNat)
                        case atStart => exact ⟨0, rfl, by simp; omega, K1.out, K3.out, VA.out, HGA.out, HB.out, A, T, K2.out, by simp; omega, by split <;> omega⟩
                        case round =>
                          clear K1 K2 K3 VA HGA HB
                          obtain ⟨m, rfl, hm, k1, k3, va, hga, hbx, aa, la, k2, hla, haa⟩ := hrel
                          have K1 := Lib.hid k1
                          have K2 := Lib.hid k2
                          have K3 := Lib.hid k3
                          have VA := Lib.hid va
                          have HGA := Lib.hid hga
                          have HB := Lib.hid hbx
                          have y0 : 0 ≤ la := by omega
                          have y1 : la ≤ 1000000 := by omega
                          have y2 : 0 ≤ aa := by rw [haa]; split <;> omega
                          have y3 : aa ≤ c.mx := by rw [haa]; have := HMX.out; split <;> omega
                          have y4 : la = 0 → aa = 0 := fun h => by rw [haa, if_pos h]
                          have HSQ : Hid (Cst.Ok c ⟨p', aa, la, false⟩) := ⟨by simp only; omega, by simp only; omega, y0, y1, y2, y3, y4, rfl⟩
                          have HLA := Lib.hid hla
                          have HAA := Lib.hid haa
                          clear k1 k2 k3 va hga hbx hla haa y2 y3 y4
                          by_cases hml : (m : Int) < N1 - N0
                          · obtain ⟨l2, hl2⟩ : ∃ l2 : Int, l2 = if la ≤ 1 then 0 else la - 1 := ⟨_, rfl⟩
                            obtain ⟨a2, ha2⟩ : ∃ a2 : Int, a2 = if la ≤ 1 then 0 else aa := ⟨_, rfl⟩
                            have HL2 := Lib.hid hl2
                            have HA2 := Lib.hid ha2
                            have HLN : Hid (l2 = max 0 (T - ((m + 1 : Nat) : Int))) := by
                              show _ = _
                              have := HLA.out
                              rw [hl2]; push_cast
                              split <;> omega
                            have HAN : Hid (a2 = if l2 = 0 then 0 else A) := by
                              show _ = _
                              have h9 := HAA.out
                              rw [ha2, hl2]
                              by_cases h1 : la ≤ 1
                              · rw [if_pos h1, if_pos h1, if_pos rfl]
                              · rw [if_neg h1, if_neg h1, if_neg (by omega), h9, if_neg (by omega)]
                            clear hl2 ha2
                            obtain ⟨c0, c1, c2, c3, c4, c5, c6, c7⟩ := bx8 K1.out
                            have lk := K1.out.lt
                            obtain ⟨s0, s1, s2, s3⟩ := bx4 K2.out
                            have fs0 := K2.out.frozen 0
                            have fs1 := K2.out.frozen 1
                            have fs2 := K2.out.frozen 2
                            have fs3 := K2.out.frozen 3
                            have ls := K2.out.lt
                            obtain ⟨x0, x1, x2, x3, x4⟩ := box5 K3.out
                            have lx := K3.out.lt
                            go_wp2_with fail
                            refine (Step_8 c p' aa la a2 l2 _ HA2.out HL2.out HCO.out HSQ.out (HA.out.next HB.out)).mono ?_
                            rintro e W6 ⟨rfl, hb⟩
                            clear c0 c1 c2 c3 c4 c5 c6 c7 lk
                            clear s0 s1 s2 s3 fs0 fs1 fs2 fs3 ls
                            clear x0 x1 x2 x3 x4 lx
                            replace K1 := Lib.hid (K1.out.next hb)
                            replace K2 := Lib.hid (K2.out.next hb)
                            replace K3 := Lib.hid (K3.out.next hb)
                            replace HB := Lib.hid (bt hb HB.out)
                            replace VA := Lib.hid (hb.cell (p := ⟨ga, oa, none⟩) HGA.out |>.trans VA.out)
                            replace HGA := Lib.hid (Nat.lt_of_lt_of_le HGA.out hb.size)
                            clear hb
                            obtain ⟨c0, c1, c2, c3, c4, c5, c6, c7⟩ := bx8 K1.out
                            have lk := K1.out.lt
                            obtain ⟨s0, s1, s2, s3⟩ := bx4 K2.out
                            have fs0 := K2.out.frozen 0
                            have fs1 := K2.out.frozen 1
                            have fs2 := K2.out.frozen 2
                            have fs3 := K2.out.frozen 3
                            have ls := K2.out.lt
                            obtain ⟨x0, x1, x2, x3, x4⟩ := box5 K3.out
                            have lx := K3.out.lt
                            go_wp2
                            clear c0 c1 c2 c3 c4 c5 c6 c7 lk
                            clear s0 s1 s2 s3 fs0 fs1 fs2 fs3 ls
                            clear x0 x1 x2 x3 x4 lx
                            obtain ⟨U, hU⟩ : ∃ Zz, Zz = (((W6.setCell ⟨K + 1, 0, none⟩ (.int .i64 (p' : Int))).setCell ⟨K + 1, 1, none⟩ (.int .i64 a2)).setCell ⟨K + 1, 2, none⟩ (.int .i64 l2)).setCell ⟨K + 1, 3, none⟩ (.bool false) := ⟨_, rfl⟩
                            have k1 : Bk U K 23 #[.string c.nm, .int .i64 c.no, .int .i64 c.ph, .int .i64 c.mn, .int .i64 c.mx, .int .i64 c.st, .int .i64 c.fb, .int .i64 c.ow] := by rw [hU]; exact ((((K1.out.far (p := ⟨K + 1, 0, none⟩) (by simp only; omega) ((.int .i64 (p' : Int)))).far (p := ⟨K + 1, 1, none⟩) (by simp only; omega) ((.int .i64 a2))).far (p := ⟨K + 1, 2, none⟩) (by simp only; omega) ((.int .i64 l2))).far (p := ⟨K + 1, 3, none⟩) (by simp only; omega) ((.bool false)))
                            have k2 : Bk U (K + 1) 25 #[.int .i64 (p' : Int), .int .i64 a2, .int .i64 l2, .bool false] := by rw [hU]; have := ((((K2.out.set 0 ((.int .i64 (p' : Int)))).set 1 ((.int .i64 a2))).set 2 ((.int .i64 l2))).set 3 ((.bool false))); simpa using this
                            have k3 : Bk U X 30 #[.int .i64 1, .int .i64 0, .int .i64 A, .int .i64 F, .int .i64 T] := by rw [hU]; exact ((((K3.out.far (p := ⟨K + 1, 0, none⟩) (by have := HXK.out; simp only; omega) ((.int .i64 (p' : Int)))).far (p := ⟨K + 1, 1, none⟩) (by have := HXK.out; simp only; omega) ((.int .i64 a2))).far (p := ⟨K + 1, 2, none⟩) (by have := HXK.out; simp only; omega) ((.int .i64 l2))).far (p := ⟨K + 1, 3, none⟩) (by have := HXK.out; simp only; omega) ((.bool false)))
                            have hbx : Below w.heap.size w U := by rw [hU]; exact ((((HB.out.setCell (p := ⟨K + 1, 0, none⟩) (by have := HKW.out; simp only; omega) _).setCell (p := ⟨K + 1, 1, none⟩) (by have := HKW.out; simp only; omega) _).setCell (p := ⟨K + 1, 2, none⟩) (by have := HKW.out; simp only; omega) _).setCell (p := ⟨K + 1, 3, none⟩) (by have := HKW.out; simp only; omega) _)
                            have va : U.cell? ⟨ga, oa, none⟩ = some (.int .i64 V) := by rw [hU]; exact ((World.cell?_setCell_other _ ⟨K + 1, 3, none⟩ ⟨ga, oa, none⟩ (.bool false) (fun e => by injection e with e _; have := HGK.out; omega)).trans ((World.cell?_setCell_other _ ⟨K + 1, 2, none⟩ ⟨ga, oa, none⟩ (.int .i64 l2) (fun e => by injection e with e _; have := HGK.out; omega)).trans ((World.cell?_setCell_other _ ⟨K + 1, 1, none⟩ ⟨ga, oa, none⟩ (.int .i64 a2) (fun e => by injection e with e _; have := HGK.out; omega)).trans ((World.cell?_setCell_other _ ⟨K + 1, 0, none⟩ ⟨ga, oa, none⟩ (.int .i64 (p' : Int)) (fun e => by injection e with e _; have := HGK.out; omega)).trans VA.out))))
                            have hga : ga < U.heap.size := by rw [hU]; have := HGA.out; simpa [World.setCell] using this
                            rw [← hU]
                            clear hU
                            replace K1 := Lib.hid k1
                            replace K2 := Lib.hid k2
                            replace K3 := Lib.hid k3
                            replace HB := Lib.hid hbx
                            replace VA := Lib.hid va
                            replace HGA := Lib.hid hga
                            clear k1 k2 k3 hbx va hga
                            obtain ⟨Y7, hY7⟩ : ∃ Zz, Zz = U.alloc (.cells #[.int .i64 (p' : Int), .int .i64 a2, .int .i64 l2, .bool false] 25) := ⟨_, rfl⟩
                            have hb : Below U.heap.size U Y7 := by rw [hY7]; exact al1 _ _
                            rw [← hY7]
                            clear hY7
                            replace K1 := Lib.hid (K1.out.next hb)
                            replace K2 := Lib.hid (K2.out.next hb)
                            replace K3 := Lib.hid (K3.out.next hb)
                            replace HB := Lib.hid (bt hb HB.out)
                            replace VA := Lib.hid (hb.cell (p := ⟨ga, oa, none⟩) HGA.out |>.trans VA.out)
                            replace HGA := Lib.hid (Nat.lt_of_lt_of_le HGA.out hb.size)
                            clear hb
                            have hmm : ((m + 1 : Nat) : Int) ≤ N1 - N0 := by push_cast; omega
                            go_roundw
                            case rel => exact ⟨m + 1, by go_num, hmm, K1.out, K3.out, VA.out, HGA.out, HB.out, a2, l2, K2.out, HLN.out, HAN.out⟩
                            case measure => simp [intOf]; omega
                          · have hmN : (m : Int) = N1 - N0 := by omega
                            have HL1 : Hid (la = lvT d t T (t + 1)) := by
                              show _ = _
                              rw [HLA.out, hmN]
                              exact (lv_here (by rw [HN0.out, HN1.out])).symm
                            have HA1 : Hid (aa = avT d t T A (t + 1)) := by
                              show _ = _
                              rw [HAA.out, avT, ← HL1.out]

                            obtain ⟨r, hr⟩ : ∃ r, alw c p' aa la = r := ⟨_, rfl⟩
                            obtain ⟨M, hM⟩ : ∃ M : Int, max c.fb V = M := ⟨_, rfl⟩
                            have hrm : ¬ M < r := by
                              have := chk (p := p') (t := t) HCO.out HX1.out La0 La1 dr0 dr1
                              rw [← HL1.out, ← HA1.out, hr, HV.out, hM] at this
                              omega
                            have hmx : ∀ W ts t, (Builtin.max_ ts t #[.int .i64 c.fb, .int .i64 V]).run Tryd.prog W = .ok (.int .i64 M) W := fun W ts t => by rw [gMax2, hM]
                            have HR := Lib.hid hr
                            clear hr hM hml
                            obtain ⟨c0, c1, c2, c3, c4, c5, c6, c7⟩ := bx8 K1.out
                            have lk := K1.out.lt
                            obtain ⟨s0, s1, s2, s3⟩ := bx4 K2.out
                            have fs0 := K2.out.frozen 0
                            have fs1 := K2.out.frozen 1
                            have fs2 := K2.out.frozen 2
                            have fs3 := K2.out.frozen 3
                            have ls := K2.out.lt
                            obtain ⟨x0, x1, x2, x3, x4⟩ := box5 K3.out
                            have lx := K3.out.lt
                            have va := VA.out
                            go_wp2_with fail
                            obtain ⟨U9, hU9⟩ : ∃ Zz, Zz = wr := ⟨_, rfl⟩
                            rw [← hU9] at K1 K2 K3 HB VA HGA c0 c1 c2 c3 c4 c5 c6 c7 s0 s1 s2 s3 fs0 fs1 fs2 fs3 x0 x1 x2 x3 x4 va ls lk lx ⊢
                            clear hU9
                            have Rc0 := cell_regrown c0
                            have Rc1 := cell_regrown c1
                            have Rc2 := cell_regrown c2
                            have Rc3 := cell_regrown c3
                            have Rc4 := cell_regrown c4
                            have Rc5 := cell_regrown c5
                            have Rc6 := cell_regrown c6
                            have Rc7 := cell_regrown c7
                            have Rs0 := cell_regrown s0
                            have Rs1 := cell_regrown s1
                            have Rs2 := cell_regrown s2
                            have Rs3 := cell_regrown s3
                            have Rva := cell_regrown va
                            have CQ := fun (d : Nat) (os : Array Obj) => Calls.regrown_of (Allowed_lit c p' aa la r (grow (redrawn U9 d) os) HCO.out HSQ.out HR.out)
                            refine wp_region_quiet_below (by kernel_rfl) (by kernel_rfl) ?_
                            repeat (first | go_big_quiet_step (first | (with_reducible exact CQ _ _)) | quiet_step (first | (with_reducible exact CQ _ _)))
                            refine wpQuiet_nil ?_
                            intro _ hw'
                            obtain ⟨⟨dq, osq⟩, hw''⟩ := hw'
                            subst hw''
                            obtain ⟨W8, hW8⟩ : ∃ V, V = grow (redrawn U9 dq) osq := ⟨_, rfl⟩
                            have hbW8 : Below U9.heap.size U9 W8 := by rw [hW8]; exact below_regrown _ _ _
                            rw [← hW8]
                            clear hW8
                            clear Rc0
                            clear Rc1
                            clear Rc2
                            clear Rc3
                            clear Rc4
                            clear Rc5
                            clear Rc6
                            clear Rc7
                            clear Rs0
                            clear Rs1
                            clear Rs2
                            clear Rs3
                            clear Rva
                            clear CQ
                            replace K1 := Lib.hid (K1.out.next hbW8)
                            replace K2 := Lib.hid (K2.out.next hbW8)
                            replace K3 := Lib.hid (K3.out.next hbW8)
                            replace HB := Lib.hid (bt hbW8 HB.out)
                            clear hbW8
                            rw [HL1.out, HA1.out] at K2
                            have HT1 : Hid (t + 1 = F + ((k + 1 : Nat) : Int)) := by show _ = _; have := HT.out; push_cast; omega
                            clear hmx ls lk lx c0 c1 c2 c3 c4 c5 c6 c7 s0 s1 s2 s3 fs0 fs1 fs2 fs3 x0 x1 x2 x3 x4 va
                            go_wp2
                            rw [HT1.out] at K2 ⊢
                            go_roundw
                            case rel => first
                              | exact ⟨k + 1, rfl, by omega, K1.out, p', hp', K2.out, K3.out, HB.out⟩
                              | ((repeat apply Exists.intro); exact ⟨⟨k + 1, rfl, by omega, K1.out, p', hp', K2.out, K3.out, HB.out⟩, rfl⟩)
                            case measure => simp [intOf]; omega
                      · have htl2 : (t == L) = false := by rw [beq_eq_false_iff_ne]; exact htl
                        obtain ⟨c0, c1, c2, c3, c4, c5, c6, c7⟩ := bx8 K1.out
                        have lk := K1.out.lt
                        obtain ⟨s0, s1, s2, s3⟩ := bx4 K2.out
                        have fs0 := K2.out.frozen 0
                        have fs1 := K2.out.frozen 1
                        have fs2 := K2.out.frozen 2
                        have fs3 := K2.out.frozen 3
                        have ls := K2.out.lt
                        obtain ⟨x0, x1, x2, x3, x4⟩ := box5 K3.out
                        have lx := K3.out.lt
                        go_wp2_with fail
                        clear c0 c1 c2 c3 c4 c5 c6 c7 lk
                        clear s0 s1 s2 s3 fs0 fs1 fs2 fs3 ls
                        clear x0 x1 x2 x3 x4 lx
                        go_loopw [189] (fun j wr => ∃ m : Nat, j = .int .i64 (m : Int) ∧ (m : Int) ≤ N1 - N0 ∧ Bk wr K 23 #[.string c.nm, .int .i64 c.no, .int .i64 c.ph, .int .i64 c.mn, .int .i64 c.mx, .int .i64 c.st, .int .i64 c.fb, .int .i64 c.ow] ∧ Bk wr X 30 #[.int .i64 1, .int .i64 0, .int .i64 A, .int .i64 F, .int .i64 T] ∧ wr.cell? ⟨ga, oa, none⟩ = some (.int .i64 V) ∧ ga < wr.heap.size ∧ Below w.heap.size w wr ∧ ∃ aa la, Bk wr (K + 1) 25 #[.int .i64 (p' : Int), .int .i64 aa, .int .i64 la, .bool false] ∧ la = max 0 (l - (m : Int)) ∧ aa = if la = 0 then 0 else a) (fun j _ => (N1 - N0 - intOf j).toNat)
                        case atStart => exact ⟨0, rfl, by simp; omega, K1.out, K3.out, VA.out, HGA.out, HB.out, a, l, K2.out, by simp; omega, by split <;> omega⟩
                        case round =>
                          clear K1 K2 K3 VA HGA HB
                          obtain ⟨m, rfl, hm, k1, k3, va, hga, hbx, aa, la, k2, hla, haa⟩ := hrel
                          have K1 := Lib.hid k1
                          have K2 := Lib.hid k2
                          have K3 := Lib.hid k3
                          have VA := Lib.hid va
                          have HGA := Lib.hid hga
                          have HB := Lib.hid hbx
                          have y0 : 0 ≤ la := by omega
                          have y1 : la ≤ 1000000 := by omega
                          have y2 : 0 ≤ aa := by rw [haa]; split <;> omega
                          have y3 : aa ≤ c.mx := by rw [haa]; have := HMX.out; split <;> omega
                          have y4 : la = 0 → aa = 0 := fun h => by rw [haa, if_pos h]
                          have HSQ : Hid (Cst.Ok c ⟨p', aa, la, false⟩) := ⟨by simp only; omega, by simp only; omega, y0, y1, y2, y3, y4, rfl⟩
                          have HLA := Lib.hid hla
                          have HAA := Lib.hid haa
                          clear k1 k2 k3 va hga hbx hla haa y2 y3 y4
                          by_cases hml : (m : Int) < N1 - N0
                          · obtain ⟨l2, hl2⟩ : ∃ l2 : Int, l2 = if la ≤ 1 then 0 else la - 1 := ⟨_, rfl⟩
                            obtain ⟨a2, ha2⟩ : ∃ a2 : Int, a2 = if la ≤ 1 then 0 else aa := ⟨_, rfl⟩
                            have HL2 := Lib.hid hl2
                            have HA2 := Lib.hid ha2
                            have HLN : Hid (l2 = max 0 (l - ((m + 1 : Nat) : Int))) := by
                              show _ = _
                              have := HLA.out
                              rw [hl2]; push_cast
                              split <;> omega
                            have HAN : Hid (a2 = if l2 = 0 then 0 else a) := by
                              show _ = _
                              have h9 := HAA.out
                              rw [ha2, hl2]
                              by_cases h1 : la ≤ 1
                              · rw [if_pos h1, if_pos h1, if_pos rfl]
                              · rw [if_neg h1, if_neg h1, if_neg (by omega), h9, if_neg (by omega)]
                            clear hl2 ha2
                            obtain ⟨c0, c1, c2, c3, c4, c5, c6, c7⟩ := bx8 K1.out
                            have lk := K1.out.lt
                            obtain ⟨s0, s1, s2, s3⟩ := bx4 K2.out
                            have fs0 := K2.out.frozen 0
                            have fs1 := K2.out.frozen 1
                            have fs2 := K2.out.frozen 2
                            have fs3 := K2.out.frozen 3
                            have ls := K2.out.lt
                            obtain ⟨x0, x1, x2, x3, x4⟩ := box5 K3.out
                            have lx := K3.out.lt
                            go_wp2_with fail
                            refine (Step_8 c p' aa la a2 l2 _ HA2.out HL2.out HCO.out HSQ.out (HA.out.next HB.out)).mono ?_
                            rintro e W6 ⟨rfl, hb⟩
                            clear c0 c1 c2 c3 c4 c5 c6 c7 lk
                            clear s0 s1 s2 s3 fs0 fs1 fs2 fs3 ls
                            clear x0 x1 x2 x3 x4 lx
                            replace K1 := Lib.hid (K1.out.next hb)
                            replace K2 := Lib.hid (K2.out.next hb)
                            replace K3 := Lib.hid (K3.out.next hb)
                            replace HB := Lib.hid (bt hb HB.out)
                            replace VA := Lib.hid (hb.cell (p := ⟨ga, oa, none⟩) HGA.out |>.trans VA.out)
                            replace HGA := Lib.hid (Nat.lt_of_lt_of_le HGA.out hb.size)
                            clear hb
                            obtain ⟨c0, c1, c2, c3, c4, c5, c6, c7⟩ := bx8 K1.out
                            have lk := K1.out.lt
                            obtain ⟨s0, s1, s2, s3⟩ := bx4 K2.out
                            have fs0 := K2.out.frozen 0
                            have fs1 := K2.out.frozen 1
                            have fs2 := K2.out.frozen 2
                            have fs3 := K2.out.frozen 3
                            have ls := K2.out.lt
                            obtain ⟨x0, x1, x2, x3, x4⟩ := box5 K3.out
                            have lx := K3.out.lt
                            go_wp2
                            clear c0 c1 c2 c3 c4 c5 c6 c7 lk
                            clear s0 s1 s2 s3 fs0 fs1 fs2 fs3 ls
                            clear x0 x1 x2 x3 x4 lx
                            obtain ⟨U, hU⟩ : ∃ Zz, Zz = (((W6.setCell ⟨K + 1, 0, none⟩ (.int .i64 (p' : Int))).setCell ⟨K + 1, 1, none⟩ (.int .i64 a2)).setCell ⟨K + 1, 2, none⟩ (.int .i64 l2)).setCell ⟨K + 1, 3, none⟩ (.bool false) := ⟨_, rfl⟩
                            have k1 : Bk U K 23 #[.string c.nm, .int .i64 c.no, .int .i64 c.ph, .int .i64 c.mn, .int .i64 c.mx, .int .i64 c.st, .int .i64 c.fb, .int .i64 c.ow] := by rw [hU]; exact ((((K1.out.far (p := ⟨K + 1, 0, none⟩) (by simp only; omega) ((.int .i64 (p' : Int)))).far (p := ⟨K + 1, 1, none⟩) (by simp only; omega) ((.int .i64 a2))).far (p := ⟨K + 1, 2, none⟩) (by simp only; omega) ((.int .i64 l2))).far (p := ⟨K + 1, 3, none⟩) (by simp only; omega) ((.bool false)))
                            have k2 : Bk U (K + 1) 25 #[.int .i64 (p' : Int), .int .i64 a2, .int .i64 l2, .bool false] := by rw [hU]; have := ((((K2.out.set 0 ((.int .i64 (p' : Int)))).set 1 ((.int .i64 a2))).set 2 ((.int .i64 l2))).set 3 ((.bool false))); simpa using this
                            have k3 : Bk U X 30 #[.int .i64 1, .int .i64 0, .int .i64 A, .int .i64 F, .int .i64 T] := by rw [hU]; exact ((((K3.out.far (p := ⟨K + 1, 0, none⟩) (by have := HXK.out; simp only; omega) ((.int .i64 (p' : Int)))).far (p := ⟨K + 1, 1, none⟩) (by have := HXK.out; simp only; omega) ((.int .i64 a2))).far (p := ⟨K + 1, 2, none⟩) (by have := HXK.out; simp only; omega) ((.int .i64 l2))).far (p := ⟨K + 1, 3, none⟩) (by have := HXK.out; simp only; omega) ((.bool false)))
                            have hbx : Below w.heap.size w U := by rw [hU]; exact ((((HB.out.setCell (p := ⟨K + 1, 0, none⟩) (by have := HKW.out; simp only; omega) _).setCell (p := ⟨K + 1, 1, none⟩) (by have := HKW.out; simp only; omega) _).setCell (p := ⟨K + 1, 2, none⟩) (by have := HKW.out; simp only; omega) _).setCell (p := ⟨K + 1, 3, none⟩) (by have := HKW.out; simp only; omega) _)
                            have va : U.cell? ⟨ga, oa, none⟩ = some (.int .i64 V) := by rw [hU]; exact ((World.cell?_setCell_other _ ⟨K + 1, 3, none⟩ ⟨ga, oa, none⟩ (.bool false) (fun e => by injection e with e _; have := HGK.out; omega)).trans ((World.cell?_setCell_other _ ⟨K + 1, 2, none⟩ ⟨ga, oa, none⟩ (.int .i64 l2) (fun e => by injection e with e _; have := HGK.out; omega)).trans ((World.cell?_setCell_other _ ⟨K + 1, 1, none⟩ ⟨ga, oa, none⟩ (.int .i64 a2) (fun e => by injection e with e _; have := HGK.out; omega)).trans ((World.cell?_setCell_other _ ⟨K + 1, 0, none⟩ ⟨ga, oa, none⟩ (.int .i64 (p' : Int)) (fun e => by injection e with e _; have := HGK.out; omega)).trans VA.out))))
                            have hga : ga < U.heap.size := by rw [hU]; have := HGA.out; simpa [World.setCell] using this
                            rw [← hU]
                            clear hU
                            replace K1 := Lib.hid k1
                            replace K2 := Lib.hid k2
                            replace K3 := Lib.hid k3
                            replace HB := Lib.hid hbx
                            replace VA := Lib.hid va
                            replace HGA := Lib.hid hga
                            clear k1 k2 k3 hbx va hga
                            obtain ⟨Y7, hY7⟩ : ∃ Zz, Zz = U.alloc (.cells #[.int .i64 (p' : Int), .int .i64 a2, .int .i64 l2, .bool false] 25) := ⟨_, rfl⟩
                            have hb : Below U.heap.size U Y7 := by rw [hY7]; exact al1 _ _
                            rw [← hY7]
                            clear hY7
                            replace K1 := Lib.hid (K1.out.next hb)
                            replace K2 := Lib.hid (K2.out.next hb)
                            replace K3 := Lib.hid (K3.out.next hb)
                            replace HB := Lib.hid (bt hb HB.out)
                            replace VA := Lib.hid (hb.cell (p := ⟨ga, oa, none⟩) HGA.out |>.trans VA.out)
                            replace HGA := Lib.hid (Nat.lt_of_lt_of_le HGA.out hb.size)
                            clear hb
                            have hmm : ((m + 1 : Nat) : Int) ≤ N1 - N0 := by push_cast; omega
                            go_roundw
                            case rel => exact ⟨m + 1, by go_num, hmm, K1.out, K3.out, VA.out, HGA.out, HB.out, a2, l2, K2.out, HLN.out, HAN.out⟩
                            case measure => simp [intOf]; omega
                          · have hmN : (m : Int) = N1 - N0 := by omega
                            have HL1 : Hid (la = lvT d L T (t + 1)) := by
                              show _ = _
                              rw [HLA.out, hmN]
                              exact by rw [HLQ.out]; exact (lv_next htl (by rw [HN0.out, HN1.out]) (by omega)).symm
                            have HA1 : Hid (aa = avT d L T A (t + 1)) := by
                              show _ = _
                              rw [HAA.out, avT, ← HL1.out]
                              have h8 := HAQ.out
                              have h9 := HLA.out
                              by_cases hz : la = 0
                              · rw [if_pos hz, if_pos hz]
                              · rw [if_neg hz, if_neg hz, h8, avT, ← HLQ.out, if_neg (by omega)]
                            obtain ⟨r, hr⟩ : ∃ r, alw c p' aa la = r := ⟨_, rfl⟩
                            obtain ⟨M, hM⟩ : ∃ M : Int, max c.fb V = M := ⟨_, rfl⟩
                            have hrm : ¬ M < r := by
                              have := chk (p := p') (t := t) HCO.out HX1.out La0 La1 dr0 dr1
                              rw [← HL1.out, ← HA1.out, hr, HV.out, hM] at this
                              omega
                            have hmx : ∀ W ts t, (Builtin.max_ ts t #[.int .i64 c.fb, .int .i64 V]).run Tryd.prog W = .ok (.int .i64 M) W := fun W ts t => by rw [gMax2, hM]
                            have HR := Lib.hid hr
                            clear hr hM hml
                            obtain ⟨c0, c1, c2, c3, c4, c5, c6, c7⟩ := bx8 K1.out
                            have lk := K1.out.lt
                            obtain ⟨s0, s1, s2, s3⟩ := bx4 K2.out
                            have fs0 := K2.out.frozen 0
                            have fs1 := K2.out.frozen 1
                            have fs2 := K2.out.frozen 2
                            have fs3 := K2.out.frozen 3
                            have ls := K2.out.lt
                            obtain ⟨x0, x1, x2, x3, x4⟩ := box5 K3.out
                            have lx := K3.out.lt
                            have va := VA.out
                            go_wp2_with fail
                            obtain ⟨U9, hU9⟩ : ∃ Zz, Zz = wr := ⟨_, rfl⟩
                            rw [← hU9] at K1 K2 K3 HB VA HGA c0 c1 c2 c3 c4 c5 c6 c7 s0 s1 s2 s3 fs0 fs1 fs2 fs3 x0 x1 x2 x3 x4 va ls lk lx ⊢
                            clear hU9
                            have Rc0 := cell_regrown c0
                            have Rc1 := cell_regrown c1
                            have Rc2 := cell_regrown c2
                            have Rc3 := cell_regrown c3
                            have Rc4 := cell_regrown c4
                            have Rc5 := cell_regrown c5
                            have Rc6 := cell_regrown c6
                            have Rc7 := cell_regrown c7
                            have Rs0 := cell_regrown s0
                            have Rs1 := cell_regrown s1
                            have Rs2 := cell_regrown s2
                            have Rs3 := cell_regrown s3
                            have Rva := cell_regrown va
                            have CQ := fun (d : Nat) (os : Array Obj) => Calls.regrown_of (Allowed_lit c p' aa la r (grow (redrawn U9 d) os) HCO.out HSQ.out HR.out)
                            refine wp_region_quiet_below (by kernel_rfl) (by kernel_rfl) ?_
                            repeat (first | go_big_quiet_step (first | (with_reducible exact CQ _ _)) | quiet_step (first | (with_reducible exact CQ _ _)))
                            refine wpQuiet_nil ?_
                            intro _ hw'
                            obtain ⟨⟨dq, osq⟩, hw''⟩ := hw'
                            subst hw''
                            obtain ⟨W8, hW8⟩ : ∃ V, V = grow (redrawn U9 dq) osq := ⟨_, rfl⟩
                            have hbW8 : Below U9.heap.size U9 W8 := by rw [hW8]; exact below_regrown _ _ _
                            rw [← hW8]
                            clear hW8
                            clear Rc0
                            clear Rc1
                            clear Rc2
                            clear Rc3
                            clear Rc4
                            clear Rc5
                            clear Rc6
                            clear Rc7
                            clear Rs0
                            clear Rs1
                            clear Rs2
                            clear Rs3
                            clear Rva
                            clear CQ
                            replace K1 := Lib.hid (K1.out.next hbW8)
                            replace K2 := Lib.hid (K2.out.next hbW8)
                            replace K3 := Lib.hid (K3.out.next hbW8)
                            replace HB := Lib.hid (bt hbW8 HB.out)
                            clear hbW8
                            rw [HL1.out, HA1.out] at K2
                            have HT1 : Hid (t + 1 = F + ((k + 1 : Nat) : Int)) := by show _ = _; have := HT.out; push_cast; omega
                            clear hmx ls lk lx c0 c1 c2 c3 c4 c5 c6 c7 s0 s1 s2 s3 fs0 fs1 fs2 fs3 x0 x1 x2 x3 x4 va
                            go_wp2
                            rw [HT1.out] at K2 ⊢
                            go_roundw
                            case rel => first
                              | exact ⟨k + 1, rfl, by omega, K1.out, p', hp', K2.out, K3.out, HB.out⟩
                              | ((repeat apply Exists.intro); exact ⟨⟨k + 1, rfl, by omega, K1.out, p', hp', K2.out, K3.out, HB.out⟩, rfl⟩)
                            case measure => simp [intOf]; omega
                  · obtain rfl : k = 90 := by omega
                    obtain ⟨x0, x1, x2, x3, x4⟩ := box5 K3.out
                    have lx := K3.out.lt
                    go_wp2
                    go_ret
                    exact ⟨rfl, HB.out⟩
      · go_wp2
        go_ret
        exact ⟨rfl, HB.out⟩
    · have hl1 : (l0 != 0) = true := by simpa [bne_iff_ne] using hl
      clear hla
      go_wp2
      go_ret
      exact ⟨rfl, HB.out⟩
end Go.Proofs.YtlfogcidklpeiaaDoor
