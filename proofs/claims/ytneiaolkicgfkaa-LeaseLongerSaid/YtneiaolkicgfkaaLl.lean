/- The walk of the law LeaseLonger. -/
import Derived.Test.YtneiaolkicgfkaaLj
import Derived.BigRegion
import Derived.RegionTactic
set_option linter.unusedVariables false
set_option linter.unusedSimpArgs false
namespace Go.Proofs.Ytneiaolkicgfkaa
open Go.RowKit Go.Sort

theorem own_empty5 {W : World} {g base : Nat} (h : at? W g = some (.cells #[] 24 (0, 0))) (hb : base ≤ g) : W.ownsRow base 24 5 (.slice (some ⟨g, 0, none⟩) 0 0) 0 [] :=
  ⟨rfl, .inr ⟨g, 0, #[], rfl, hb, h, Nat.le_refl _, by simp [maxLen], rfl, rfl⟩⟩
theorem lsc_ext {xs : List Value} {l : List Lea} (hl : xs.length = l.length * 5) (h : ∀ i x, l[i]? = some x → ∀ j, j < 5 → xs[i * 5 + j]? = (lcells x)[j]?) : xs = lsc l := by
  apply List.ext_getElem?
  intro j
  rcases Nat.lt_or_ge j (l.length * 5) with hj | hj
  · have hq : j / 5 < l.length := Nat.div_lt_of_lt_mul (by omega)
    have hr : j % 5 < 5 := Nat.mod_lt _ (by omega)
    have e : j = j / 5 * 5 + j % 5 := by omega
    rw [e, h _ _ (List.getElem?_eq_getElem hq) _ hr, lsc_get l _ _ _ (List.getElem?_eq_getElem hq) hr]
  · rw [List.getElem?_eq_none (by omega), List.getElem?_eq_none (by rw [lsc_length]; omega)]
theorem lsc_set2 (l : List Lea) (i : Nat) (hi : i < l.length) (a t : Int) : ((lsc l).set (i * 5 + 2) (.int .i64 a)).set (i * 5 + 4) (.int .i64 t) = lsc (l.set i { l[i] with a := a, t := t }) := by
  apply lsc_ext (by simp [lsc_length])
  intro k x hx j hj
  have hk : k < l.length := by
    rcases Nat.lt_or_ge k l.length with h | h
    · exact h
    · rw [List.getElem?_eq_none (by simpa using h)] at hx; cases hx
  by_cases e : k = i
  · subst e
    rw [List.getElem?_set_self hi] at hx
    obtain rfl : ({ l[k] with a := a, t := t } : Lea) = x := by simpa using hx
    have hb : ∀ j, j < 5 → (lsc l)[k * 5 + j]? = (lcells l[k])[j]? := fun j hj => lsc_get l k _ j (List.getElem?_eq_getElem hi) hj
    have hlen : (lsc l).length = l.length * 5 := lsc_length l
    match j, hj with
    | 0, _ => rw [List.getElem?_set_ne (by omega), List.getElem?_set_ne (by omega), hb 0 (by omega)]; rfl
    | 1, _ => rw [List.getElem?_set_ne (by omega), List.getElem?_set_ne (by omega), hb 1 (by omega)]; rfl
    | 2, _ => rw [List.getElem?_set_ne (by omega), List.getElem?_set_self (by omega)]; rfl
    | 3, _ => rw [List.getElem?_set_ne (by omega), List.getElem?_set_ne (by omega), hb 3 (by omega)]; rfl
    | 4, _ => rw [List.getElem?_set_self (by simp; omega)]; rfl
  · rw [List.getElem?_set_ne (Ne.symm e)] at hx
    rw [List.getElem?_set_ne (by omega), List.getElem?_set_ne (by omega)]
    exact lsc_get l k x j hx hj

set_option maxRecDepth 100000 in
set_option maxHeartbeats 4000000 in
theorem LeaseLonger_walk (l : List Lea) (A : Option Addr) (c : Nat) (k da dt tick : Int) (k0 : 0 ≤ k) (k255 : k ≤ 255) (a0 : 0 ≤ da) (a1 : da ≤ 255) (t0 : 0 ≤ dt) (t1 : dt ≤ 65535) (w : World) (hA : RdL w w.heap.size A l) (hc : l.length ≤ c) (hx : c ≤ maxLen) :
    Calls Try.prog 8 #[.slice A l.length c, .int .u8 k, .int .u8 da, .int .u16 dt, .int .i64 tick] w fun e w' => e = .returned (.bool true) ∧ Below w.heap.size w w' := by
  unfold maxLen at hx
  by_cases h100 : l.length ≤ 100
  · have h100' : (l.length : Int) ≤ 100 := by omega
    by_cases hz : l.length = 0
    · have z0 : ((l.length : Int) == 0) = true := beq_iff_eq.2 (by omega)
      have HB := Lib.hid (Below.refl w.heap.size w)
      have F_l := Lib.hid hA
      clear hA
      go_enter Try.func8, Try.ntmps8
      go_wp2_with fail
      refine (head_any _).mono ?_
      rintro e V1 ⟨rfl, hb⟩
      have hB := hb
      replace F_l := Lib.hid (F_l.out.next hB)
      replace HB := Lib.hid (bt hB HB.out)
      clear hb hB
      go_wp2
      go_ret
      exact ⟨rfl, HB.out⟩
    · have z0 : ((l.length : Int) == 0) = false := beq_eq_false_iff_ne.2 (by omega)
      by_cases hv : vlB l = true
      · have HV := Lib.hid hv
        have h64 := ((vlB_at l).1 hv).1
        clear hv
        have HB := Lib.hid (Below.refl w.heap.size w)
        have F_l := Lib.hid hA
        clear hA
        go_enter Try.func8, Try.ntmps8
        go_wp2_with fail
        refine (head_any _).mono ?_
        rintro e V1 ⟨rfl, hb⟩
        have hB := hb
        replace F_l := Lib.hid (F_l.out.next hB)
        replace HB := Lib.hid (bt hB HB.out)
        clear hb hB
        go_wp2_with fail
        refine (rValid_lit true l A c _ HV.out F_l.out (by omega)).mono ?_
        rintro e V2 ⟨rfl, hb⟩
        have hB := hb
        replace F_l := Lib.hid (F_l.out.next hB)
        replace HB := Lib.hid (bt hB HB.out)
        clear hb hB
        obtain ⟨i0, hi, hz0, hz1, hz2⟩ := info_parts info_lease
        obtain ⟨q, hq⟩ : ∃ q : Nat, k % (l.length : Int) = (q : Int) := ⟨(k % (l.length : Int)).toNat, (Int.toNat_of_nonneg (Int.emod_nonneg _ (by omega))).symm⟩
        have hql : q < l.length := by have := Int.emod_lt_of_pos k (b := (l.length : Int)) (by omega); omega
        have q0 : (0 : Int) ≤ (q : Int) := by omega
        have q1 : (q : Int) < (l.length : Int) := by omega
        go_wp2_with (at_builtin; refine wpList_append_rd _ rfl (.tmp 34) (.tmp 35) _ rfl V2.heap.size 24 i0 _ 5 40 Try.underlying22 hi hz0 hz1 hz2 rfl (by omega) (.slice (some ⟨V2.heap.size, 0, none⟩) 0 0) 0 [] rfl (own_empty5 (by simp [at?_alloc]) (Nat.le_refl _)) V2.heap.size A l.length c (lsc l) rfl (RdS.alloc F_l.out (Nat.le_refl _) _) (lsc_one l) (by simp only [maxLen]; omega) (by omega) (by simp) ?_; intro v' w1 hown' hgrow hat; simp only [Nat.zero_add, List.nil_append] at hown'; obtain ⟨g, cap, rfl, hgb, hgl⟩ := hown'.form (by omega))
        have hbw : Below V2.heap.size V2 w1 := ((Below.refl _ _).alloc (Nat.le_refl _) _).grown hgrow (by simp) (by simp [Value.ownBlock])
        clear hgrow hat i0 hi hz0 hz1 hz2
        have hrdl : RdL w1 w1.heap.size (some ⟨g, 0, none⟩) l := RdS.of_own hown'
        obtain ⟨bb, oo, he, _, x0, x1, x2, x3, x4⟩ := hrdl.at_ hql
        clear hrdl
        obtain ⟨rfl, rfl⟩ : bb = g ∧ oo = 0 := by simpa [eq_comm] using he
        obtain ⟨x, hxx⟩ : ∃ x, x = l[q] := ⟨_, rfl⟩
        have hone := (oneB_iff x).1 (vlB_one HV.out (by rw [hxx]; exact List.getElem_mem hql : x ∈ l))
        obtain ⟨_, _, _, _, xa0, xa1, _, _, xt0, xt1⟩ := hone
        rw [← hxx] at x0 x1 x2 x3 x4
        have HX := Lib.hid hxx
        simp only [Nat.zero_add] at x0 x1 x2 x3 x4
        have f2 := hown'.frozenAt (q * 5 + 2)
        have f4 := hown'.frozenAt (q * 5 + 4)
        have HO := Lib.hid hown'
        have HBW := Lib.hid hbw
        clear hxx he hown' hbw
        have w2 : IntKind.i64.wrap da = da := IntWalk.i64_in _ (by omega)
        have w3 : IntKind.i64.wrap dt = dt := IntWalk.i64_in _ (by omega)
        have w4 : IntKind.i64.wrap (x.a + da) = x.a + da := IntWalk.i64_in _ (by omega)
        have w5 : IntKind.i64.wrap (x.t + dt) = x.t + dt := IntWalk.i64_in _ (by omega)
        by_cases ca : x.a + da < 80
        · by_cases ct : x.t + dt < 1000
          · obtain ⟨hs1, hgr1⟩ := HO.out.stored (q * 5 + 2) (.int .i64 (x.a + da))
            obtain ⟨hs2, hgr2⟩ := hs1.stored (q * 5 + 4) (.int .i64 (x.t + dt))
            rw [lsc_set2 l q hql, ← HX.out, show ({ x with a := (x.a + da), t := (x.t + dt) } : Lea) = longer x da dt from by unfold longer; congr 1 <;> omega] at hs2
            have HS2 := Lib.hid hs2
            have HLA := Lib.hid (longer_alive HV.out hql a0 t0 tick)
            clear hs1 hgr1 hgr2 hs2
            go_wp2
            go_region
            go_wp2_with fail
            obtain ⟨U9, hU9⟩ : ∃ U, U = ((w1.setCell ⟨bb, q * 5 + 2, none⟩ (.int .i64 (x.a + da))).setCell ⟨bb, q * 5 + 4, none⟩ (.int .i64 (x.t + dt))).drew := ⟨_, rfl⟩
            have hbU : Below V2.heap.size V2 U9 := by rw [hU9]; exact ((HBW.out.setCell (p := ⟨bb, q * 5 + 2, none⟩) hgb _).setCell (p := ⟨bb, q * 5 + 4, none⟩) hgb _).drew
            have r8 : RdL U9 U9.heap.size (some ⟨bb, 0, none⟩) (l.set q (longer x da dt)) := by rw [hU9]; exact (by have := RdS.of_own (xs := lsc (l.set q (longer x da dt))) HS2.out; unfold RdL; rw [List.length_set]; exact this)
            rw [← hU9]
            clear hU9
            replace F_l := Lib.hid (F_l.out.next hbU)
            replace HB := Lib.hid (bt hbU HB.out)
            have F_8 := Lib.hid r8
            clear hbU r8 x0 x1 x2 x3 x4 f2 f4
            obtain ⟨e1, e2, e3⟩ := HLA.out
            have hlen : (alvL l 16 tick).length ≤ 16 := alvL_len l 16 tick
            obtain ⟨m, hm⟩ : ∃ m, m = (alvL l 16 tick).length := ⟨_, rfl⟩
            rw [← HX.out] at e1 e2 e3
            rw [← hm] at e2 e3 hlen
            have HM := Lib.hid hm.symm
            have E2 := Lib.hid e2.symm
            have E3 := Lib.hid e3
            obtain ⟨er, her⟩ : ∃ er, er = alvE l 16 tick := ⟨_, rfl⟩
            rw [← her] at e1
            have R0 := Lib.hid her.symm
            have R1 := Lib.hid e1.symm
            clear e1 e2 e3 hm her
            skip
            refine (((Alive_lit (alvL l 16 tick) er l 16 tick A c _ rfl R0.out F_l.out (by omega)).mono fun _ _ h => IPost.open_ HM.out h)).mono ?_
            rintro e V3 ⟨A2, c2, rfl, hc2, r2, hb⟩
            have hB := hb
            replace F_l := Lib.hid (F_l.out.next hB)
            replace F_8 := Lib.hid (F_8.out.next hB)
            replace HB := Lib.hid (bt hB HB.out)
            clear hb hB
            have F_2 := Lib.hid (r2)
            clear r2
            go_wp2_with fail
            refine (((Alive_at (alvL (l.set q (longer x da dt)) 16 tick) er (l.set q (longer x da dt)) 16 tick (some ⟨bb, 0, none⟩) l.length cap _ (by simp) rfl R1.out F_8.out (by simp; omega)).mono fun _ _ h => IPost.open_ E2.out h)).mono ?_
            rintro e V4 ⟨A3, c3, rfl, hc3, r3, hb⟩
            have hB := hb
            replace F_l := Lib.hid (F_l.out.next hB)
            replace F_8 := Lib.hid (F_8.out.next hB)
            replace F_2 := Lib.hid (F_2.out.next hB)
            replace HB := Lib.hid (bt hB HB.out)
            clear hb hB
            have F_3 := Lib.hid (r3)
            clear r3
            go_wp2
            go_loopw [90] (fun i wr => ∃ j n : Nat, i = .int .i64 (j : Int) ∧ j ≤ m ∧ wr = V4.drewN n) (fun i _ => m - (intOf i).toNat)
            case atStart => exact ⟨0, 0, rfl, Nat.zero_le _, rfl⟩
            case round =>
              obtain ⟨j, nn, rfl, hj, rfl⟩ := hrel
              by_cases hlt : j < m
              · obtain ⟨a1', o1, rfl, b1, x1⟩ := F_2.out.at_ (k := j) (by rw [HM.out]; exact hlt)
                obtain ⟨a2', o2, rfl, b2, x2⟩ := F_3.out.at_ (k := j) (by rw [E2.out]; exact hlt)
                have m1 := E3.out j hlt
                rw [← getD_i] at x1 x2
                obtain ⟨va, h1⟩ : ∃ v, v = (alvL l 16 tick).getD j 0 := ⟨_, rfl⟩
                obtain ⟨vb, h2⟩ : ∃ v, v = (alvL (l.set q (longer x da dt)) 16 tick).getD j 0 := ⟨_, rfl⟩
                rw [← h1] at x1 m1
                rw [← h2] at x2 m1
                have k1 : (0 : Int) ≤ (j : Int) := by omega
                have k2 : (j : Int) < (m : Int) := by omega
                have d1 : decide (vb < va) = false := by simp; omega
                clear h1 h2
                go_wp2
                go_quiet (fail)
                go_wp2
                go_roundw
                case rel => exact ⟨j + 1, _, by go_num, by omega, rfl⟩
                case measure => simp [intOf]; omega
              · obtain rfl : j = m := by omega
                go_wp2
                go_ret
                exact ⟨rfl, belowDrew HB.out _⟩
          · obtain ⟨hs1, hgr1⟩ := HO.out.stored (q * 5 + 2) (.int .i64 (x.a + da))
            obtain ⟨hs2, hgr2⟩ := hs1.stored (q * 5 + 4) (.int .i64 1000)
            rw [lsc_set2 l q hql, ← HX.out, show ({ x with a := (x.a + da), t := 1000 } : Lea) = longer x da dt from by unfold longer; congr 1 <;> omega] at hs2
            have HS2 := Lib.hid hs2
            have HLA := Lib.hid (longer_alive HV.out hql a0 t0 tick)
            clear hs1 hgr1 hgr2 hs2
            go_wp2
            go_region
            go_wp2_with fail
            obtain ⟨U9, hU9⟩ : ∃ U, U = ((w1.setCell ⟨bb, q * 5 + 2, none⟩ (.int .i64 (x.a + da))).setCell ⟨bb, q * 5 + 4, none⟩ (.int .i64 1000)).drew := ⟨_, rfl⟩
            have hbU : Below V2.heap.size V2 U9 := by rw [hU9]; exact ((HBW.out.setCell (p := ⟨bb, q * 5 + 2, none⟩) hgb _).setCell (p := ⟨bb, q * 5 + 4, none⟩) hgb _).drew
            have r8 : RdL U9 U9.heap.size (some ⟨bb, 0, none⟩) (l.set q (longer x da dt)) := by rw [hU9]; exact (by have := RdS.of_own (xs := lsc (l.set q (longer x da dt))) HS2.out; unfold RdL; rw [List.length_set]; exact this)
            rw [← hU9]
            clear hU9
            replace F_l := Lib.hid (F_l.out.next hbU)
            replace HB := Lib.hid (bt hbU HB.out)
            have F_8 := Lib.hid r8
            clear hbU r8 x0 x1 x2 x3 x4 f2 f4
            obtain ⟨e1, e2, e3⟩ := HLA.out
            have hlen : (alvL l 16 tick).length ≤ 16 := alvL_len l 16 tick
            obtain ⟨m, hm⟩ : ∃ m, m = (alvL l 16 tick).length := ⟨_, rfl⟩
            rw [← HX.out] at e1 e2 e3
            rw [← hm] at e2 e3 hlen
            have HM := Lib.hid hm.symm
            have E2 := Lib.hid e2.symm
            have E3 := Lib.hid e3
            obtain ⟨er, her⟩ : ∃ er, er = alvE l 16 tick := ⟨_, rfl⟩
            rw [← her] at e1
            have R0 := Lib.hid her.symm
            have R1 := Lib.hid e1.symm
            clear e1 e2 e3 hm her
            skip
            refine (((Alive_lit (alvL l 16 tick) er l 16 tick A c _ rfl R0.out F_l.out (by omega)).mono fun _ _ h => IPost.open_ HM.out h)).mono ?_
            rintro e V3 ⟨A2, c2, rfl, hc2, r2, hb⟩
            have hB := hb
            replace F_l := Lib.hid (F_l.out.next hB)
            replace F_8 := Lib.hid (F_8.out.next hB)
            replace HB := Lib.hid (bt hB HB.out)
            clear hb hB
            have F_2 := Lib.hid (r2)
            clear r2
            go_wp2_with fail
            refine (((Alive_at (alvL (l.set q (longer x da dt)) 16 tick) er (l.set q (longer x da dt)) 16 tick (some ⟨bb, 0, none⟩) l.length cap _ (by simp) rfl R1.out F_8.out (by simp; omega)).mono fun _ _ h => IPost.open_ E2.out h)).mono ?_
            rintro e V4 ⟨A3, c3, rfl, hc3, r3, hb⟩
            have hB := hb
            replace F_l := Lib.hid (F_l.out.next hB)
            replace F_8 := Lib.hid (F_8.out.next hB)
            replace F_2 := Lib.hid (F_2.out.next hB)
            replace HB := Lib.hid (bt hB HB.out)
            clear hb hB
            have F_3 := Lib.hid (r3)
            clear r3
            go_wp2
            go_loopw [90] (fun i wr => ∃ j n : Nat, i = .int .i64 (j : Int) ∧ j ≤ m ∧ wr = V4.drewN n) (fun i _ => m - (intOf i).toNat)
            case atStart => exact ⟨0, 0, rfl, Nat.zero_le _, rfl⟩
            case round =>
              obtain ⟨j, nn, rfl, hj, rfl⟩ := hrel
              by_cases hlt : j < m
              · obtain ⟨a1', o1, rfl, b1, x1⟩ := F_2.out.at_ (k := j) (by rw [HM.out]; exact hlt)
                obtain ⟨a2', o2, rfl, b2, x2⟩ := F_3.out.at_ (k := j) (by rw [E2.out]; exact hlt)
                have m1 := E3.out j hlt
                rw [← getD_i] at x1 x2
                obtain ⟨va, h1⟩ : ∃ v, v = (alvL l 16 tick).getD j 0 := ⟨_, rfl⟩
                obtain ⟨vb, h2⟩ : ∃ v, v = (alvL (l.set q (longer x da dt)) 16 tick).getD j 0 := ⟨_, rfl⟩
                rw [← h1] at x1 m1
                rw [← h2] at x2 m1
                have k1 : (0 : Int) ≤ (j : Int) := by omega
                have k2 : (j : Int) < (m : Int) := by omega
                have d1 : decide (vb < va) = false := by simp; omega
                clear h1 h2
                go_wp2
                go_quiet (fail)
                go_wp2
                go_roundw
                case rel => exact ⟨j + 1, _, by go_num, by omega, rfl⟩
                case measure => simp [intOf]; omega
              · obtain rfl : j = m := by omega
                go_wp2
                go_ret
                exact ⟨rfl, belowDrew HB.out _⟩
        · by_cases ct : x.t + dt < 1000
          · obtain ⟨hs1, hgr1⟩ := HO.out.stored (q * 5 + 2) (.int .i64 80)
            obtain ⟨hs2, hgr2⟩ := hs1.stored (q * 5 + 4) (.int .i64 (x.t + dt))
            rw [lsc_set2 l q hql, ← HX.out, show ({ x with a := 80, t := (x.t + dt) } : Lea) = longer x da dt from by unfold longer; congr 1 <;> omega] at hs2
            have HS2 := Lib.hid hs2
            have HLA := Lib.hid (longer_alive HV.out hql a0 t0 tick)
            clear hs1 hgr1 hgr2 hs2
            go_wp2
            go_region
            go_wp2_with fail
            obtain ⟨U9, hU9⟩ : ∃ U, U = ((w1.setCell ⟨bb, q * 5 + 2, none⟩ (.int .i64 80)).setCell ⟨bb, q * 5 + 4, none⟩ (.int .i64 (x.t + dt))).drew := ⟨_, rfl⟩
            have hbU : Below V2.heap.size V2 U9 := by rw [hU9]; exact ((HBW.out.setCell (p := ⟨bb, q * 5 + 2, none⟩) hgb _).setCell (p := ⟨bb, q * 5 + 4, none⟩) hgb _).drew
            have r8 : RdL U9 U9.heap.size (some ⟨bb, 0, none⟩) (l.set q (longer x da dt)) := by rw [hU9]; exact (by have := RdS.of_own (xs := lsc (l.set q (longer x da dt))) HS2.out; unfold RdL; rw [List.length_set]; exact this)
            rw [← hU9]
            clear hU9
            replace F_l := Lib.hid (F_l.out.next hbU)
            replace HB := Lib.hid (bt hbU HB.out)
            have F_8 := Lib.hid r8
            clear hbU r8 x0 x1 x2 x3 x4 f2 f4
            obtain ⟨e1, e2, e3⟩ := HLA.out
            have hlen : (alvL l 16 tick).length ≤ 16 := alvL_len l 16 tick
            obtain ⟨m, hm⟩ : ∃ m, m = (alvL l 16 tick).length := ⟨_, rfl⟩
            rw [← HX.out] at e1 e2 e3
            rw [← hm] at e2 e3 hlen
            have HM := Lib.hid hm.symm
            have E2 := Lib.hid e2.symm
            have E3 := Lib.hid e3
            obtain ⟨er, her⟩ : ∃ er, er = alvE l 16 tick := ⟨_, rfl⟩
            rw [← her] at e1
            have R0 := Lib.hid her.symm
            have R1 := Lib.hid e1.symm
            clear e1 e2 e3 hm her
            skip
            refine (((Alive_lit (alvL l 16 tick) er l 16 tick A c _ rfl R0.out F_l.out (by omega)).mono fun _ _ h => IPost.open_ HM.out h)).mono ?_
            rintro e V3 ⟨A2, c2, rfl, hc2, r2, hb⟩
            have hB := hb
            replace F_l := Lib.hid (F_l.out.next hB)
            replace F_8 := Lib.hid (F_8.out.next hB)
            replace HB := Lib.hid (bt hB HB.out)
            clear hb hB
            have F_2 := Lib.hid (r2)
            clear r2
            go_wp2_with fail
            refine (((Alive_at (alvL (l.set q (longer x da dt)) 16 tick) er (l.set q (longer x da dt)) 16 tick (some ⟨bb, 0, none⟩) l.length cap _ (by simp) rfl R1.out F_8.out (by simp; omega)).mono fun _ _ h => IPost.open_ E2.out h)).mono ?_
            rintro e V4 ⟨A3, c3, rfl, hc3, r3, hb⟩
            have hB := hb
            replace F_l := Lib.hid (F_l.out.next hB)
            replace F_8 := Lib.hid (F_8.out.next hB)
            replace F_2 := Lib.hid (F_2.out.next hB)
            replace HB := Lib.hid (bt hB HB.out)
            clear hb hB
            have F_3 := Lib.hid (r3)
            clear r3
            go_wp2
            go_loopw [90] (fun i wr => ∃ j n : Nat, i = .int .i64 (j : Int) ∧ j ≤ m ∧ wr = V4.drewN n) (fun i _ => m - (intOf i).toNat)
            case atStart => exact ⟨0, 0, rfl, Nat.zero_le _, rfl⟩
            case round =>
              obtain ⟨j, nn, rfl, hj, rfl⟩ := hrel
              by_cases hlt : j < m
              · obtain ⟨a1', o1, rfl, b1, x1⟩ := F_2.out.at_ (k := j) (by rw [HM.out]; exact hlt)
                obtain ⟨a2', o2, rfl, b2, x2⟩ := F_3.out.at_ (k := j) (by rw [E2.out]; exact hlt)
                have m1 := E3.out j hlt
                rw [← getD_i] at x1 x2
                obtain ⟨va, h1⟩ : ∃ v, v = (alvL l 16 tick).getD j 0 := ⟨_, rfl⟩
                obtain ⟨vb, h2⟩ : ∃ v, v = (alvL (l.set q (longer x da dt)) 16 tick).getD j 0 := ⟨_, rfl⟩
                rw [← h1] at x1 m1
                rw [← h2] at x2 m1
                have k1 : (0 : Int) ≤ (j : Int) := by omega
                have k2 : (j : Int) < (m : Int) := by omega
                have d1 : decide (vb < va) = false := by simp; omega
                clear h1 h2
                go_wp2
                go_quiet (fail)
                go_wp2
                go_roundw
                case rel => exact ⟨j + 1, _, by go_num, by omega, rfl⟩
                case measure => simp [intOf]; omega
              · obtain rfl : j = m := by omega
                go_wp2
                go_ret
                exact ⟨rfl, belowDrew HB.out _⟩
          · obtain ⟨hs1, hgr1⟩ := HO.out.stored (q * 5 + 2) (.int .i64 80)
            obtain ⟨hs2, hgr2⟩ := hs1.stored (q * 5 + 4) (.int .i64 1000)
            rw [lsc_set2 l q hql, ← HX.out, show ({ x with a := 80, t := 1000 } : Lea) = longer x da dt from by unfold longer; congr 1 <;> omega] at hs2
            have HS2 := Lib.hid hs2
            have HLA := Lib.hid (longer_alive HV.out hql a0 t0 tick)
            clear hs1 hgr1 hgr2 hs2
            go_wp2
            go_region
            go_wp2_with fail
            obtain ⟨U9, hU9⟩ : ∃ U, U = ((w1.setCell ⟨bb, q * 5 + 2, none⟩ (.int .i64 80)).setCell ⟨bb, q * 5 + 4, none⟩ (.int .i64 1000)).drew := ⟨_, rfl⟩
            have hbU : Below V2.heap.size V2 U9 := by rw [hU9]; exact ((HBW.out.setCell (p := ⟨bb, q * 5 + 2, none⟩) hgb _).setCell (p := ⟨bb, q * 5 + 4, none⟩) hgb _).drew
            have r8 : RdL U9 U9.heap.size (some ⟨bb, 0, none⟩) (l.set q (longer x da dt)) := by rw [hU9]; exact (by have := RdS.of_own (xs := lsc (l.set q (longer x da dt))) HS2.out; unfold RdL; rw [List.length_set]; exact this)
            rw [← hU9]
            clear hU9
            replace F_l := Lib.hid (F_l.out.next hbU)
            replace HB := Lib.hid (bt hbU HB.out)
            have F_8 := Lib.hid r8
            clear hbU r8 x0 x1 x2 x3 x4 f2 f4
            obtain ⟨e1, e2, e3⟩ := HLA.out
            have hlen : (alvL l 16 tick).length ≤ 16 := alvL_len l 16 tick
            obtain ⟨m, hm⟩ : ∃ m, m = (alvL l 16 tick).length := ⟨_, rfl⟩
            rw [← HX.out] at e1 e2 e3
            rw [← hm] at e2 e3 hlen
            have HM := Lib.hid hm.symm
            have E2 := Lib.hid e2.symm
            have E3 := Lib.hid e3
            obtain ⟨er, her⟩ : ∃ er, er = alvE l 16 tick := ⟨_, rfl⟩
            rw [← her] at e1
            have R0 := Lib.hid her.symm
            have R1 := Lib.hid e1.symm
            clear e1 e2 e3 hm her
            skip
            refine (((Alive_lit (alvL l 16 tick) er l 16 tick A c _ rfl R0.out F_l.out (by omega)).mono fun _ _ h => IPost.open_ HM.out h)).mono ?_
            rintro e V3 ⟨A2, c2, rfl, hc2, r2, hb⟩
            have hB := hb
            replace F_l := Lib.hid (F_l.out.next hB)
            replace F_8 := Lib.hid (F_8.out.next hB)
            replace HB := Lib.hid (bt hB HB.out)
            clear hb hB
            have F_2 := Lib.hid (r2)
            clear r2
            go_wp2_with fail
            refine (((Alive_at (alvL (l.set q (longer x da dt)) 16 tick) er (l.set q (longer x da dt)) 16 tick (some ⟨bb, 0, none⟩) l.length cap _ (by simp) rfl R1.out F_8.out (by simp; omega)).mono fun _ _ h => IPost.open_ E2.out h)).mono ?_
            rintro e V4 ⟨A3, c3, rfl, hc3, r3, hb⟩
            have hB := hb
            replace F_l := Lib.hid (F_l.out.next hB)
            replace F_8 := Lib.hid (F_8.out.next hB)
            replace F_2 := Lib.hid (F_2.out.next hB)
            replace HB := Lib.hid (bt hB HB.out)
            clear hb hB
            have F_3 := Lib.hid (r3)
            clear r3
            go_wp2
            go_loopw [90] (fun i wr => ∃ j n : Nat, i = .int .i64 (j : Int) ∧ j ≤ m ∧ wr = V4.drewN n) (fun i _ => m - (intOf i).toNat)
            case atStart => exact ⟨0, 0, rfl, Nat.zero_le _, rfl⟩
            case round =>
              obtain ⟨j, nn, rfl, hj, rfl⟩ := hrel
              by_cases hlt : j < m
              · obtain ⟨a1', o1, rfl, b1, x1⟩ := F_2.out.at_ (k := j) (by rw [HM.out]; exact hlt)
                obtain ⟨a2', o2, rfl, b2, x2⟩ := F_3.out.at_ (k := j) (by rw [E2.out]; exact hlt)
                have m1 := E3.out j hlt
                rw [← getD_i] at x1 x2
                obtain ⟨va, h1⟩ : ∃ v, v = (alvL l 16 tick).getD j 0 := ⟨_, rfl⟩
                obtain ⟨vb, h2⟩ : ∃ v, v = (alvL (l.set q (longer x da dt)) 16 tick).getD j 0 := ⟨_, rfl⟩
                rw [← h1] at x1 m1
                rw [← h2] at x2 m1
                have k1 : (0 : Int) ≤ (j : Int) := by omega
                have k2 : (j : Int) < (m : Int) := by omega
                have d1 : decide (vb < va) = false := by simp; omega
                clear h1 h2
                go_wp2
                go_quiet (fail)
                go_wp2
                go_roundw
                case rel => exact ⟨j + 1, _, by go_num, by omega, rfl⟩
                case measure => simp [intOf]; omega
              · obtain rfl : j = m := by omega
                go_wp2
                go_ret
                exact ⟨rfl, belowDrew HB.out _⟩
      · have hv : vlB l = false := by simpa using hv
        have HV := Lib.hid hv
        clear hv
        have HB := Lib.hid (Below.refl w.heap.size w)
        have F_l := Lib.hid hA
        clear hA
        go_enter Try.func8, Try.ntmps8
        go_wp2_with fail
        refine (head_any _).mono ?_
        rintro e V1 ⟨rfl, hb⟩
        have hB := hb
        replace F_l := Lib.hid (F_l.out.next hB)
        replace HB := Lib.hid (bt hB HB.out)
        clear hb hB
        go_wp2_with fail
        refine (rValid_lit false l A c _ HV.out F_l.out (by omega)).mono ?_
        rintro e V2 ⟨rfl, hb⟩
        have hB := hb
        replace F_l := Lib.hid (F_l.out.next hB)
        replace HB := Lib.hid (bt hB HB.out)
        clear hb hB
        go_wp2
        go_ret
        exact ⟨rfl, HB.out⟩
  · have h100' : 100 < (l.length : Int) := by omega
    have HB := Lib.hid (Below.refl w.heap.size w)
    have F_l := Lib.hid hA
    clear hA
    go_enter Try.func8, Try.ntmps8
    go_wp2_with fail
    refine (head_any _).mono ?_
    rintro e V1 ⟨rfl, hb⟩
    have hB := hb
    replace F_l := Lib.hid (F_l.out.next hB)
    replace HB := Lib.hid (bt hB HB.out)
    clear hb hB
    go_wp2
    go_ret
    exact ⟨rfl, HB.out⟩
end Go.Proofs.Ytneiaolkicgfkaa
