/- The reference's Rewrite. -/
import Derived.Test.YthebojaminploaaGreatDoorKJX4
import Derived.Test.YthebojaminploaaGreatDoorKJN
set_option maxRecDepth 100000
set_option linter.unusedVariables false
set_option linter.unusedSimpArgs false
namespace Go.Proofs.YthebojaminploaaGreatDoor
open Go.RowKit Go.Sort Go.Shelf

theorem Half_lit (n2 : Nat) (s : Int) (A : Option Addr) (n c : Nat) (w : World) (hn : n ≤ 1000000) (h2 : n / 2 = n2) :
    Calls Tryz.prog 49 #[.agg #[.int .i64 s, .slice A n c]] w fun e w' => e = .returned (.int .i64 (n2 : Int)) ∧ Below w.heap.size w w' := h2 ▸ Half_any s A n c w hn
theorem Area_s (m : Mem) (s : Int) (hs : m.1 = s) (a : Nat) (hcO : curO m = some a) (b o c : Nat) (w : World) (h32 : 32 ≤ m.2.length) (h4k : m.2.length ≤ 4096) (hc : m.2.length ≤ c) (hA : RdB w w.heap.size (some ⟨b, o, none⟩) m.2) :
    Calls Tryz.prog 50 #[.agg #[.int .i64 s, .slice (some ⟨b, o, none⟩) m.2.length c]] w fun e w' => e = .returned (.int .i64 (a : Int)) ∧ Below w.heap.size w w' := hs ▸ Area_lit m (a : Int) (areaI_some hcO) b o c w h32 h4k hc hA
theorem Gen_s (m : Mem) (s : Int) (hs : m.1 = s) (gen a : Nat) (hg : genB (areaB m a) = gen) (b o c : Nat) (w : World) (ha : a ≤ 1) (h32 : 32 ≤ m.2.length) (h4k : m.2.length ≤ 4096) (hc : m.2.length ≤ c) (hA : RdB w w.heap.size (some ⟨b, o, none⟩) m.2) :
    Calls Tryz.prog 55 #[.agg #[.int .i64 s, .slice (some ⟨b, o, none⟩) m.2.length c], .int .i64 (a : Int)] w fun e w' => e = .returned (.int .i64 (gen : Int)) ∧ Below w.heap.size w w' := hs ▸ hg ▸ Generation_any m a b o c w ha h32 h4k hc hA
theorem Read_s (m : Mem) (s : Int) (hs : m.1 = s) (A : Option Addr) (c : Nat) (w : World) (hA : RdB w w.heap.size A m.2) (hc : m.2.length ≤ c) :
    Calls Tryz.prog 29 #[.agg #[.int .i64 s, .slice A m.2.length c]] w (readPost m w) := hs ▸ rRead_any m A c w hA hc
theorem Room_r (x : List Rec) (rm : Nat) (hr : 5 + room x = rm) (hb : rm ≤ 1000000) (A1 : Option Addr) (c1 : Nat) (w : World) (h1 : RdBs w w.heap.size A1 x) (m1 : x.length ≤ 1000000) :
    Calls Tryz.prog 48 #[.slice A1 x.length c1] w fun e w' => e = .returned (.int .i64 (rm : Int)) ∧ Below w.heap.size w w' := by
  refine (Room_any x A1 c1 w h1 m1).mono ?_
  rintro e w' ⟨r, rfl, hr2, rfl⟩
  refine ⟨?_, Below.refl _ _⟩
  rw [hr2 (by omega), ← hr]
  simp
theorem room_len (l : List Rec) : l.length ≤ room l := by
  induction l with
  | nil => simp [room]
  | cons d l ih => simp only [room, List.length_cons] at ih ⊢; omega
theorem rest_take (L : List UInt8) (k : Nat) (hk : k < L.length) : restB (L.take (k + 1)) 0 = (restB (L.take k) 0 && L[k] == 255) := by
  unfold restB
  rw [List.drop_zero, List.drop_zero, List.take_succ_eq_append_getElem hk, List.all_append]
  simp
theorem own_cap {w : World} {base n sz c : Nat} {e : TypeId} {A : Option Addr} {xs : List Value} (h : w.ownsRow base e sz (.slice A n c) n xs) : n ≤ c := by
  obtain ⟨A', c', e', hc, _⟩ := own_read h
  injection e' with _ _ e'
  omega
theorem RdBs.below' {w W : World} {A : Option Addr} {x : List Rec} (h : RdBs w w.heap.size A x) (hb : Below w.heap.size w W) : RdBs W W.heap.size A x := h.next hb
theorem rewM_no {m : Mem} {keep : List Rec} (h : rewE m keep ≠ 0) : rewM m keep = [] := by unfold rewM rewL; rw [if_neg h]; rfl
set_option maxHeartbeats 4000000 in
theorem rRewrite_any (m : Mem) (keep : List Rec) (A Ak : Option Addr) (c ck : Nat) (w : World) (hA : RdB w w.heap.size A m.2) (hc : m.2.length ≤ c) (hK : RdBs w w.heap.size Ak keep) (hk2 : room keep ≤ 900000) :
    Calls Tryz.prog 26 #[.agg #[.int .i64 m.1, .slice A m.2.length c], .slice Ak keep.length ck] w (ListPost w (rewM m keep) (rewE m keep)) := by
  obtain ⟨i0, hi, hz0, hz1, hz2⟩ := info_parts info_u8
  obtain ⟨i9, hj9, hx0, hx1, hx2⟩ := info_parts info_flash
  have HA := Lib.hid hA
  have HKP := Lib.hid hK
  clear hA hK
  by_cases h0 : lookE m = 0
  · obtain ⟨a, l, en, hv, hq, hsc, hC⟩ := lookE_ok h0
    have h32 := jv_len hv
    have h4k := jv_max hv
    obtain ⟨b, o, rfl, hbb9, _⟩ := HA.out.addr (by omega)
    have hv2 : validB m.1 m.2.length = true := by unfold jvB at hv; simp only [Bool.and_eq_true] at hv; exact hv.1.1
    obtain ⟨vx1, vx2, vx3, vx4, vx5⟩ := (valid_iff _ _).1 hv2
    obtain ⟨s, hs⟩ := Int.eq_ofNat_of_zero_le (by omega : 0 ≤ m.1)
    have HV2 := Lib.hid hv2
    have HV := Lib.hid hv
    have HQ := Lib.hid hq
    have HSS := Lib.hid hs
    have ha := curO_le hq
    have hga : (lookC m).area = a := by rw [hC]
    have hgg : (lookC m).gen < 4294967296 := by rw [hC]; exact num4_lt _ _ _ _
    obtain ⟨gen, hgen⟩ : ∃ gen, gen = (lookC m).gen := ⟨_, rfl⟩
    have HGB : Hid (genB (areaB m a) = gen) := by show _ = _; rw [hgen, hC]
    rw [← hgen] at hgg
    have HGEN := Lib.hid hgen
    have HGA := Lib.hid hga
    have hhf : hf m = m.2.length / 2 := rfl
    obtain ⟨rm, hrm⟩ : ∃ rm, 5 + room keep = rm := ⟨_, rfl⟩
    have hrb : rm ≤ 1000000 := by omega
    have hkl : keep.length ≤ 1000000 := by have := room_len keep; omega
    obtain ⟨n2, hn2⟩ : ∃ n2, m.2.length / 2 = n2 := ⟨_, rfl⟩
    have hn2b : n2 ≤ 2048 := by omega
    have hn2c : 16 ≤ n2 := by omega
    have hn2d : m.2.length = 2 * n2 := by have := jv_even hv; omega
    have hle1 : 2 * n2 ≤ m.2.length := by omega
    have hle2 : m.2.length ≤ 2 * n2 := by omega
    have HN2 := Lib.hid hn2
    have HRM := Lib.hid hrm
    rw [hs] at vx1 vx2 vx3 ⊢
    have HAR : Hid (∀ W, RdB W W.heap.size (some ⟨b, o, none⟩) m.2 → Calls Tryz.prog 50 #[.agg #[.int .i64 (s : Int), .slice (some ⟨b, o, none⟩) m.2.length c]] W fun e w' => e = .returned (.int .i64 (a : Int)) ∧ Below W.heap.size W w') := fun W hW => Area_s m (s : Int) hs a hq b o c W h32 h4k hc hW
    have HGR : Hid (∀ W, RdB W W.heap.size (some ⟨b, o, none⟩) m.2 → Calls Tryz.prog 55 #[.agg #[.int .i64 (s : Int), .slice (some ⟨b, o, none⟩) m.2.length c], .int .i64 (a : Int)] W fun e w' => e = .returned (.int .i64 (gen : Int)) ∧ Below W.heap.size W w') := fun W hW => Gen_s m (s : Int) hs gen a HGB.out b o c W ha h32 h4k hc hW
    have HHR : Hid (∀ W, Calls Tryz.prog 49 #[.agg #[.int .i64 (s : Int), .slice (some ⟨b, o, none⟩) m.2.length c]] W fun e w' => e = .returned (.int .i64 (n2 : Int)) ∧ Below W.heap.size W w') := fun W => Half_lit n2 (s : Int) _ m.2.length c W (by omega) hn2
    have HRR : Hid (∀ W, Below w.heap.size w W → Calls Tryz.prog 48 #[.slice Ak keep.length ck] W fun e w' => e = .returned (.int .i64 (rm : Int)) ∧ Below W.heap.size W w') := fun W hW => Room_r keep rm hrm hrb Ak ck W (HKP.out.below' hW) hkl
    clear hs hv hv2 hq hsc hC vx5 hrm hn2 hn2d
    go_enter Tryz.func26, Tryz.ntmps26
    go_wp2_with fail
    obtain ⟨U, hU⟩ : ∃ Zz, Zz = w.alloc (.cells #[.int .i64 (s : Int), .slice (some ⟨b, o, none⟩) m.2.length c] 24) := ⟨_, rfl⟩
    have hb1 : Below w.heap.size w U := by rw [hU]; exact al1 _ _
    have k2 : Bk U w.heap.size 24 #[.int .i64 (s : Int), .slice (some ⟨b, o, none⟩) m.2.length c] := by rw [hU]; exact Bk.new _ _ _
    rw [← hU]
    clear hU
    obtain ⟨c0, c1⟩ := box2 k2
    refine (Read_s m (s : Int) HSS.out _ c _ (HA.out.next hb1) hc).mono ?_
    rintro e V0 ⟨Ar, cr, rfl, hcr, _, hbV⟩
    have K2 := Lib.hid (k2.next hbV)
    have HB := Lib.hid (bt hbV hb1)
    clear hbV hb1 k2 c0 c1
    rw [h0]
    clear hga hgen
    have e0 : ((0 : Int) != 0) = false := rfl
    obtain ⟨c0, c1⟩ := box2 K2.out
    have lk := K2.out.lt
    go_wp2_with fail
    have Rc0 := cell_regrown c0
    have Rc1 := cell_regrown c1
    have CA := fun (d : Nat) (os : Array Obj) => Calls.regrown_of (HAR.out (grow (redrawn V0 d) os) ((HA.out.next HB.out).next (below_regrown V0 d os)))
    have CG := fun (d : Nat) (os : Array Obj) => Calls.regrown_of (HGR.out (grow (redrawn V0 d) os) ((HA.out.next HB.out).next (below_regrown V0 d os)))
    refine wp_region_quiet_below (by kernel_rfl) (by kernel_rfl) ?_
    repeat (first | go_big_quiet_step (first | (with_reducible exact CA _ _) | (with_reducible exact CG _ _)) | quiet_step (first | (with_reducible exact CA _ _) | (with_reducible exact CG _ _)))
    refine wpQuiet_nil ?_
    intro _ hw'
    obtain ⟨⟨dq, osq⟩, hw''⟩ := hw'
    subst hw''
    obtain ⟨V1, hV1⟩ : ∃ V, V = grow (redrawn V0 dq) osq := ⟨_, rfl⟩
    have hbV1 : Below V0.heap.size V0 V1 := by rw [hV1]; exact below_regrown _ _ _
    rw [← hV1]
    clear hV1
    clear Rc0
    clear Rc1
    clear CA
    clear CG
    replace K2 := Lib.hid (K2.out.next hbV1)
    replace HB := Lib.hid (bt hbV1 HB.out)
    clear hbV1 c0 c1
    obtain ⟨c0, c1⟩ := box2 K2.out
    by_cases hg0 : n2 < rm
    · have r1 : (n2 : Int) < (rm : Int) := by omega
      have HZ : Hid (rewE m keep = 10 ∧ rewM m keep = []) := by
        have h1 : rewE m keep = 10 := by unfold rewE; rw [if_pos h0, if_neg (fun h => by have h1 := h.1; rw [hhf, HN2.out] at h1; have := HRM.out; omega)]
        exact ⟨h1, rewM_no (by rw [h1]; decide)⟩
      go_wp2_with fail
      have Rc0 := cell_regrown c0
      have Rc1 := cell_regrown c1
      have CR := fun (d : Nat) (os : Array Obj) => Calls.regrown_of (HRR.out (grow (redrawn V1 d) os) (bt (below_regrown V1 d os) HB.out))
      have CH := fun (d : Nat) (os : Array Obj) => Calls.regrown_of (HHR.out (grow (redrawn V1 d) os))
      refine wp_region_quiet_below (by kernel_rfl) (by kernel_rfl) ?_
      repeat (first | go_big_quiet_step (first | (with_reducible exact CR _ _) | (with_reducible exact CH _ _)) | quiet_step (first | (with_reducible exact CR _ _) | (with_reducible exact CH _ _)))
      refine wpQuiet_nil ?_
      intro _ hw'
      obtain ⟨⟨dq, osq⟩, hw''⟩ := hw'
      subst hw''
      obtain ⟨V2, hV2⟩ : ∃ V, V = grow (redrawn V1 dq) osq := ⟨_, rfl⟩
      have hbV2 : Below V1.heap.size V1 V2 := by rw [hV2]; exact below_regrown _ _ _
      rw [← hV2]
      clear hV2
      clear Rc0
      clear Rc1
      clear CR
      clear CH
      replace K2 := Lib.hid (K2.out.next hbV2)
      replace HB := Lib.hid (bt hbV2 HB.out)
      clear hbV2 c0 c1
      obtain ⟨c0, c1⟩ := box2 K2.out
      go_wp2
      go_ret2
      exact ⟨none, 0, by rw [HZ.out.1, HZ.out.2]; rfl, by rw [HZ.out.2]; exact Nat.le_refl _, by rw [HZ.out.2]; exact RdFs.nil, HB.out⟩
    · by_cases hg : gen = 4294967295
      · have r1 : ¬ (n2 : Int) < (rm : Int) := by omega
        have eg : ((gen : Int) == 4294967295) = true := by rw [hg]; rfl
        have HZ : Hid (rewE m keep = 10 ∧ rewM m keep = []) := by
          have h1 : rewE m keep = 10 := by unfold rewE; rw [if_pos h0, if_neg (fun h => h.2 (by rw [← HGEN.out]; exact hg))]
          exact ⟨h1, rewM_no (by rw [h1]; decide)⟩
        go_wp2_with fail
        have Rc0 := cell_regrown c0
        have Rc1 := cell_regrown c1
        have CR := fun (d : Nat) (os : Array Obj) => Calls.regrown_of (HRR.out (grow (redrawn V1 d) os) (bt (below_regrown V1 d os) HB.out))
        have CH := fun (d : Nat) (os : Array Obj) => Calls.regrown_of (HHR.out (grow (redrawn V1 d) os))
        refine wp_region_quiet_below (by kernel_rfl) (by kernel_rfl) ?_
        repeat (first | go_big_quiet_step (first | (with_reducible exact CR _ _) | (with_reducible exact CH _ _)) | quiet_step (first | (with_reducible exact CR _ _) | (with_reducible exact CH _ _)))
        refine wpQuiet_nil ?_
        intro _ hw'
        obtain ⟨⟨dq, osq⟩, hw''⟩ := hw'
        subst hw''
        obtain ⟨V2, hV2⟩ : ∃ V, V = grow (redrawn V1 dq) osq := ⟨_, rfl⟩
        have hbV2 : Below V1.heap.size V1 V2 := by rw [hV2]; exact below_regrown _ _ _
        rw [← hV2]
        clear hV2
        clear Rc0
        clear Rc1
        clear CR
        clear CH
        replace K2 := Lib.hid (K2.out.next hbV2)
        replace HB := Lib.hid (bt hbV2 HB.out)
        clear hbV2 c0 c1
        obtain ⟨c0, c1⟩ := box2 K2.out
        go_wp2
        go_ret2
        exact ⟨none, 0, by rw [HZ.out.1, HZ.out.2]; rfl, by rw [HZ.out.2]; exact Nat.le_refl _, by rw [HZ.out.2]; exact RdFs.nil, HB.out⟩
      · have r1 : ¬ (n2 : Int) < (rm : Int) := by omega
        have eg : ((gen : Int) == 4294967295) = false := by rw [beq_eq_false_iff_ne]; omega
        have HZ : Hid (rewE m keep = 0 ∧ rewM m keep = (rewB m keep).map fun b => (m.1, b)) := by
          have h1 : rewE m keep = 0 := by unfold rewE; rw [if_pos h0, if_pos ⟨by rw [hhf, HN2.out]; have := HRM.out; omega, by rw [← HGEN.out]; exact hg⟩]
          exact ⟨h1, by unfold rewM rewL; rw [if_pos h1]⟩
        go_wp2_with fail
        have Rc0 := cell_regrown c0
        have Rc1 := cell_regrown c1
        have CR := fun (d : Nat) (os : Array Obj) => Calls.regrown_of (HRR.out (grow (redrawn V1 d) os) (bt (below_regrown V1 d os) HB.out))
        have CH := fun (d : Nat) (os : Array Obj) => Calls.regrown_of (HHR.out (grow (redrawn V1 d) os))
        refine wp_region_quiet_below (by kernel_rfl) (by kernel_rfl) ?_
        repeat (first | go_big_quiet_step (first | (with_reducible exact CR _ _) | (with_reducible exact CH _ _)) | quiet_step (first | (with_reducible exact CR _ _) | (with_reducible exact CH _ _)))
        refine wpQuiet_nil ?_
        intro _ hw'
        obtain ⟨⟨dq, osq⟩, hw''⟩ := hw'
        subst hw''
        obtain ⟨V2, hV2⟩ : ∃ V, V = grow (redrawn V1 dq) osq := ⟨_, rfl⟩
        have hbV2 : Below V1.heap.size V1 V2 := by rw [hV2]; exact below_regrown _ _ _
        rw [← hV2]
        clear hV2
        clear Rc0
        clear Rc1
        clear CR
        clear CH
        replace K2 := Lib.hid (K2.out.next hbV2)
        replace HB := Lib.hid (bt hbV2 HB.out)
        clear hbV2 c0 c1
        obtain ⟨c0, c1⟩ := box2 K2.out

        obtain ⟨ot, hot⟩ : ∃ ot : Nat, (1 : Int) - (a : Int) = (ot : Int) ∧ ot ≤ 1 ∧ ot = 1 - a := ⟨1 - a, by omega, by omega, rfl⟩
        obtain ⟨hot1, hot2, hot3⟩ := hot
        have HOT := Lib.hid hot3
        have wsub : IntKind.i64.wrap (ot : Int) = (ot : Int) := IntWalk.i64_in _ (by omega)
        obtain ⟨q, hq1, hq2, hq3, hq4⟩ := jv_parts (s := s) (n := m.2.length) (by rw [← HSS.out]; exact HV.out) (by omega)
        rw [HN2.out] at hq2 hq4
        obtain ⟨p0, hp0⟩ : ∃ p0, p0 = ot * q := ⟨_, rfl⟩
        have hqs : q ≤ n2 := by rw [hq2]; exact Nat.le_mul_of_pos_right _ (by omega)
        have hp1 : p0 ≤ q := by
          rw [hp0]
          have : ot * q ≤ 1 * q := Nat.mul_le_mul_right _ hot2
          omega
        obtain ⟨h0n, hh0⟩ : ∃ h0n, h0n = ot * n2 := ⟨_, rfl⟩
        have hh1 : h0n + n2 ≤ 2 * n2 := by
          rw [hh0]
          have : ot * n2 ≤ 1 * n2 := Nat.mul_le_mul_right _ hot2
          omega
        have e3 : (ot : Int) * (n2 : Int) = (h0n : Int) := by rw [hh0]; simp
        have hps : h0n = p0 * s := by rw [hh0, hp0, hq2, Nat.mul_assoc]
        obtain ⟨t9, ht9⟩ : ∃ t9, t9 = h0n + n2 := ⟨_, rfl⟩
        have e4 : (h0n : Int) + (n2 : Int) = (t9 : Int) := by rw [ht9]; simp
        obtain ⟨u9, hu9⟩ : ∃ u9, u9 = p0 + q := ⟨_, rfl⟩
        have e5 : (t9 : Int) / (s : Int) = (u9 : Int) := by
          rw [← Int.natCast_ediv]
          have : t9 = u9 * s := by rw [ht9, hu9, hps, hq2, Nat.add_mul]
          rw [this, Nat.mul_div_cancel _ (by omega)]
        have e6 : (h0n : Int) / (s : Int) = (p0 : Int) := by
          rw [← Int.natCast_ediv, hps, Nat.mul_div_cancel _ (by omega)]
        have w1 : IntKind.i64.wrap (h0n : Int) = (h0n : Int) := IntWalk.i64_in _ (by omega)
        have w2 : IntKind.i64.wrap (t9 : Int) = (t9 : Int) := IntWalk.i64_in _ (by omega)
        have w3 : IntKind.i64.wrap (p0 : Int) = (p0 : Int) := IntWalk.i64_in _ (by omega)
        have w4 : IntKind.i64.wrap (u9 : Int) = (u9 : Int) := IntWalk.i64_in _ (by omega)
        have s0 : (s : Int) ≠ 0 := by omega
        have hu8 : u9 ≤ 8192 := by omega
        have ht8 : t9 ≤ 4096 := by omega
        have HQ1 := Lib.hid hq1
        have HQ2 := Lib.hid hq2
        have HQ4 := Lib.hid hq4
        have HP0 := Lib.hid hp0
        have HH0 := Lib.hid hh0
        have HU9 := Lib.hid hu9
        clear hot3 hq1 hq2 hq3 hq4 hp0 hh0 hps ht9 hu9
        go_wp2_with fail
        have Rc0 := cell_regrown c0
        have Rc1 := cell_regrown c1
        have CA := fun (d : Nat) (os : Array Obj) => Calls.regrown_of (HAR.out (grow (redrawn V2 d) os) ((HA.out.next HB.out).next (below_regrown V2 d os)))
        have CH := fun (d : Nat) (os : Array Obj) => Calls.regrown_of (HHR.out (grow (redrawn V2 d) os))
        refine wp_region_quiet_below (by kernel_rfl) (by kernel_rfl) ?_
        repeat (first | go_big_quiet_step (first | (with_reducible exact CA _ _) | (with_reducible exact CH _ _)) | quiet_step (first | (with_reducible exact CA _ _) | (with_reducible exact CH _ _)))
        refine wpQuiet_nil ?_
        intro _ hw'
        obtain ⟨⟨dq, osq⟩, hw''⟩ := hw'
        subst hw''
        obtain ⟨V3, hV3⟩ : ∃ V, V = grow (redrawn V2 dq) osq := ⟨_, rfl⟩
        have hbV3 : Below V2.heap.size V2 V3 := by rw [hV3]; exact below_regrown _ _ _
        rw [← hV3]
        clear hV3
        clear Rc0
        clear Rc1
        clear CA
        clear CH
        replace K2 := Lib.hid (K2.out.next hbV3)
        replace HB := Lib.hid (bt hbV3 HB.out)
        clear hbV3 c0 c1
        obtain ⟨c0, c1⟩ := box2 K2.out
        clear hot1
        have lk3 := K2.out.lt
        go_upto_region 9 with fail
        obtain ⟨W0, hW0⟩ : ∃ Zz, Zz = V3.alloc (.cells #[.int .i64 (s : Int), .slice (some ⟨b, o, none⟩) m.2.length c] 24) := ⟨_, rfl⟩
        have hb0 : Below V3.heap.size V3 W0 := by rw [hW0]; exact al1 _ _
        have kl : Bk W0 V3.heap.size 24 #[.int .i64 (s : Int), .slice (some ⟨b, o, none⟩) m.2.length c] := by rw [hW0]; exact Bk.new _ _ _
        rw [← hW0]
        clear hW0
        have hL0 : Lst (s : Int) V3.heap.size [(some ⟨b, o, none⟩, c, m.2)] (.slice (some ⟨V3.heap.size, 0, none⟩) 1 1) W0 := by
          refine ⟨⟨rfl, .inr ⟨V3.heap.size, 1, _, rfl, Nat.le_refl _, kl, Nat.le_refl _, by simp [maxLen], rfl, rfl⟩⟩, ?_, ?_⟩
          · intro x hx
            obtain rfl : x = (some ⟨b, o, none⟩, c, m.2) := by simpa using hx
            exact ⟨(HA.out.next HB.out).next hb0, hc⟩
          · intro x hx hlen b9 o9 e9
            obtain rfl : x = (some ⟨b, o, none⟩, c, m.2) := by simpa using hx
            have e8 : b = b9 ∧ o = o9 := by simpa using e9
            have := HB.out.size
            simp [Value.ownBlock]
            omega
        replace HL0 := Lib.hid hL0
        replace HB0 := Lib.hid hb0
        replace K0 := Lib.hid (K2.out.next hb0)
        clear hL0 hb0 kl c0 c1
        obtain ⟨c0, c1⟩ := box2 K0.out
        go_wp2
        go_loopw [10, 11] (fun v i wr => ∃ (j : Nat) (its : List Elt), i = .int .i64 ((p0 : Int) + (j : Int)) ∧ j ≤ q ∧ its ≠ [] ∧ (∀ x ∈ its.map (·.2.2), x.length = m.2.length) ∧ its.length ≤ 1 + j * s ∧ eraseB m s (its.map (·.2.2)) (p0 + j) (q - j) = eraseB m s [m.2] p0 q ∧ Lst (s : Int) V3.heap.size its v wr ∧ Below V3.heap.size V3 wr) (fun _ i _ => p0 + q - (intOf i).toNat)
        case atStart =>
          refine ⟨0, _, by simp, Nat.zero_le _, by simp, ?_, by simp, by simp, HL0.out, HB0.out⟩
          intro x hx
          obtain rfl : x = m.2 := by simpa using hx
          rfl
        case round =>
          obtain ⟨j, its, rfl, hj, hne, hlen, hil, hera, hls, hbw⟩ := hrel
          have HBW := Lib.hid hbw
          have HER := Lib.hid hera
          have HLN := Lib.hid hlen
          obtain ⟨pr, y, rfl⟩ : ∃ pr y, its = pr ++ [y] := ⟨its.dropLast, its.getLast hne, (List.dropLast_concat_getLast hne).symm⟩
          have hxl : y.2.2.length = m.2.length := hlen y.2.2 (by simp)
          have HXL := Lib.hid hxl
          rw [List.length_append, List.length_cons, List.length_nil] at hil
          have hjs : j * s ≤ n2 := by rw [HQ2.out]; exact Nat.mul_le_mul_right _ hj
          obtain ⟨g, cap, hvs⟩ := ownsRow_succ (by have h9 := hls.1; rw [List.length_append, List.length_cons, List.length_nil] at h9; exact h9)
          subst hvs
          have HLS := Lib.hid hls
          replace K1 := Lib.hid (K2.out.next HBW.out)
          obtain ⟨c0, c1⟩ := box2 K1.out
          have lw := HBW.out.size
          obtain ⟨i, hi⟩ : ∃ i, i = p0 + j := ⟨_, rfl⟩
          have hiI : (p0 : Int) + (j : Int) = (i : Int) := by omega
          have HI := Lib.hid hi
          rw [hiI]
          have hib : i ≤ 8192 := by omega
          clear hls hbw hera hlen hne hxl
          by_cases hlt : j < q
          · have q1 : (i : Int) < (u9 : Int) := by have := HU9.out; omega
            have hi2 : (i + 1) * s ≤ m.2.length := by
              rw [HQ1.out]
              exact Nat.mul_le_mul_right _ (by omega)
            clear hiI hi
            go_wp2_with fail
            have Rc0 := cell_regrown c0
            have Rc1 := cell_regrown c1
            have CH := fun (d : Nat) (os : Array Obj) => Calls.regrown_of (HHR.out (grow (redrawn wr d) os))
            refine wp_region_quiet_below (by kernel_rfl) (by kernel_rfl) ?_
            repeat (first | go_big_quiet_step (first | (with_reducible exact CH _ _)) | quiet_step (first | (with_reducible exact CH _ _)))
            refine wpQuiet_nil ?_
            intro _ hw'
            obtain ⟨⟨dq, osq⟩, hw''⟩ := hw'
            subst hw''
            obtain ⟨W1, hW1⟩ : ∃ V, V = grow (redrawn wr dq) osq := ⟨_, rfl⟩
            have hbW1 : Below wr.heap.size wr W1 := by rw [hW1]; exact below_regrown _ _ _
            rw [← hW1]
            clear hW1
            clear Rc0
            clear Rc1
            clear CH
            have hb1 : Below wr.heap.size wr W1 := hbW1
            replace K1 := Lib.hid (K1.out.next hb1)
            replace HLS := Lib.hid (HLS.out.next hb1)
            replace HBW := Lib.hid (HBW.out.trans (hb1.mono lw))
            clear hb1 hbW1 c0 c1
            obtain ⟨c0, c1⟩ := box2 K1.out
            replace lw := HBW.out.size
            obtain ⟨is, his⟩ : ∃ is, is = i * s := ⟨_, rfl⟩
            have hisI : (i : Int) * (s : Int) = (is : Int) := by rw [his]; simp
            have his2 : is + s ≤ m.2.length := by rw [Nat.succ_mul] at hi2; omega
            have w5 : IntKind.i64.wrap (is : Int) = (is : Int) := IntWalk.i64_in _ (by omega)
            obtain ⟨LL, hLL⟩ : ∃ LL, LL = (m.2.drop is).take s := ⟨_, rfl⟩
            have hLs : LL.length = s := by rw [hLL, List.length_take, List.length_drop]; omega
            have HLL := Lib.hid hLL
            have HIS := Lib.hid his
            have HR5 := Lib.hid ((HA.out.next HB.out).next HBW.out)
            have HLs := Lib.hid hLs
            clear his hLL hLs hi2
            go_wp2
            go_loopw [12, 13] (fun x k wr2 => ∃ kk : Nat, k = .int .i64 (kk : Int) ∧ kk ≤ s ∧ x = .bool (!restB (LL.take kk) 0) ∧ W1 = wr2) (fun _ k _ => s - (intOf k).toNat)
            case atStart => exact ⟨0, rfl, Nat.zero_le _, by simp [restB], rfl⟩
            case round =>
              obtain ⟨kk, rfl, hkk, rfl, rfl⟩ := hrel
              by_cases hlk : kk < s
              · have hin : kk < LL.length := by rw [HLs.out]; exact hlk
                have hrt := rest_take LL kk hin
                have HRT := Lib.hid hrt
                obtain ⟨rb, hrb⟩ : ∃ rb, rb = restB (LL.take kk) 0 := ⟨_, rfl⟩
                rw [← hrb] at HRT ⊢
                have k0 : (kk : Int) < (s : Int) := by omega
                clear hrt hrb
                cases rb with
                | false =>
                  rw [show (!false) = true from rfl]
                  go_wp2
                  go_roundw
                  case rel => exact ⟨kk + 1, by go_num, by omega, by rw [HRT.out]; rfl, by simp⟩
                  case measure => simp [intOf]; omega
                | true =>
                  rw [show (!true) = false from rfl]
                  have hin2 : is + kk < m.2.length := by omega
                  obtain ⟨b1, o1, e1, hb1, z1⟩ := HR5.out.at_ hin2
                  obtain ⟨rfl, rfl⟩ : b = b1 ∧ o = o1 := by simpa using e1
                  obtain ⟨x, hx⟩ : ∃ x, x = m.2[is + kk] := ⟨_, rfl⟩
                  rw [← hx] at z1
                  have HX : Hid (LL[kk] = x) := by
                    show _ = _
                    have h9 : LL[kk]? = some x := by rw [HLL.out, List.getElem?_take_of_lt hlk, List.getElem?_drop, List.getElem?_eq_getElem hin2, hx]
                    rw [List.getElem?_eq_getElem hin] at h9
                    exact Option.some.inj h9
                  obtain ⟨p, hp⟩ : ∃ p, p = is + kk := ⟨_, rfl⟩
                  rw [← hp] at z1
                  have hpI : (is : Int) + (kk : Int) = (p : Int) := by omega
                  have wc : IntKind.i64.wrap (p : Int) = (p : Int) := IntWalk.i64_in _ (by omega)
                  have p1 : (0 : Int) ≤ (p : Int) := by omega
                  have p2 : (p : Int) < (m.2.length : Int) := by omega
                  have x1 := x.toNat_lt
                  clear hx hp e1 hin2
                  by_cases h255 : x = 255
                  · have e255 : ((x.toNat : Int) != 255) = false := by subst h255; rfl
                    have HN : Hid (restB (LL.take (kk + 1)) 0 = true) := by show _ = _; rw [HRT.out, HX.out, h255]; rfl
                    clear h255
                    go_wp2
                    go_roundw
                    case rel => exact ⟨kk + 1, by go_num, by omega, by rw [HN.out]; rfl, by simp⟩
                    case measure => simp [intOf]; omega
                  · have e255 : ((x.toNat : Int) != 255) = true := by rw [bne_iff_ne]; exact fun h9 => h255 (UInt8.toNat_inj.1 (by simp; omega))
                    have HN : Hid (restB (LL.take (kk + 1)) 0 = false) := by
                      show _ = _
                      rw [HRT.out, HX.out, Bool.true_and]
                      exact beq_eq_false_iff_ne.2 h255
                    clear h255
                    go_wp2
                    go_roundw
                    case rel => exact ⟨kk + 1, by go_num, by omega, by rw [HN.out]; rfl, by simp⟩
                    case measure => simp [intOf]; omega
              · obtain rfl : kk = s := by omega
                have k0 : ¬ ((kk : Int) < (kk : Int)) := by omega
                rw [List.take_of_length_le (by rw [HLs.out]; exact Nat.le_refl _)]
                obtain ⟨rb, hrb⟩ : ∃ rb, rb = restB LL 0 := ⟨_, rfl⟩
                rw [← hrb]
                have HEU : Hid (eraseB m kk ((pr ++ [y]).map (·.2.2)) (p0 + j) (q - j) = eraseB m kk (if rb = true then (pr ++ [y]).map (·.2.2) else addB ((pr ++ [y]).map (·.2.2)) eraF (i * kk) kk) (i + 1) (q - (j + 1))) := by
                  show _ = _
                  rw [show q - j = q - (j + 1) + 1 by omega, eraseB, ← HI.out, ← HIS.out, ← HLL.out, ← hrb, HIS.out]
                clear hrb
                cases rb with
                | true =>
                  rw [show (!true) = false from rfl]
                  go_wp2
                  go_roundw
                  case rel =>
                    refine ⟨j + 1, pr ++ [y], ?_, by omega, by simp, HLN.out, by rw [List.length_append, Nat.succ_mul]; simp; omega, ?_, HLS.out, HBW.out⟩
                    · have := HI.out; go_num
                    · have h9 := HEU.out; simp only [if_true] at h9; rw [← HER.out, h9, HI.out]; rfl
                  case measure => have := HI.out; simp [intOf]; omega
                | false =>
                  rw [show (!false) = true from rfl]
                  have hls := HLS.out
                  have hls' : Lst (kk : Int) V3.heap.size (pr ++ [y]) (.slice (some ⟨g, 0, none⟩) (pr ++ [y]).length cap) W1 := by simpa using hls
                  obtain ⟨A1, c9, y0, y1, hc9, r9, _⟩ := Lst.at_ hls' (k := pr.length) (by simp)
                  have ey : (pr ++ [y])[pr.length]'(by simp) = y := by simp
                  rw [ey] at y1 hc9 r9
                  have i1 : (0 : Int) ≤ (pr.length : Int) := by omega
                  have i2 : (pr.length : Int) < (pr.length : Int) + 1 := by omega
                  have i3 : IntKind.i64.wrap (pr.length : Int) = (pr.length : Int) := IntWalk.i64_in _ (by omega)
                  have HE := Lib.hid (rErase_t kk i y.2.2 A1 c9 W1 r9 hc9 (by rw [HXL.out, ← HSS.out]; exact HV2.out) (by rw [HXL.out, Nat.succ_mul, ← HIS.out]; exact his2) (by omega))
                  have HOW : Hid (W1.ownsRow V3.heap.size 24 2 (.slice (some ⟨g, 0, none⟩) (pr.length + 1) cap) (pr.length + 1) (cellsE (kk : Int) (pr ++ [y]))) := by
                    have := hls.1
                    show World.ownsRow _ _ _ _ _ _ _
                    rwa [List.length_append] at this
                  clear ey r9 hc9 hls hls'
                  go_wp2_with fail
                  refine HE.out.mono ?_
                  rintro e W2 ⟨g2, o2, c2, z, ll, rfl, hc2, hll, hlm, hl2, hr2, hn2', hb2⟩
                  have HSP := Lib.hid (⟨hl2, hn2', hlm, hll⟩ : _ ∧ _ ∧ _ ∧ _)
                  have HR2 := Lib.hid hr2
                  have HB2 := Lib.hid hb2
                  replace HOW := Lib.hid (own_next HOW.out hb2)
                  have lw2 := hb2.size
                  have j1 : (1 : Int) ≤ (kk : Int) + 1 := by omega
                  have j2 : (kk : Int) + 1 ≤ (c2 : Int) := by omega
                  have j3 : (1 : Int) ≤ (c2 : Int) := by omega
                  have j4 : c2 ≠ 1 := by omega
                  clear hl2 hn2' hlm hll hr2 hb2 y0 y1 i1 i2 i3 c0 c1
                  go_wp2_with (at_builtin; refine wpList_append_rd _ rfl (.tmp 94) (.tmp 96) _ rfl V3.heap.size 24 i9 _ 2 32 Tryz.underlying28 hj9 hx0 hx1 hx2 rfl (by omega) (.slice (some ⟨g, 0, none⟩) (pr.length + 1) cap) (pr.length + 1) (cellsE (kk : Int) (pr ++ [y])) rfl HOW.out W2.heap.size (some ⟨g2, o2 + 2, none⟩) kk (c2 - 1) (cellsE (kk : Int) ll) rfl HR2.out (cellsE_one _ ll) (by simp only [maxLen]; omega) (by omega) (by omega) ?_; intro v3 w3 hown hg' hat; obtain ⟨A3, c3, rfl, hc3, _⟩ := own_read hown)
                  have HJ : Hid (Lst (kk : Int) V3.heap.size (pr ++ [y] ++ ll) (.slice A3 (pr.length + 1 + kk) c3) w3) := Lst.join HLS.out HB2.out HSP.out.1 HSP.out.2.1 (by rw [HSP.out.2.2.2, List.length_append]; exact hown) (by simpa using hg') (by simpa using hat)
                  have HB3 : Hid (Below V3.heap.size V3 w3) := (HBW.out.trans (HB2.out.mono lw)).grown hg' (by omega) (by intro k hk; exact (own_lt HOW.out hk).1)
                  clear hown hg' hat HOW HR2
                  go_wp2
                  go_roundw
                  case rel =>
                    have hadd : (pr ++ [y] ++ ll).map (·.2.2) = addB ((pr ++ [y]).map (·.2.2)) eraF (i * kk) kk := by
                      unfold addB
                      rw [map_last, List.map_append, HSP.out.2.2.1]
                    refine ⟨j + 1, pr ++ [y] ++ ll, ?_, by omega, by simp, ?_, ?_, ?_, HJ.out, HB3.out⟩
                    · have := HI.out; go_num
                    · rw [hadd]; exact addB_len HLN.out (by simp)
                    · have := HSP.out.2.2.2; rw [List.length_append, List.length_append, Nat.succ_mul]; simp; omega
                    · have h9 := HEU.out; rw [if_neg (by simp)] at h9; rw [← HER.out, h9, hadd, HI.out]; rfl
                  case measure => have := HI.out; simp [intOf]; omega
          · obtain rfl : j = q := by omega
            have q1 : ¬ ((i : Int) < (u9 : Int)) := by have := HU9.out; omega
            have hL1 : (pr ++ [y]).map (·.2.2) = eraseB m s [m.2] p0 j := by
              have := HER.out
              rw [Nat.sub_self] at this
              exact this
            have HL1 := Lib.hid hL1
            have hgl : gen + 1 < 4294967296 := by omega
            have wg : IntKind.u32.wrap ((gen : Int) + 1) = (gen : Int) + 1 := by simp [IntKind.wrap, IntKind.bits, IntKind.signed]; omega
            have H4 := fun W => rfour_any (gen + 1) hgl W
            simp only [Int.natCast_succ] at H4
            have H4H := Lib.hid H4
            clear hL1 H4 hgl hiI hi
            go_wp2_with fail
            have Rc0 := cell_regrown c0
            have Rc1 := cell_regrown c1
            have CH := fun (d : Nat) (os : Array Obj) => Calls.regrown_of (HHR.out (grow (redrawn wr d) os))
            refine wp_region_quiet_below (by kernel_rfl) (by kernel_rfl) ?_
            repeat (first | go_big_quiet_step (first | (with_reducible exact CH _ _)) | quiet_step (first | (with_reducible exact CH _ _)))
            refine wpQuiet_nil ?_
            intro _ hw'
            obtain ⟨⟨dq, osq⟩, hw''⟩ := hw'
            subst hw''
            obtain ⟨W1, hW1⟩ : ∃ V, V = grow (redrawn wr dq) osq := ⟨_, rfl⟩
            have hbW1 : Below wr.heap.size wr W1 := by rw [hW1]; exact below_regrown _ _ _
            rw [← hW1]
            clear hW1
            clear Rc0
            clear Rc1
            clear CH
            have hb1 : Below wr.heap.size wr W1 := hbW1
            replace K1 := Lib.hid (K1.out.next hb1)
            replace HLS := Lib.hid (HLS.out.next hb1)
            replace HBW := Lib.hid (HBW.out.trans (hb1.mono lw))
            clear hb1 hbW1 c0 c1
            obtain ⟨c0, c1⟩ := box2 K1.out
            replace lw := HBW.out.size
            go_wp2_with fail
            refine (H4H.out W1).mono ?_
            rintro e Y ⟨rfl, hY⟩
            obtain ⟨bx, hbx⟩ : ∃ bx, bx = be4 (gen + 1) := ⟨_, rfl⟩
            rw [← hbx] at hY
            have hbxl : bx.length = 4 := by rw [hbx]; exact be4_length _
            have kY : Bk Y W1.heap.size 5 (u8s bx).toArray := by rw [hY]; exact Bk.new _ _ _
            have hbY : Below W1.heap.size W1 Y := by rw [hY]; exact al1 _ _
            have hOY : Y.ownsRow W1.heap.size 5 1 (.slice (some ⟨W1.heap.size, 0, none⟩) 4 4) 4 (u8s bx) := by
              have := own_block kY (Nat.le_refl _) (by simp; omega)
              simpa [hbxl] using this
            have HOY := Lib.hid hOY
            have HBY := Lib.hid hbY
            have HBX := Lib.hid hbx
            have HBXL := Lib.hid hbxl
            clear hY kY hbY hOY hbx H4H wg hbxl c0 c1
            go_wp2
            go_loopw [16, 17] (fun v i wr2 => ∃ k : Nat, i = .int .i64 (k : Int) ∧ k ≤ keep.length ∧ wr2.ownsRow W1.heap.size 5 1 v (4 + room (keep.take k)) (u8s (bx ++ recs (keep.take k))) ∧ Below W1.heap.size W1 wr2) (fun _ i _ => keep.length - (intOf i).toNat)
            case atStart => exact ⟨0, rfl, Nat.zero_le _, by simpa [room, recs] using HOY.out, HBY.out⟩
            case round =>
              obtain ⟨k, rfl, hk, hown, hb2⟩ := hrel
              have HO2 := Lib.hid hown
              have HB2 := Lib.hid hb2
              obtain ⟨Av, cv, rfl, hcv, hrv⟩ := own_read hown
              have hrt := room_take_le keep k
              have hrm9 := HRM.out
              by_cases hlt : k < keep.length
              · obtain ⟨b5, o5, A', c', rfl, hb5, hcell, hcc, hrd⟩ := (((HKP.out.next HB.out).next HBW.out).next HB2.out).at_ hlt
                obtain ⟨d, hd⟩ : ∃ d, d = keep[k] := ⟨_, rfl⟩
                rw [← hd] at hcell hcc hrd
                have hrs := room_take_succ hlt
                rw [← hd] at hrs
                have hrl := room_take_le keep (k + 1)
                have hd6 : d.length ≤ 60000 := by omega
                have HD := Lib.hid hd
                have HRD := Lib.hid hrd
                have HRS := Lib.hid hrs
                have k1 : (0 : Int) ≤ (k : Int) := by omega
                have k2 : (k : Int) < (keep.length : Int) := by omega
                have hrk : room (keep.take k) + 7 + d.length ≤ 60000 := by omega
                clear hd hrd hown hb2 hrv hrs hrt hrl hrm9
                go_wp2_with fail
                refine (rRecord_any d A' c' _ HRD.out (by omega)).mono ?_
                rintro e V5 ⟨A3, c3, rfl, hc3, ho3, hb3⟩
                have HO3 := Lib.hid (own_on HO2.out hb3)
                obtain ⟨A3', c3', e3, _, hr3⟩ := own_read ho3
                have ea : A3 = A3' ∧ c3 = c3' := by simpa using e3
                have HR3 : Hid (RdS V5 V5.heap.size 1 A3 (7 + d.length) (u8s (recL d))) := by show RdS _ _ _ _ _ _; rw [ea.1]; exact hr3
                have HB3 := Lib.hid (bt hb3 HB2.out)
                have lb3 := HB3.out.size
                clear ho3 e3 ea hr3 hb3
                go_wp2_with (at_builtin; refine wpList_append_rd _ rfl (.tmp 108) (.tmp 113) _ rfl W1.heap.size 5 i0 _ 1 1 Tryz.underlying22 hi hz0 hz1 hz2 rfl (by omega) (.slice Av (4 + room (keep.take k)) cv) (4 + room (keep.take k)) (u8s (bx ++ recs (keep.take k))) rfl HO3.out V5.heap.size A3 (7 + d.length) c3 (u8s (recL d)) rfl HR3.out (u8s_one _) (by simp only [maxLen]; omega) (by omega) lb3 ?_; intro v6 w6 hown6 hg6 hat6; have hb6 : Below W1.heap.size W1 w6 := (HB3.out.grown hg6 lb3 (fun k hk => (own_lt HO3.out hk).1)); have ho6 : w6.ownsRow W1.heap.size 5 1 v6 (4 + room (keep.take (k + 1))) (u8s (bx ++ recs (keep.take (k + 1)))) := (by rw [HRS.out, List.take_succ_eq_append_getElem hlt, recs_append, ← HD.out]; rw [show recs [d] = recL d by simp [recs]]; have := hown6; rw [← u8s_append] at this; rw [← List.append_assoc, ← Nat.add_assoc]; exact this); have HO6 := Lib.hid ho6; have HB6 := Lib.hid hb6; clear hown6 hg6 hat6 ho6 hb6)
                go_roundw
                case rel => exact ⟨k + 1, by go_num, by omega, HO6.out, HB6.out⟩
                case measure => simp [intOf]; omega
              · obtain rfl : k = keep.length := by omega
                have q2 : ¬ ((keep.length : Int) < (keep.length : Int)) := by omega
                rw [List.take_of_length_le (Nat.le_refl _)] at hrv hcv ⊢
                obtain ⟨txt, htxt⟩ : ∃ txt, txt = bx ++ recs keep := ⟨_, rfl⟩
                have htl : 4 + room keep = txt.length := by rw [htxt, List.length_append, recs_length, HBXL.out]
                rw [← htxt] at hrv
                obtain ⟨tn, htn⟩ : ∃ tn, 4 + room keep = tn := ⟨_, rfl⟩
                rw [htn] at hrv hcv ⊢
                have HRT : Hid (RdB wr wr.heap.size Av txt) := by show RdS _ _ _ _ _ _; rw [← htl, htn]; exact hrv
                have HTX := Lib.hid htxt
                have HTL : Hid (txt.length = tn) := by show _ = _; omega
                have hT0 : 0 < tn := by omega
                have hT1 : tn + 1 ≤ n2 := by omega
                have w7 : IntKind.i64.wrap ((h0n : Int) + 1) = (h0n : Int) + 1 := IntWalk.i64_in _ (by omega)
                have H5 := moreL V3.heap.size m.2.length (s : Int) (eraseB m s [m.2] p0 j) (pr ++ [y]) _ (h0n + 1) txt tn HTL.out Av cv wr (HLS.out.next HB2.out) HL1.out (by simp) (by rw [← HL1.out]; exact HLN.out) (by have := HB2.out.size; omega) (by rw [← HSS.out]; exact HV2.out) HRT.out (by omega) hT0 (by simp; omega)
                rw [Int.natCast_succ] at H5
                have H5H := Lib.hid H5
                have HBA := Lib.hid (HBW.out.trans (HB2.out.mono lw))
                clear H5 htxt hrv hown hb2 htl htn hrm9 hrt
                go_wp2_with fail
                refine H5H.out.mono ?_
                rintro e W5 ⟨A5, c5, its5, rfl, hm5, hl5, hb5⟩
                have HL5 := Lib.hid hl5
                have HM5 := Lib.hid hm5
                have hn5 : its5.length ≤ 100000 := by
                  have h9 := congrArg List.length hm5
                  rw [← HL1.out] at h9
                  simp [addB, memos_length] at h9
                  omega
                have HB5 := Lib.hid (HBA.out.trans (hb5.mono (Nat.le_refl _)))
                clear hl5 hm5 hb5 H5H HBA
                have lb5 := HB5.out.size
                go_wp2_with fail
                obtain ⟨U9, hU9⟩ : ∃ Zz, Zz = W5.alloc (.cells #[.int .u8 80] 5) := ⟨_, rfl⟩
                have hb9 : Below W5.heap.size W5 U9 := by rw [hU9]; exact al1 _ _
                have k9 : Bk U9 W5.heap.size 5 (u8s [80]).toArray := by rw [hU9]; exact Bk.new _ _ _
                rw [← hU9]
                clear hU9
                have hne5 : its5 ≠ [] := by
                  intro h9
                  have := HM5.out
                  rw [h9] at this
                  exact addB_ne _ _ _ _ (by rw [← HL1.out]; simp) this.symm
                have H6 := moreL V3.heap.size m.2.length (s : Int) (addB (eraseB m s [m.2] p0 j) (andF txt) (h0n + 1) tn) its5 _ h0n [80] 1 rfl (some ⟨W5.heap.size, 0, none⟩) 1 U9 (HL5.out.next hb9) HM5.out hne5 (addB_len (by rw [← HL1.out]; exact HLN.out) (by rw [← HL1.out]; simp)) (by have := hb9.size; omega) (by rw [← HSS.out]; exact HV2.out) (RdB.of_bk k9 k9.lt) (by omega) (by omega) hn5
                refine H6.mono ?_
                rintro e W6 ⟨A6, c6, its6, rfl, hm6, hl6, hb6⟩
                have HL6 := Lib.hid hl6
                have HM6 := Lib.hid hm6
                have HB6 := Lib.hid (HB5.out.trans ((hb9.mono lb5).trans hb6))
                clear hl6 hm6 hb6 H6 hb9 k9
                go_wp2
                go_ret2
                have f0 : rewM m keep = its6.map fun x => ((s : Int), x.2.2) := by
                  have f1 : otherA m = ot := by unfold otherA; rw [HGA.out, HOT.out]
                  have f2 : hf m = n2 := HN2.out
                  have f3 : m.1.toNat = s := by rw [HSS.out]; simp
                  have f4 : n2 / s = j := HQ4.out
                  have f5 : txtB m keep = txt := by unfold txtB; rw [← HGEN.out, ← HBX.out, ← HTX.out]
                  have f6 : rewB m keep = its6.map (·.2.2) := by
                    rw [HM6.out]
                    unfold rewB
                    rw [f1, f3, f5, f2, f4, ← HH0.out, ← HP0.out, HTL.out]
                  rw [HZ.out.2, f6, List.map_map, HSS.out]; rfl
                exact ⟨A6, c6, by rw [HZ.out.1, f0, List.length_map]; rfl, by rw [f0, List.length_map]; exact (own_cap HL6.out.1), by rw [f0]; exact HL6.out.reads, bt HB6.out HB.out⟩
  · go_enter Tryz.func26, Tryz.ntmps26
    go_wp2_with fail
    obtain ⟨U, hU⟩ : ∃ Zz, Zz = w.alloc (.cells #[.int .i64 m.1, .slice A m.2.length c] 24) := ⟨_, rfl⟩
    have hb1 : Below w.heap.size w U := by rw [hU]; exact al1 _ _
    have k2 : Bk U w.heap.size 24 #[.int .i64 m.1, .slice A m.2.length c] := by rw [hU]; exact Bk.new _ _ _
    rw [← hU]
    clear hU
    obtain ⟨c0, c1⟩ := box2 k2
    refine (rRead_any m A c _ (HA.out.next hb1) hc).mono ?_
    rintro e V0 ⟨Ar, cr, rfl, hcr, _, hbV⟩
    have K2 := Lib.hid (k2.next hbV)
    have HB := Lib.hid (bt hbV hb1)
    clear hbV hb1 k2 c0 c1
    have e0 : (lookE m != 0) = true := by simp [h0]
    have HZ : Hid (rewE m keep = lookE m ∧ rewM m keep = []) := by
      have h1 : rewE m keep = lookE m := by unfold rewE; rw [if_neg h0]
      exact ⟨h1, rewM_no (by rw [h1]; exact h0)⟩
    obtain ⟨c0, c1⟩ := box2 K2.out
    go_wp2
    go_ret2
    exact ⟨none, 0, by rw [HZ.out.1, HZ.out.2]; rfl, by rw [HZ.out.2]; exact Nat.le_refl _, by rw [HZ.out.2]; exact RdFs.nil, HB.out⟩
end Go.Proofs.YthebojaminploaaGreatDoor
