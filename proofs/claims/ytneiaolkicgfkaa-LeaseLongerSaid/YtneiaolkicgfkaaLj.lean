/- The walks of the laws LeaseParts and LeaseGrants. -/
import Derived.Test.YtneiaolkicgfkaaLi
set_option linter.unusedVariables false
set_option linter.unusedSimpArgs false
namespace Go.Proofs.Ytneiaolkicgfkaa
open Go.RowKit Go.Sort

theorem Alive_at (L : List Int) (E : Int) (l : List Lea) (n tick : Int) (A : Option Addr) (len c : Nat) (w : World) (hlen : l.length = len) (hL : alvL l n tick = L) (hE : alvE l n tick = E) (hA : RdL w w.heap.size A l) (hn : l.length ≤ 9223372036854775807) :
    Calls Try.prog 13 #[.slice A len c, .int .i64 n, .int .i64 tick] w (IPost w L E) := by rw [← hlen]; exact Alive_lit L E l n tick A c w hL hE hA hn
theorem Same_at (l1 l2 : List Lea) (A1 A2 : Option Addr) (n1 n2 c1 c2 : Nat) (w : World) (e1 : l1.length = n1) (e2 : l2.length = n2) (h : l1 = l2) (h1 : RdL w w.heap.size A1 l1) (h2 : RdL w w.heap.size A2 l2) (hn : l1.length ≤ 1000000000) :
    Calls Try.prog 19 #[.slice A1 n1 c1, .slice A2 n2 c2] w fun e w' => e = .returned (.bool true) ∧ Below w.heap.size w w' := by rw [← e1, ← e2]; exact rSame_eq l1 l2 A1 A2 c1 c2 w h h1 h2 hn
theorem Valid_at (b : Bool) (l : List Lea) (A : Option Addr) (n c : Nat) (w : World) (e1 : l.length = n) (h : vlB l = b) (hA : RdL w w.heap.size A l) (hn : l.length ≤ 9223372036854775807) :
    Calls Try.prog 17 #[.slice A n c] w fun e w' => e = .returned (.bool b) ∧ Below w.heap.size w w' := by rw [← e1]; exact Valid_lit b l A c w h hA hn
theorem IPost.open_ {w : World} {zs : List Int} {er : Int} {len : Nat} (hl : zs.length = len) {e : Ending} {w' : World} (h : IPost w zs er e w') : ∃ A c, e = .returned (.tuple #[.slice A len c, .int .i64 er]) ∧ len ≤ c ∧ RdI w' w'.heap.size A zs ∧ Below w.heap.size w w' := hl ▸ h
theorem getD_i {l : List Int} {j : Nat} (h : j < l.length) : l.getD j 0 = l[j] := by rw [List.getD_eq_getElem?_getD, List.getElem?_eq_getElem h]; rfl

set_option maxRecDepth 100000 in
set_option maxHeartbeats 4000000 in
theorem LeaseParts_walk (l : List Lea) (A : Option Addr) (c : Nat) (k tick : Int) (k0 : 0 ≤ k) (k255 : k ≤ 255) (w : World) (hA : RdL w w.heap.size A l) (hc : l.length ≤ c) (hx : c ≤ maxLen) :
    Calls Try.prog 7 #[.slice A l.length c, .int .u8 k, .int .i64 tick] w fun e w' => e = .returned (.bool true) ∧ Below w.heap.size w w' := by
  unfold maxLen at hx
  by_cases h100 : l.length ≤ 100
  · have h100' : (l.length : Int) ≤ 100 := by omega
    by_cases hv : vlB l = true
    · have HV := Lib.hid hv
      have h64 := ((vlB_at l).1 hv).1
      clear hv
      have HB := Lib.hid (Below.refl w.heap.size w)
      have F_l := Lib.hid hA
      clear hA
      go_enter Try.func7, Try.ntmps7
      go_wp2_with fail
      refine (head_any _).mono ?_
      rintro e V1 ⟨rfl, hb⟩
      have hB := hb
      replace F_l := Lib.hid (F_l.out.next hB)
      replace HB := Lib.hid (bt hB HB.out)
      clear hb hB
      go_wp2_with fail
      refine (rValid_lit true l A c _ HV.out F_l.out (by omega)).mono ?_
      rintro e V2 ⟨rfl, hb⟩
      have hB := hb
      replace F_l := Lib.hid (F_l.out.next hB)
      replace HB := Lib.hid (bt hB HB.out)
      clear hb hB
      obtain ⟨q, hq⟩ : ∃ q : Nat, (k : Int) % ((l.length : Int) + 1) = (q : Int) := ⟨((k : Int) % ((l.length : Int) + 1)).toNat, (Int.toNat_of_nonneg (Int.emod_nonneg _ (by omega))).symm⟩
      have hql : q ≤ l.length := by have := Int.emod_lt_of_pos (k : Int) (b := (l.length : Int) + 1) (by omega); omega
      obtain ⟨e1, e2, e3, e4, e5⟩ := parts HV.out q tick
      have hlen : (alvL l 16 tick).length ≤ 16 := alvL_len l 16 tick
      obtain ⟨m, hm⟩ : ∃ m, m = (alvL l 16 tick).length := ⟨_, rfl⟩
      rw [← hm] at e3 e4 hlen
      have E3 := Lib.hid e3.symm
      have E4 := Lib.hid e4.symm
      have E5 := Lib.hid e5
      have HM := Lib.hid hm.symm
      obtain ⟨er, her⟩ : ∃ er, er = alvE l 16 tick := ⟨_, rfl⟩
      rw [← her] at e1 e2
      have E0 := Lib.hid her.symm
      have E1 := Lib.hid e1.symm
      have E2 := Lib.hid e2.symm
      have q0 : (0 : Int) ≤ (q : Int) := by omega
      have q1 : (q : Int) ≤ (l.length : Int) := by omega
      have q2 : (q : Int) ≤ (c : Int) := by omega
      have q3 : (l.length : Int) ≤ (c : Int) := by omega
      clear e1 e2 e3 e4 e5 hm her
      go_wp2_with fail
      refine (((Alive_lit (alvL l 16 tick) er l 16 tick A c _ rfl E0.out F_l.out (by omega)).mono fun _ _ h => IPost.open_ HM.out h)).mono ?_
      rintro e V3 ⟨A1, c1, rfl, hc1, r1, hb⟩
      have hB := hb
      replace F_l := Lib.hid (F_l.out.next hB)
      replace HB := Lib.hid (bt hB HB.out)
      clear hb hB
      have F_1 := Lib.hid (r1)
      clear r1
      go_wp2_with fail
      refine (((Alive_at (alvL (l.take q) 16 tick) er (l.take q) 16 tick A q c _ (by rw [List.length_take]; omega) rfl E1.out (RdL.take F_l.out hql) (by rw [List.length_take]; omega)).mono fun _ _ h => IPost.open_ E3.out h)).mono ?_
      rintro e V4 ⟨A2, c2, rfl, hc2, r2, hb⟩
      have hB := hb
      replace F_l := Lib.hid (F_l.out.next hB)
      replace F_1 := Lib.hid (F_1.out.next hB)
      replace HB := Lib.hid (bt hB HB.out)
      clear hb hB
      have F_2 := Lib.hid (r2)
      clear r2
      by_cases hcq : c = q
      · subst hcq
        have rd0 : Hid (RdL V4 V4.heap.size A (l.drop c)) := by
          have := RdL.drop F_l.out hql hc
          rwa [if_pos rfl] at this
        go_wp2_with fail
        refine (((Alive_at (alvL (l.drop c) 16 tick) er (l.drop c) 16 tick _ 0 0 _ (by rw [List.length_drop]; omega) rfl E2.out rd0.out (by rw [List.length_drop]; omega)).mono fun _ _ h => IPost.open_ E4.out h)).mono ?_
        rintro e V5 ⟨A3, c3, rfl, hc3, r3, hb⟩
        have hB := hb
        replace F_l := Lib.hid (F_l.out.next hB)
        replace F_1 := Lib.hid (F_1.out.next hB)
        replace F_2 := Lib.hid (F_2.out.next hB)
        replace HB := Lib.hid (bt hB HB.out)
        clear hb hB
        have F_3 := Lib.hid (r3)
        clear r3 rd0
        go_wp2
        go_loopw [78] (fun i wr => ∃ j n : Nat, i = .int .i64 (j : Int) ∧ j ≤ m ∧ wr = V5.drewN n) (fun i _ => m - (intOf i).toNat)
        case atStart => exact ⟨0, 0, rfl, Nat.zero_le _, rfl⟩
        case round =>
          obtain ⟨j, n, rfl, hj, rfl⟩ := hrel
          by_cases hlt : j < m
          · obtain ⟨a1, o1, rfl, b1, x1⟩ := F_1.out.at_ (k := j) (by rw [HM.out]; exact hlt)
            obtain ⟨a2, o2, rfl, b2, x2⟩ := F_2.out.at_ (k := j) (by rw [E3.out]; exact hlt)
            obtain ⟨a3, o3, rfl, b3, x3⟩ := F_3.out.at_ (k := j) (by rw [E4.out]; exact hlt)
            have hmx := E5.out j (by rw [HM.out]; exact hlt)
            rw [← getD_i] at x1 x2 x3
            obtain ⟨v1, h1⟩ : ∃ v, v = (alvL l 16 tick).getD j 0 := ⟨_, rfl⟩
            obtain ⟨v2, h2⟩ : ∃ v, v = (alvL (l.take c) 16 tick).getD j 0 := ⟨_, rfl⟩
            obtain ⟨v3, h3⟩ : ∃ v, v = (alvL (l.drop c) 16 tick).getD j 0 := ⟨_, rfl⟩
            rw [← h1] at x1 hmx
            rw [← h2] at x2 hmx
            rw [← h3] at x3 hmx
            have k1 : (0 : Int) ≤ (j : Int) := by omega
            have k2 : (j : Int) < (m : Int) := by omega
            have d1 : (v1 != max v2 v3) = false := by simp [hmx]
            have d2 : (v1 != if v2 < v3 then v3 else v2) = false := by rw [show (if v2 < v3 then v3 else v2) = max v2 v3 from by split <;> omega]; exact d1
            clear h1 h2 h3 hmx
            go_wp2
            go_quiet (fail)
            go_wp2
            go_roundw
            case rel => exact ⟨j + 1, _, by go_num, by omega, rfl⟩
            case measure => simp [intOf]; omega
          · obtain rfl : j = m := by omega
            go_wp2
            go_ret
            exact ⟨rfl, belowDrew HB.out _⟩
      · have rd0 : Hid (RdL V4 V4.heap.size (A.map (fun x => x.add (q * 5))) (l.drop q)) := by
          have := RdL.drop F_l.out hql hc
          rwa [if_neg hcq] at this
        go_wp2_with fail
        refine (((Alive_at (alvL (l.drop q) 16 tick) er (l.drop q) 16 tick _ (l.length - q) (c - q) _ (by rw [List.length_drop]) rfl E2.out rd0.out (by rw [List.length_drop]; omega)).mono fun _ _ h => IPost.open_ E4.out h)).mono ?_
        rintro e V5 ⟨A3, c3, rfl, hc3, r3, hb⟩
        have hB := hb
        replace F_l := Lib.hid (F_l.out.next hB)
        replace F_1 := Lib.hid (F_1.out.next hB)
        replace F_2 := Lib.hid (F_2.out.next hB)
        replace HB := Lib.hid (bt hB HB.out)
        clear hb hB
        have F_3 := Lib.hid (r3)
        clear r3 rd0 hq
        go_wp2
        go_loopw [78] (fun i wr => ∃ j n : Nat, i = .int .i64 (j : Int) ∧ j ≤ m ∧ wr = V5.drewN n) (fun i _ => m - (intOf i).toNat)
        case atStart => exact ⟨0, 0, rfl, Nat.zero_le _, rfl⟩
        case round =>
          obtain ⟨j, n, rfl, hj, rfl⟩ := hrel
          by_cases hlt : j < m
          · obtain ⟨a1, o1, rfl, b1, x1⟩ := F_1.out.at_ (k := j) (by rw [HM.out]; exact hlt)
            obtain ⟨a2, o2, rfl, b2, x2⟩ := F_2.out.at_ (k := j) (by rw [E3.out]; exact hlt)
            obtain ⟨a3, o3, rfl, b3, x3⟩ := F_3.out.at_ (k := j) (by rw [E4.out]; exact hlt)
            have hmx := E5.out j (by rw [HM.out]; exact hlt)
            rw [← getD_i] at x1 x2 x3
            obtain ⟨v1, h1⟩ : ∃ v, v = (alvL l 16 tick).getD j 0 := ⟨_, rfl⟩
            obtain ⟨v2, h2⟩ : ∃ v, v = (alvL (l.take q) 16 tick).getD j 0 := ⟨_, rfl⟩
            obtain ⟨v3, h3⟩ : ∃ v, v = (alvL (l.drop q) 16 tick).getD j 0 := ⟨_, rfl⟩
            rw [← h1] at x1 hmx
            rw [← h2] at x2 hmx
            rw [← h3] at x3 hmx
            have k1 : (0 : Int) ≤ (j : Int) := by omega
            have k2 : (j : Int) < (m : Int) := by omega
            have d1 : (v1 != max v2 v3) = false := by simp [hmx]
            have d2 : (v1 != if v2 < v3 then v3 else v2) = false := by rw [show (if v2 < v3 then v3 else v2) = max v2 v3 from by split <;> omega]; exact d1
            clear h1 h2 h3 hmx
            go_wp2
            go_quiet (fail)
            go_wp2
            go_roundw
            case rel => exact ⟨j + 1, _, by go_num, by omega, rfl⟩
            case measure => simp [intOf]; omega
          · obtain rfl : j = m := by omega
            go_wp2
            go_ret
            exact ⟨rfl, belowDrew HB.out _⟩
    · have hv : vlB l = false := by simpa using hv
      have HV := Lib.hid hv
      clear hv
      have HB := Lib.hid (Below.refl w.heap.size w)
      have F_l := Lib.hid hA
      clear hA
      go_enter Try.func7, Try.ntmps7
      go_wp2_with fail
      refine (head_any _).mono ?_
      rintro e V1 ⟨rfl, hb⟩
      have hB := hb
      replace F_l := Lib.hid (F_l.out.next hB)
      replace HB := Lib.hid (bt hB HB.out)
      clear hb hB
      go_wp2_with fail
      refine (rValid_lit false l A c _ HV.out F_l.out (by omega)).mono ?_
      rintro e V2 ⟨rfl, hb⟩
      have hB := hb
      replace F_l := Lib.hid (F_l.out.next hB)
      replace HB := Lib.hid (bt hB HB.out)
      clear hb hB
      go_wp2
      go_ret
      exact ⟨rfl, HB.out⟩
  · have h100' : 100 < (l.length : Int) := by omega
    have HB := Lib.hid (Below.refl w.heap.size w)
    have F_l := Lib.hid hA
    clear hA
    go_enter Try.func7, Try.ntmps7
    go_wp2_with fail
    refine (head_any _).mono ?_
    rintro e V1 ⟨rfl, hb⟩
    have hB := hb
    replace F_l := Lib.hid (F_l.out.next hB)
    replace HB := Lib.hid (bt hB HB.out)
    clear hb hB
    go_wp2
    go_ret
    exact ⟨rfl, HB.out⟩
theorem LPost.open_ {w : World} {l : List Lea} {er : Int} {len : Nat} (hl : l.length = len) {e : Ending} {w' : World} (h : LPost w l er e w') : ∃ A c, e = .returned (.tuple #[.slice A len c, .int .i64 er]) ∧ len ≤ c ∧ RdL w' w'.heap.size A l ∧ Below w.heap.size w w' := hl ▸ h
set_option maxRecDepth 100000 in
set_option maxHeartbeats 4000000 in
theorem LeaseGrants_walk (l : List Lea) (x : Lea) (A : Option Addr) (c : Nat) (tick : Int) (w : World) (hA : RdL w w.heap.size A l) (hc : l.length ≤ c) (hx : c ≤ maxLen) :
    Calls Try.prog 5 #[.slice A l.length c, .agg #[.int .i64 x.n, .int .i64 x.c, .int .i64 x.a, .int .i64 x.f, .int .i64 x.t], .int .i64 tick] w fun e w' => e = .returned (.bool true) ∧ Below w.heap.size w w' := by
  unfold maxLen at hx
  by_cases hg : graE l x = 0
  · obtain ⟨g1, g2, g3⟩ := granted hg
    have hl64 := (graE_ok hg).2.2.2
    have ha := granted_alive hg tick
    obtain ⟨e1, e2, e3⟩ := ha
    have hlen : (alvL l 16 tick).length ≤ 16 := alvL_len l 16 tick
    obtain ⟨m, hm⟩ : ∃ m, m = (alvL l 16 tick).length := ⟨_, rfl⟩
    rw [← hm] at e2 e3 hlen
    obtain ⟨n, hn⟩ : ∃ n, n = (l ++ [x]).length := ⟨_, rfl⟩
    have hn' : n = l.length + 1 := by rw [hn]; simp
    have HN := Lib.hid hn.symm
    have E0 : Hid (graE l x = 0) := hg
    have G1 := Lib.hid g1
    have G2 := Lib.hid g2
    have G3 := Lib.hid g3
    have HM := Lib.hid hm.symm
    have E2 := Lib.hid e2.symm
    have E3 := Lib.hid e3
    obtain ⟨er, her⟩ : ∃ er, er = alvE l 16 tick := ⟨_, rfl⟩
    rw [← her] at e1
    have R0 := Lib.hid her.symm
    have R1 := Lib.hid e1.symm
    have n1 : l.length < n := by omega
    have n2 : n ≤ 64 := by omega
    have d0 : ((n : Int) != (l.length : Int) + 1) = false := by simp; omega
    have h100' : (l.length : Int) ≤ 100 := by omega
    have l0' : (0 : Int) ≤ (l.length : Int) := by omega
    have l1' : (l.length : Int) < (n : Int) := by omega
    clear hg g1 g2 g3 e1 e2 e3 hm hn hn' her
    have HB := Lib.hid (Below.refl w.heap.size w)
    have F_l := Lib.hid hA
    clear hA
    go_enter Try.func5, Try.ntmps5
    go_wp2_with fail
    refine (head_any _).mono ?_
    rintro e V1 ⟨rfl, hb⟩
    have hB := bt hb (al1 w _)
    have K_x : Hid (Bk V1 (w.heap.size) 24 #[.int .i64 x.n, .int .i64 x.c, .int .i64 x.a, .int .i64 x.f, .int .i64 x.t]) := Bk.next (by first | exact Bk.new _ _ _ | exact (Bk.new _ _ _).alloc _ | exact bkOf (by simp [at?_alloc])) hb
    replace F_l := Lib.hid (F_l.out.next hB)
    replace HB := Lib.hid (bt hB HB.out)
    clear hb hB
    obtain ⟨c_x0, c_x1, c_x2, c_x3, c_x4⟩ := box5 K_x.out
    have l_x := K_x.out.lt
    go_wp2_with fail
    clear c_x0 c_x1 c_x2 c_x3 c_x4 l_x
    refine (((Grant_lit (l ++ [x]) 0 l x A c _ G1.out E0.out F_l.out (by omega)).mono fun _ _ h => LPost.open_ HN.out h)).mono ?_
    rintro e V2 ⟨A1, c1, rfl, hc1, r1, hb⟩
    have hB := hb
    replace F_l := Lib.hid (F_l.out.next hB)
    replace K_x := Lib.hid (K_x.out.next hB)
    replace HB := Lib.hid (bt hB HB.out)
    clear hb hB
    have F_1 := Lib.hid (r1)
    clear r1
    obtain ⟨c_x0, c_x1, c_x2, c_x3, c_x4⟩ := box5 K_x.out
    have l_x := K_x.out.lt
    have q1 : (l.length : Int) ≤ (c1 : Int) := by omega
    go_wp2
    obtain ⟨b, o, rfl, _, z0, z1, z2, z3, z4⟩ := F_1.out.at_ (i := l.length) (by simp)
    rw [show (l ++ [x])[l.length]'(by simp) = x from by simp] at z0 z1 z2 z3 z4
    have hq := eqLease x x
    have hgd := guardLease
    have hxx : eqL x x = true := (eqL_iff _ _).2 rfl
    have w1 : IntKind.i64.wrap ((l.length : Int) + 1) = (l.length : Int) + 1 := IntWalk.i64_in _ (by omega)
    have RT : Hid (RdL V2 V2.heap.size (some ⟨b, o, none⟩) l) := by
      have := RdL.take F_1.out (k := l.length) (by simp)
      rwa [List.take_left' rfl] at this
    have Rc_x0 := cell_regrown c_x0
    have Rc_x1 := cell_regrown c_x1
    have Rc_x2 := cell_regrown c_x2
    have Rc_x3 := cell_regrown c_x3
    have Rc_x4 := cell_regrown c_x4
    have Rz0 := cell_regrown z0
    have Rz1 := cell_regrown z1
    have Rz2 := cell_regrown z2
    have Rz3 := cell_regrown z3
    have Rz4 := cell_regrown z4
    have CS := fun (d : Nat) (os : Array Obj) => Calls.regrown_of (Same_at l l (some ⟨b, o, none⟩) A l.length l.length c1 c (grow (redrawn V2 d) os) rfl rfl rfl (RT.out.next (below_regrown V2 d os)) (F_l.out.next (below_regrown V2 d os)) (by omega))
    have CV := fun (d : Nat) (os : Array Obj) => Calls.regrown_of (Valid_at true (l ++ [x]) (some ⟨b, o, none⟩) n c1 (grow (redrawn V2 d) os) HN.out G3.out (F_1.out.next (below_regrown V2 d os)) (by rw [HN.out]; omega))
    have CW := fun (d : Nat) (os : Array Obj) => Calls.regrown_of (Valid_at true l A l.length c (grow (redrawn V2 d) os) rfl G2.out (F_l.out.next (below_regrown V2 d os)) (by omega))
    refine wp_region_quiet_below (by kernel_rfl) (by kernel_rfl) ?_
    repeat (first | go_big_quiet_step (first | (with_reducible exact CS _ _) | (with_reducible exact CV _ _) | (with_reducible exact CW _ _)) | quiet_step (first | (with_reducible exact CS _ _) | (with_reducible exact CV _ _) | (with_reducible exact CW _ _)))
    refine wpQuiet_nil ?_
    intro _ hw'
    obtain ⟨⟨dq, osq⟩, hw''⟩ := hw'
    subst hw''
    obtain ⟨U9, hU9⟩ : ∃ V, V = grow (redrawn V2 dq) osq := ⟨_, rfl⟩
    have hbU9 : Below V2.heap.size V2 U9 := by rw [hU9]; exact below_regrown _ _ _
    rw [← hU9]
    clear hU9
    clear Rc_x0
    clear Rc_x1
    clear Rc_x2
    clear Rc_x3
    clear Rc_x4
    clear Rz0
    clear Rz1
    clear Rz2
    clear Rz3
    clear Rz4
    clear CS
    clear CV
    clear CW
    clear z0 z1 z2 z3 z4 hq hgd hxx w1 RT c_x0 c_x1 c_x2 c_x3 c_x4 l_x
    replace F_l := Lib.hid (F_l.out.next hbU9)
    replace F_1 := Lib.hid (F_1.out.next hbU9)
    replace K_x := Lib.hid (K_x.out.next hbU9)
    replace HB := Lib.hid (bt hbU9 HB.out)
    clear hbU9
    obtain ⟨c_x0, c_x1, c_x2, c_x3, c_x4⟩ := box5 K_x.out
    have l_x := K_x.out.lt
    go_wp2_with fail
    clear c_x0 c_x1 c_x2 c_x3 c_x4 l_x
    refine (((Alive_lit (alvL l 16 tick) er l 16 tick A c _ rfl R0.out F_l.out (by omega)).mono fun _ _ h => IPost.open_ HM.out h)).mono ?_
    rintro e V3 ⟨A2, c2, rfl, hc2, r2, hb⟩
    have hB := hb
    replace F_l := Lib.hid (F_l.out.next hB)
    replace F_1 := Lib.hid (F_1.out.next hB)
    replace K_x := Lib.hid (K_x.out.next hB)
    replace HB := Lib.hid (bt hB HB.out)
    clear hb hB
    have F_2 := Lib.hid (r2)
    clear r2
    obtain ⟨c_x0, c_x1, c_x2, c_x3, c_x4⟩ := box5 K_x.out
    have l_x := K_x.out.lt
    go_wp2_with fail
    clear c_x0 c_x1 c_x2 c_x3 c_x4 l_x
    refine (((Alive_at (alvL (l ++ [x]) 16 tick) er (l ++ [x]) 16 tick (some ⟨b, o, none⟩) n c1 _ HN.out rfl R1.out F_1.out (by rw [HN.out]; omega)).mono fun _ _ h => IPost.open_ E2.out h)).mono ?_
    rintro e V4 ⟨A3, c3, rfl, hc3, r3, hb⟩
    have hB := hb
    replace F_l := Lib.hid (F_l.out.next hB)
    replace F_1 := Lib.hid (F_1.out.next hB)
    replace F_2 := Lib.hid (F_2.out.next hB)
    replace K_x := Lib.hid (K_x.out.next hB)
    replace HB := Lib.hid (bt hB HB.out)
    clear hb hB
    have F_3 := Lib.hid (r3)
    clear r3
    obtain ⟨c_x0, c_x1, c_x2, c_x3, c_x4⟩ := box5 K_x.out
    have l_x := K_x.out.lt
    go_wp2
    go_loopw [88] (fun i wr => ∃ j n : Nat, i = .int .i64 (j : Int) ∧ j ≤ m ∧ wr = V4.drewN n) (fun i _ => m - (intOf i).toNat)
    case atStart => exact ⟨0, 0, rfl, Nat.zero_le _, rfl⟩
    case round =>
      obtain ⟨j, nn, rfl, hj, rfl⟩ := hrel
      by_cases hlt : j < m
      · obtain ⟨a1, o1, rfl, b1, x1⟩ := F_2.out.at_ (k := j) (by rw [HM.out]; exact hlt)
        obtain ⟨a2, o2, rfl, b2, x2⟩ := F_3.out.at_ (k := j) (by rw [E2.out]; exact hlt)
        obtain ⟨m1, m2⟩ := E3.out j hlt
        rw [← getD_i] at x1 x2
        obtain ⟨va, h1⟩ : ∃ v, v = (alvL l 16 tick).getD j 0 := ⟨_, rfl⟩
        obtain ⟨vb, h2⟩ : ∃ v, v = (alvL (l ++ [x]) 16 tick).getD j 0 := ⟨_, rfl⟩
        rw [← h1] at x1 m1 m2
        rw [← h2] at x2 m1 m2
        have k1 : (0 : Int) ≤ (j : Int) := by omega
        have k2 : (j : Int) < (m : Int) := by omega
        have d1 : decide (vb < va) = false := by simp; omega
        clear h1 h2
        by_cases hgt : va < vb
        · obtain ⟨p1, p2⟩ := m2 hgt
          have d2 : decide (va < vb) = true := by simp; omega
          have d3 : ((j : Int) != x.c) = false := by simp [p1]
          have d4 : (vb != x.a) = false := by simp [p2]
          clear p1 p2 m2
          go_wp2
          go_quiet (fail)
          go_wp2
          go_roundw
          case rel => exact ⟨j + 1, _, by go_num, by omega, rfl⟩
          case measure => simp [intOf]; omega
        · have d2 : decide (va < vb) = false := by simp; omega
          clear m2
          go_wp2
          go_quiet (fail)
          go_wp2
          go_roundw
          case rel => exact ⟨j + 1, _, by go_num, by omega, rfl⟩
          case measure => simp [intOf]; omega
      · obtain rfl : j = m := by omega
        go_wp2
        go_ret
        exact ⟨rfl, belowDrew HB.out _⟩
  · have z0 : (graE l x != 0) = true := by simp [hg]
    clear hg
    have HB := Lib.hid (Below.refl w.heap.size w)
    have F_l := Lib.hid hA
    clear hA
    go_enter Try.func5, Try.ntmps5
    go_wp2_with fail
    refine (head_any _).mono ?_
    rintro e V1 ⟨rfl, hb⟩
    have hB := bt hb (al1 w _)
    have K_x : Hid (Bk V1 (w.heap.size) 24 #[.int .i64 x.n, .int .i64 x.c, .int .i64 x.a, .int .i64 x.f, .int .i64 x.t]) := Bk.next (by first | exact Bk.new _ _ _ | exact (Bk.new _ _ _).alloc _ | exact bkOf (by simp [at?_alloc])) hb
    replace F_l := Lib.hid (F_l.out.next hB)
    replace HB := Lib.hid (bt hB HB.out)
    clear hb hB
    obtain ⟨c_x0, c_x1, c_x2, c_x3, c_x4⟩ := box5 K_x.out
    have l_x := K_x.out.lt
    go_wp2_with fail
    clear c_x0 c_x1 c_x2 c_x3 c_x4 l_x
    refine (Grant_any l x A c _ F_l.out (by omega)).mono ?_
    rintro e V2 ⟨A1, c1, rfl, hc1, r1, hb⟩
    have hB := hb
    replace F_l := Lib.hid (F_l.out.next hB)
    replace K_x := Lib.hid (K_x.out.next hB)
    replace HB := Lib.hid (bt hB HB.out)
    clear hb hB
    clear r1
    obtain ⟨c_x0, c_x1, c_x2, c_x3, c_x4⟩ := box5 K_x.out
    have l_x := K_x.out.lt
    go_wp2
    go_ret
    exact ⟨rfl, HB.out⟩
end Go.Proofs.Ytneiaolkicgfkaa
