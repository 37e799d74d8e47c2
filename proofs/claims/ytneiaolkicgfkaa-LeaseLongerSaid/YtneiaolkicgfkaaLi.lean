/- The walks of the laws LeaseMatchesReference, LeaseExpiring and LeaseEnds. -/
import Derived.Test.YtneiaolkicgfkaaLh
set_option linter.unusedVariables false
set_option linter.unusedSimpArgs false
namespace Go.Proofs.Ytneiaolkicgfkaa
open Go.RowKit Go.Sort

theorem filter_len (l : List Lea) (tick : Int) : (expL l tick).length ≤ l.length := by
  unfold expL; split
  · exact List.length_filter_le _ _
  · exact Nat.zero_le _
theorem graL_len (l : List Lea) (x : Lea) : (graL l x).length ≤ l.length + 1 := by
  unfold graL; split
  · simp
  · exact Nat.zero_le _
theorem alvL_len (l : List Lea) (n tick : Int) : (alvL l n tick).length ≤ 16 := by
  unfold alvL; split
  · rename_i h
    rw [aliveL_length]
    simp only [alvB, Bool.and_eq_true, decide_eq_true_eq] at h
    omega
  · exact Nat.zero_le _

set_option maxRecDepth 100000 in
set_option maxHeartbeats 4000000 in
theorem LeaseMatchesReference_walk (l : List Lea) (x : Lea) (A : Option Addr) (c : Nat) (n tick : Int) (w : World) (hA : RdL w w.heap.size A l) (hc : l.length ≤ c) (hx : c ≤ maxLen) :
    Calls Try.prog 3 #[.slice A l.length c, .agg #[.int .i64 x.n, .int .i64 x.c, .int .i64 x.a, .int .i64 x.f, .int .i64 x.t], .int .i64 n, .int .i64 tick] w fun e w' => e = .returned (.bool true) ∧ Below w.heap.size w w' := by
  unfold maxLen at hx
  by_cases h100 : l.length ≤ 100
  · have h100' : (l.length : Int) ≤ 100 := by omega
    have HB := Lib.hid (Below.refl w.heap.size w)
    have F_l := Lib.hid hA
    clear hA
    go_enter Try.func3, Try.ntmps3
    go_wp2_with fail
    refine (head_any _).mono ?_
    rintro e V1 ⟨rfl, hb⟩
    have hB := bt hb (al1 w _)
    have K_x : Hid (Bk V1 (w.heap.size) 24 #[.int .i64 x.n, .int .i64 x.c, .int .i64 x.a, .int .i64 x.f, .int .i64 x.t]) := Bk.next (by first | exact Bk.new _ _ _ | exact (Bk.new _ _ _).alloc _ | exact bkOf (by simp [at?_alloc])) hb
    replace F_l := Lib.hid (F_l.out.next hB)
    replace HB := Lib.hid (bt hB HB.out)
    clear hb hB
    obtain ⟨c_x0, c_x1, c_x2, c_x3, c_x4⟩ := box5 K_x.out
    have l_x := K_x.out.lt
    go_wp2_with fail
    clear c_x0 c_x1 c_x2 c_x3 c_x4 l_x
    refine (Grant_any l x A c _ F_l.out (by omega)).mono ?_
    rintro e V2 ⟨A1, c1, rfl, hc1, r1, hb⟩
    have hB := hb
    replace F_l := Lib.hid (F_l.out.next hB)
    replace K_x := Lib.hid (K_x.out.next hB)
    replace HB := Lib.hid (bt hB HB.out)
    clear hb hB
    have F_1 := Lib.hid (r1)
    clear r1
    obtain ⟨c_x0, c_x1, c_x2, c_x3, c_x4⟩ := box5 K_x.out
    have l_x := K_x.out.lt
    go_wp2_with fail
    clear c_x0 c_x1 c_x2 c_x3 c_x4 l_x
    refine (rGrant_any l x A c _ F_l.out (by omega)).mono ?_
    rintro e V3 ⟨A2, c2, rfl, hc2, r2, hb⟩
    have hB := hb
    replace F_l := Lib.hid (F_l.out.next hB)
    replace F_1 := Lib.hid (F_1.out.next hB)
    replace K_x := Lib.hid (K_x.out.next hB)
    replace HB := Lib.hid (bt hB HB.out)
    clear hb hB
    have F_2 := Lib.hid (r2)
    clear r2
    obtain ⟨c_x0, c_x1, c_x2, c_x3, c_x4⟩ := box5 K_x.out
    have l_x := K_x.out.lt
    go_wp2_with fail
    clear c_x0 c_x1 c_x2 c_x3 c_x4 l_x
    refine (Alive_any l A c n tick _ F_l.out (by omega)).mono ?_
    rintro e V4 ⟨A3, c3, rfl, hc3, r3, hb⟩
    have hB := hb
    replace F_l := Lib.hid (F_l.out.next hB)
    replace F_1 := Lib.hid (F_1.out.next hB)
    replace F_2 := Lib.hid (F_2.out.next hB)
    replace K_x := Lib.hid (K_x.out.next hB)
    replace HB := Lib.hid (bt hB HB.out)
    clear hb hB
    have F_3 := Lib.hid (r3)
    clear r3
    obtain ⟨c_x0, c_x1, c_x2, c_x3, c_x4⟩ := box5 K_x.out
    have l_x := K_x.out.lt
    go_wp2_with fail
    clear c_x0 c_x1 c_x2 c_x3 c_x4 l_x
    refine (rAlive_any l A c n tick _ F_l.out (by omega)).mono ?_
    rintro e V5 ⟨A4, c4, rfl, hc4, r4, hb⟩
    have hB := hb
    replace F_l := Lib.hid (F_l.out.next hB)
    replace F_1 := Lib.hid (F_1.out.next hB)
    replace F_2 := Lib.hid (F_2.out.next hB)
    replace F_3 := Lib.hid (F_3.out.next hB)
    replace K_x := Lib.hid (K_x.out.next hB)
    replace HB := Lib.hid (bt hB HB.out)
    clear hb hB
    have F_4 := Lib.hid (r4)
    clear r4
    obtain ⟨c_x0, c_x1, c_x2, c_x3, c_x4⟩ := box5 K_x.out
    have l_x := K_x.out.lt
    go_wp2_with fail
    clear c_x0 c_x1 c_x2 c_x3 c_x4 l_x
    refine (Expire_any l A c tick _ F_l.out (by omega)).mono ?_
    rintro e V6 ⟨A5, c5, rfl, hc5, r5, hb⟩
    have hB := hb
    replace F_l := Lib.hid (F_l.out.next hB)
    replace F_1 := Lib.hid (F_1.out.next hB)
    replace F_2 := Lib.hid (F_2.out.next hB)
    replace F_3 := Lib.hid (F_3.out.next hB)
    replace F_4 := Lib.hid (F_4.out.next hB)
    replace K_x := Lib.hid (K_x.out.next hB)
    replace HB := Lib.hid (bt hB HB.out)
    clear hb hB
    have F_5 := Lib.hid (r5)
    clear r5
    obtain ⟨c_x0, c_x1, c_x2, c_x3, c_x4⟩ := box5 K_x.out
    have l_x := K_x.out.lt
    go_wp2_with fail
    clear c_x0 c_x1 c_x2 c_x3 c_x4 l_x
    refine (rExpire_any l A c tick _ F_l.out (by omega)).mono ?_
    rintro e V7 ⟨A6, c6, rfl, hc6, r6, hb⟩
    have hB := hb
    replace F_l := Lib.hid (F_l.out.next hB)
    replace F_1 := Lib.hid (F_1.out.next hB)
    replace F_2 := Lib.hid (F_2.out.next hB)
    replace F_3 := Lib.hid (F_3.out.next hB)
    replace F_4 := Lib.hid (F_4.out.next hB)
    replace F_5 := Lib.hid (F_5.out.next hB)
    replace K_x := Lib.hid (K_x.out.next hB)
    replace HB := Lib.hid (bt hB HB.out)
    clear hb hB
    have F_6 := Lib.hid (r6)
    clear r6
    obtain ⟨c_x0, c_x1, c_x2, c_x3, c_x4⟩ := box5 K_x.out
    have l_x := K_x.out.lt
    go_wp2_with fail
    clear c_x0 c_x1 c_x2 c_x3 c_x4 l_x
    refine (Valid_any l A c _ F_l.out (by omega)).mono ?_
    rintro e V8 ⟨rfl, hb⟩
    have hB := hb
    replace F_l := Lib.hid (F_l.out.next hB)
    replace F_1 := Lib.hid (F_1.out.next hB)
    replace F_2 := Lib.hid (F_2.out.next hB)
    replace F_3 := Lib.hid (F_3.out.next hB)
    replace F_4 := Lib.hid (F_4.out.next hB)
    replace F_5 := Lib.hid (F_5.out.next hB)
    replace F_6 := Lib.hid (F_6.out.next hB)
    replace K_x := Lib.hid (K_x.out.next hB)
    replace HB := Lib.hid (bt hB HB.out)
    clear hb hB
    obtain ⟨c_x0, c_x1, c_x2, c_x3, c_x4⟩ := box5 K_x.out
    have l_x := K_x.out.lt
    go_wp2_with fail
    clear c_x0 c_x1 c_x2 c_x3 c_x4 l_x
    refine (rValid_any l A c _ F_l.out (by omega)).mono ?_
    rintro e V9 ⟨rfl, hb⟩
    have hB := hb
    replace F_l := Lib.hid (F_l.out.next hB)
    replace F_1 := Lib.hid (F_1.out.next hB)
    replace F_2 := Lib.hid (F_2.out.next hB)
    replace F_3 := Lib.hid (F_3.out.next hB)
    replace F_4 := Lib.hid (F_4.out.next hB)
    replace F_5 := Lib.hid (F_5.out.next hB)
    replace F_6 := Lib.hid (F_6.out.next hB)
    replace K_x := Lib.hid (K_x.out.next hB)
    replace HB := Lib.hid (bt hB HB.out)
    clear hb hB
    have g1 := graL_len l x
    have g2 := alvL_len l n tick
    have g3 := filter_len l tick
    obtain ⟨c_x0, c_x1, c_x2, c_x3, c_x4⟩ := box5 K_x.out
    have l_x := K_x.out.lt
    go_wp2_with fail
    clear c_x0 c_x1 c_x2 c_x3 c_x4 l_x
    refine (rSame_eq (graL l x) (graL l x) A1 A2 c1 c2 _ rfl F_1.out F_2.out (by omega)).mono ?_
    rintro e V10 ⟨rfl, hb⟩
    have hB := hb
    replace F_l := Lib.hid (F_l.out.next hB)
    replace F_1 := Lib.hid (F_1.out.next hB)
    replace F_2 := Lib.hid (F_2.out.next hB)
    replace F_3 := Lib.hid (F_3.out.next hB)
    replace F_4 := Lib.hid (F_4.out.next hB)
    replace F_5 := Lib.hid (F_5.out.next hB)
    replace F_6 := Lib.hid (F_6.out.next hB)
    replace K_x := Lib.hid (K_x.out.next hB)
    replace HB := Lib.hid (bt hB HB.out)
    clear hb hB
    obtain ⟨c_x0, c_x1, c_x2, c_x3, c_x4⟩ := box5 K_x.out
    have l_x := K_x.out.lt
    go_wp2_with fail
    clear c_x0 c_x1 c_x2 c_x3 c_x4 l_x
    refine (rInts_eq (alvL l n tick) (alvL l n tick) A3 A4 c3 c4 _ rfl F_3.out F_4.out (by omega)).mono ?_
    rintro e V11 ⟨rfl, hb⟩
    have hB := hb
    replace F_l := Lib.hid (F_l.out.next hB)
    replace F_1 := Lib.hid (F_1.out.next hB)
    replace F_2 := Lib.hid (F_2.out.next hB)
    replace F_3 := Lib.hid (F_3.out.next hB)
    replace F_4 := Lib.hid (F_4.out.next hB)
    replace F_5 := Lib.hid (F_5.out.next hB)
    replace F_6 := Lib.hid (F_6.out.next hB)
    replace K_x := Lib.hid (K_x.out.next hB)
    replace HB := Lib.hid (bt hB HB.out)
    clear hb hB
    obtain ⟨c_x0, c_x1, c_x2, c_x3, c_x4⟩ := box5 K_x.out
    have l_x := K_x.out.lt
    go_wp2_with fail
    clear c_x0 c_x1 c_x2 c_x3 c_x4 l_x
    refine (rSame_eq (expL l tick) (expL l tick) A5 A6 c5 c6 _ rfl F_5.out F_6.out (by omega)).mono ?_
    rintro e V12 ⟨rfl, hb⟩
    have hB := hb
    replace F_l := Lib.hid (F_l.out.next hB)
    replace F_1 := Lib.hid (F_1.out.next hB)
    replace F_2 := Lib.hid (F_2.out.next hB)
    replace F_3 := Lib.hid (F_3.out.next hB)
    replace F_4 := Lib.hid (F_4.out.next hB)
    replace F_5 := Lib.hid (F_5.out.next hB)
    replace F_6 := Lib.hid (F_6.out.next hB)
    replace K_x := Lib.hid (K_x.out.next hB)
    replace HB := Lib.hid (bt hB HB.out)
    clear hb hB
    obtain ⟨c_x0, c_x1, c_x2, c_x3, c_x4⟩ := box5 K_x.out
    have l_x := K_x.out.lt
    go_wp2
    go_ret
    exact ⟨rfl, HB.out⟩
  · have h100' : 100 < (l.length : Int) := by omega
    have HB := Lib.hid (Below.refl w.heap.size w)
    have F_l := Lib.hid hA
    clear hA
    go_enter Try.func3, Try.ntmps3
    go_wp2_with fail
    refine (head_any _).mono ?_
    rintro e V1 ⟨rfl, hb⟩
    have hB := bt hb (al1 w _)
    have K_x : Hid (Bk V1 (w.heap.size) 24 #[.int .i64 x.n, .int .i64 x.c, .int .i64 x.a, .int .i64 x.f, .int .i64 x.t]) := Bk.next (by first | exact Bk.new _ _ _ | exact (Bk.new _ _ _).alloc _ | exact bkOf (by simp [at?_alloc])) hb
    replace F_l := Lib.hid (F_l.out.next hB)
    replace HB := Lib.hid (bt hB HB.out)
    clear hb hB
    obtain ⟨c_x0, c_x1, c_x2, c_x3, c_x4⟩ := box5 K_x.out
    have l_x := K_x.out.lt
    go_wp2
    go_ret
    exact ⟨rfl, HB.out⟩
set_option maxRecDepth 100000 in
set_option maxHeartbeats 4000000 in
theorem LeaseExpiring_walk (l : List Lea) (A : Option Addr) (c : Nat) (tick later : Int) (w : World) (hA : RdL w w.heap.size A l) (hc : l.length ≤ c) (hx : c ≤ maxLen) :
    Calls Try.prog 4 #[.slice A l.length c, .int .i64 tick, .int .i64 later] w fun e w' => e = .returned (.bool true) ∧ Below w.heap.size w w' := by
  unfold maxLen at hx
  by_cases h100 : l.length ≤ 100
  · have h100' : (l.length : Int) ≤ 100 := by omega
    by_cases hv : vlB l = true
    · have HV := Lib.hid hv
      have h64 := ((vlB_at l).1 hv).1
      clear hv
      have HB := Lib.hid (Below.refl w.heap.size w)
      have F_l := Lib.hid hA
      clear hA
      go_enter Try.func4, Try.ntmps4
      go_wp2_with fail
      refine (head_any _).mono ?_
      rintro e V1 ⟨rfl, hb⟩
      have hB := hb
      replace F_l := Lib.hid (F_l.out.next hB)
      replace HB := Lib.hid (bt hB HB.out)
      clear hb hB
      go_wp2_with fail
      refine (rValid_lit true l A c _ HV.out F_l.out (by omega)).mono ?_
      rintro e V2 ⟨rfl, hb⟩
      have hB := hb
      replace F_l := Lib.hid (F_l.out.next hB)
      replace HB := Lib.hid (bt hB HB.out)
      clear hb hB
      by_cases g0 : tick < 0
      · have z0 : decide (tick < 0) = true := decide_eq_true g0
        go_wp2
        go_ret
        exact ⟨rfl, HB.out⟩
      · have z0 : decide (tick < 0) = false := decide_eq_false g0
        by_cases g1 : later < tick
        · have z1 : decide (later < tick) = true := decide_eq_true g1
          go_wp2
          go_ret
          exact ⟨rfl, HB.out⟩
        · have z1 : decide (later < tick) = false := decide_eq_false g1
          by_cases g2 : 1100000 < later
          · have z2 : decide (1100000 < later) = true := decide_eq_true g2
            go_wp2
            go_ret
            exact ⟨rfl, HB.out⟩
          · have z2 : decide (1100000 < later) = false := decide_eq_false g2
            obtain ⟨e1, e2, e3, e4, e5⟩ := expiring HV.out (by omega) (by omega) (by omega : later ≤ 1100000) (tick := tick)
            have E1 := Lib.hid e1
            have E2 := Lib.hid e2
            have E3 := Lib.hid e3
            have E5 := Lib.hid e5
            clear e1 e2 e3 e5
            go_wp2_with fail
            refine (Expire_lit (expL l tick) 0 l tick A c _ rfl E1.out F_l.out (by omega)).mono ?_
            rintro e V3 ⟨A1, c1, rfl, hc1, r1, hb⟩
            have hB := hb
            replace F_l := Lib.hid (F_l.out.next hB)
            replace HB := Lib.hid (bt hB HB.out)
            clear hb hB
            have F_1 := Lib.hid (r1)
            clear r1
            go_wp2_with fail
            refine (Alive_lit (alvL l 16 later) 0 l 16 later A c _ rfl E2.out F_l.out (by omega)).mono ?_
            rintro e V4 ⟨A2, c2, rfl, hc2, r2, hb⟩
            have hB := hb
            replace F_l := Lib.hid (F_l.out.next hB)
            replace F_1 := Lib.hid (F_1.out.next hB)
            replace HB := Lib.hid (bt hB HB.out)
            clear hb hB
            have F_2 := Lib.hid (r2)
            clear r2
            go_wp2_with fail
            refine (Alive_lit (alvL (expL l tick) 16 later) 0 (expL l tick) 16 later A1 c1 _ rfl E3.out F_1.out (by omega)).mono ?_
            rintro e V5 ⟨A3, c3, rfl, hc3, r3, hb⟩
            have hB := hb
            replace F_l := Lib.hid (F_l.out.next hB)
            replace F_1 := Lib.hid (F_1.out.next hB)
            replace F_2 := Lib.hid (F_2.out.next hB)
            replace HB := Lib.hid (bt hB HB.out)
            clear hb hB
            have F_3 := Lib.hid (r3)
            clear r3
            have g2 := alvL_len l 16 later
            have e4' : ((expL l tick).length : Int) ≤ (l.length : Int) := by omega
            go_wp2_with fail
            refine (rInts_eq _ _ A2 A3 c2 c3 _ E5.out F_2.out F_3.out (by omega)).mono ?_
            rintro e V6 ⟨rfl, hb⟩
            have hB := hb
            replace F_l := Lib.hid (F_l.out.next hB)
            replace F_1 := Lib.hid (F_1.out.next hB)
            replace F_2 := Lib.hid (F_2.out.next hB)
            replace F_3 := Lib.hid (F_3.out.next hB)
            replace HB := Lib.hid (bt hB HB.out)
            clear hb hB
            go_wp2
            go_ret
            exact ⟨rfl, HB.out⟩
    · have hv : vlB l = false := by simpa using hv
      have HV := Lib.hid hv
      clear hv
      have HB := Lib.hid (Below.refl w.heap.size w)
      have F_l := Lib.hid hA
      clear hA
      go_enter Try.func4, Try.ntmps4
      go_wp2_with fail
      refine (head_any _).mono ?_
      rintro e V1 ⟨rfl, hb⟩
      have hB := hb
      replace F_l := Lib.hid (F_l.out.next hB)
      replace HB := Lib.hid (bt hB HB.out)
      clear hb hB
      go_wp2_with fail
      refine (rValid_lit false l A c _ HV.out F_l.out (by omega)).mono ?_
      rintro e V2 ⟨rfl, hb⟩
      have hB := hb
      replace F_l := Lib.hid (F_l.out.next hB)
      replace HB := Lib.hid (bt hB HB.out)
      clear hb hB
      go_wp2
      go_ret
      exact ⟨rfl, HB.out⟩
  · have h100' : 100 < (l.length : Int) := by omega
    have HB := Lib.hid (Below.refl w.heap.size w)
    have F_l := Lib.hid hA
    clear hA
    go_enter Try.func4, Try.ntmps4
    go_wp2_with fail
    refine (head_any _).mono ?_
    rintro e V1 ⟨rfl, hb⟩
    have hB := hb
    replace F_l := Lib.hid (F_l.out.next hB)
    replace HB := Lib.hid (bt hB HB.out)
    clear hb hB
    go_wp2
    go_ret
    exact ⟨rfl, HB.out⟩
theorem run_make_16 (w : World) : (Instr.makeSlice 29 (.int .i64 16) (.int .i64 16)).run Try.prog w = .ok (.slice (some ⟨w.heap.size, 0, none⟩) 16 16) (w.alloc (.cells (i64s (zerosI 16)).toArray 3)) := run_make_int 16 (by omega) w
set_option maxRecDepth 100000 in
set_option maxHeartbeats 4000000 in
theorem LeaseEnds_walk (l : List Lea) (A : Option Addr) (c : Nat) (later : Int) (w : World) (hA : RdL w w.heap.size A l) (hc : l.length ≤ c) (hx : c ≤ maxLen) :
    Calls Try.prog 6 #[.slice A l.length c, .int .i64 later] w fun e w' => e = .returned (.bool true) ∧ Below w.heap.size w w' := by
  unfold maxLen at hx
  by_cases h100 : l.length ≤ 100
  · have h100' : (l.length : Int) ≤ 100 := by omega
    by_cases hv : vlB l = true
    · have HV := Lib.hid hv
      have h64 := ((vlB_at l).1 hv).1
      clear hv
      have HB := Lib.hid (Below.refl w.heap.size w)
      have F_l := Lib.hid hA
      clear hA
      go_enter Try.func6, Try.ntmps6
      go_wp2_with fail
      refine (head_any _).mono ?_
      rintro e V1 ⟨rfl, hb⟩
      have hB := hb
      replace F_l := Lib.hid (F_l.out.next hB)
      replace HB := Lib.hid (bt hB HB.out)
      clear hb hB
      go_wp2_with fail
      refine (rValid_lit true l A c _ HV.out F_l.out (by omega)).mono ?_
      rintro e V2 ⟨rfl, hb⟩
      have hB := hb
      replace F_l := Lib.hid (F_l.out.next hB)
      replace HB := Lib.hid (bt hB HB.out)
      clear hb hB
      by_cases g0 : l.length = 0
      · have z0 : ((l.length : Int) == 0) = true := beq_iff_eq.2 (by omega)
        go_wp2
        go_ret
        exact ⟨rfl, HB.out⟩
      · have z0 : ((l.length : Int) == 0) = false := beq_eq_false_iff_ne.2 (by omega)
        by_cases g1 : later < 0
        · have z1 : decide (later < 0) = true := decide_eq_true g1
          go_wp2
          go_ret
          exact ⟨rfl, HB.out⟩
        · have z1 : decide (later < 0) = false := decide_eq_false g1
          by_cases g2 : 90000 < later
          · have z2 : decide (90000 < later) = true := decide_eq_true g2
            go_wp2
            go_ret
            exact ⟨rfl, HB.out⟩
          · have z2 : decide (90000 < later) = false := decide_eq_false g2
            obtain ⟨y, hy⟩ : ∃ y, y = l.getD (l.length - 1) l0 := ⟨_, rfl⟩
            have hone := (oneB_iff _).1 (vlB_one HV.out (by rw [hy, getD_of (by omega : l.length - 1 < l.length)]; exact List.getElem_mem _ : y ∈ l))
            obtain ⟨e1, e2, e3, e4⟩ := ended HV.out (by omega) (tick := y.f + 10 + 1001 + later) (by rw [← hy, show Ck.waitI 1000 = 1001 from by decide]; omega) (by omega)
            have E1 := Lib.hid e1
            have E2 := Lib.hid e2
            have E3 := Lib.hid e3
            have E4 := Lib.hid e4
            have HY := Lib.hid hy
            have yf0 : 0 ≤ y.f := by omega
            have yf1 : y.f ≤ 1000000 := by omega
            clear e1 e2 e3 e4 hy hone
            obtain ⟨k', hk'⟩ : ∃ k', k' = l.length - 1 := ⟨_, rfl⟩
            have j1 : (0 : Int) ≤ (k' : Int) := by omega
            have j2 : (k' : Int) < (l.length : Int) := by omega
            have j3 : (l.length : Int) - 1 = (k' : Int) := by omega
            have j5 : k' < l.length := by omega
            have HK' := Lib.hid hk'
            clear hk'
            go_wp2_with fail
            refine (Wait_yes 1000 (by omega) (by omega) _).mono ?_
            rintro e V3 ⟨rfl, hb⟩
            have hB := hb
            replace F_l := Lib.hid (F_l.out.next hB)
            replace HB := Lib.hid (bt hB HB.out)
            clear hb hB
            rw [show Ck.waitI 1000 = 1001 from by decide]
            obtain ⟨b, o, rfl, _, z0, z1, z2, z3, z4⟩ := F_l.out.at_ (i := k') j5
            rw [← getD_of j5, HK'.out, ← HY.out, ← HK'.out] at z0 z1 z2 z3 z4
            clear z0 z1 z2 z4
            go_wp2_with fail
            refine (Alive_lit (List.replicate 16 0) 0 l 16 (y.f + 10 + 1001 + later) (some ⟨b, o, none⟩) c _ E4.out E1.out F_l.out (by omega)).mono ?_
            rintro e V4 ⟨A1, c1, rfl, hc1, r1, hb⟩
            have hB := hb
            replace F_l := Lib.hid (F_l.out.next hB)
            replace HB := Lib.hid (bt hB HB.out)
            clear hb hB
            have F_1 := Lib.hid (r1)
            clear r1 z3
            go_wp2_with fail
            refine (Expire_lit [] 0 l (y.f + 10 + 1001 + later) (some ⟨b, o, none⟩) c _ E3.out E2.out F_l.out (by omega)).mono ?_
            rintro e V5 ⟨A2, c2, rfl, hc2, r2, hb⟩
            have hB := hb
            replace F_l := Lib.hid (F_l.out.next hB)
            replace F_1 := Lib.hid (F_1.out.next hB)
            replace HB := Lib.hid (bt hB HB.out)
            clear hb hB
            clear r2
            have hmk := run_make_16
            go_wp2_with fail
            refine (rInts_eq (List.replicate 16 0) (zerosI 16) A1 _ c1 16 _ rfl (F_1.out.next (al1 _ _)) (litI (by simp [at?_alloc])) (by simp)).mono ?_
            rintro e V6 ⟨rfl, hb⟩
            have hB := bt hb (al1 V5 _)
            replace F_l := Lib.hid (F_l.out.next hB)
            replace F_1 := Lib.hid (F_1.out.next hB)
            replace HB := Lib.hid (bt hB HB.out)
            clear hb hB
            clear hmk
            go_wp2
            go_ret
            exact ⟨rfl, HB.out⟩
    · have hv : vlB l = false := by simpa using hv
      have HV := Lib.hid hv
      clear hv
      have HB := Lib.hid (Below.refl w.heap.size w)
      have F_l := Lib.hid hA
      clear hA
      go_enter Try.func6, Try.ntmps6
      go_wp2_with fail
      refine (head_any _).mono ?_
      rintro e V1 ⟨rfl, hb⟩
      have hB := hb
      replace F_l := Lib.hid (F_l.out.next hB)
      replace HB := Lib.hid (bt hB HB.out)
      clear hb hB
      go_wp2_with fail
      refine (rValid_lit false l A c _ HV.out F_l.out (by omega)).mono ?_
      rintro e V2 ⟨rfl, hb⟩
      have hB := hb
      replace F_l := Lib.hid (F_l.out.next hB)
      replace HB := Lib.hid (bt hB HB.out)
      clear hb hB
      go_wp2
      go_ret
      exact ⟨rfl, HB.out⟩
  · have h100' : 100 < (l.length : Int) := by omega
    have HB := Lib.hid (Below.refl w.heap.size w)
    have F_l := Lib.hid hA
    clear hA
    go_enter Try.func6, Try.ntmps6
    go_wp2_with fail
    refine (head_any _).mono ?_
    rintro e V1 ⟨rfl, hb⟩
    have hB := hb
    replace F_l := Lib.hid (F_l.out.next hB)
    replace HB := Lib.hid (bt hB HB.out)
    clear hb hB
    go_wp2
    go_ret
    exact ⟨rfl, HB.out⟩
end Go.Proofs.Ytneiaolkicgfkaa
