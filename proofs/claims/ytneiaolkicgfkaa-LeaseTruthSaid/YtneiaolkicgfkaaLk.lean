/- The walk of the law LeaseTruth. -/
import Derived.Test.YtneiaolkicgfkaaLj
set_option linter.unusedVariables false
set_option linter.unusedSimpArgs false
namespace Go.Proofs.Ytneiaolkicgfkaa
open Go.RowKit Go.Sort

set_option maxRecDepth 100000 in
set_option maxHeartbeats 4000000 in
theorem LeaseTruth_walk (l : List Lea) (ls : List UInt8) (A As : Option Addr) (c cs : Nat) (drift tick : Int) (w : World) (hA : RdL w w.heap.size A l) (hc : l.length ≤ c) (hx : c ≤ maxLen) (hS : RdB w w.heap.size As ls) (hsc : ls.length ≤ cs) (hsx : cs ≤ maxLen) :
    Calls Try.prog 9 #[.slice A l.length c, .slice As ls.length cs, .int .i64 drift, .int .i64 tick] w fun e w' => e = .returned (.bool true) ∧ Below w.heap.size w w' := by
  unfold maxLen at hx hsx
  by_cases h100 : l.length ≤ 100
  · have h100' : (l.length : Int) ≤ 100 := by omega
    by_cases hv : vlB l = true
    · have HV := Lib.hid hv
      have h64 := ((vlB_at l).1 hv).1
      clear hv
      have HB := Lib.hid (Below.refl w.heap.size w)
      have F_l := Lib.hid hA
      have F_s := Lib.hid hS
      clear hA hS
      go_enter Try.func9, Try.ntmps9
      go_wp2_with fail
      refine (head_any _).mono ?_
      rintro e V1 ⟨rfl, hb⟩
      have hB := hb
      replace F_l := Lib.hid (F_l.out.next hB)
      replace F_s := Lib.hid (F_s.out.next hB)
      replace HB := Lib.hid (bt hB HB.out)
      clear hb hB
      go_wp2_with fail
      refine (rValid_lit true l A c _ HV.out F_l.out (by omega)).mono ?_
      rintro e V2 ⟨rfl, hb⟩
      have hB := hb
      replace F_l := Lib.hid (F_l.out.next hB)
      replace F_s := Lib.hid (F_s.out.next hB)
      replace HB := Lib.hid (bt hB HB.out)
      clear hb hB
      by_cases g0 : ls.length < l.length
      · have z0 : decide (ls.length < l.length) = true := decide_eq_true g0
        go_wp2
        go_ret
        exact ⟨rfl, HB.out⟩
      · have z0 : decide (ls.length < l.length) = false := decide_eq_false g0
        by_cases g1 : tick < 0
        · have z1 : decide (tick < 0) = true := decide_eq_true g1
          go_wp2
          go_ret
          exact ⟨rfl, HB.out⟩
        · have z1 : decide (tick < 0) = false := decide_eq_false g1
          by_cases g2 : 1100000 < tick
          · have z2 : decide (1100000 < tick) = true := decide_eq_true g2
            go_wp2
            go_ret
            exact ⟨rfl, HB.out⟩
          · have z2 : decide (1100000 < tick) = false := decide_eq_false g2
            by_cases g3 : drift < -200
            · have z3 : decide (drift < -200) = true := decide_eq_true g3
              go_wp2
              go_ret
              exact ⟨rfl, HB.out⟩
            · have z3 : decide (drift < -200) = false := decide_eq_false g3
              by_cases g4 : 200 < drift
              · have z4 : decide (200 < drift) = true := decide_eq_true g4
                go_wp2
                go_ret
                exact ⟨rfl, HB.out⟩
              · have z4 : decide (200 < drift) = false := decide_eq_false g4
                have hal16 := alv16 HV.out tick
                have halv : alvE l 16 tick = 0 := by simp [alvE, hal16]; omega
                have hall : (alvL l 16 tick).length = 16 := by rw [alvL, if_pos (by rw [hal16]; simp; omega), aliveL_length]; rfl
                have E0 := Lib.hid halv
                have HM := Lib.hid hall
                have hlt0 : l.length ≤ ls.length := by omega
                clear hal16 halv hall
                go_wp2_with fail
                refine (((Alive_lit (alvL l 16 tick) 0 l 16 tick A c _ rfl E0.out F_l.out (by omega)).mono fun _ _ h => IPost.open_ HM.out h)).mono ?_
                rintro e V3 ⟨A1, c1, rfl, hc1, r1, hb⟩
                have hB := hb
                replace F_l := Lib.hid (F_l.out.next hB)
                replace F_s := Lib.hid (F_s.out.next hB)
                replace HB := Lib.hid (bt hB HB.out)
                clear hb hB
                have F_1 := Lib.hid (r1)
                clear r1
                go_wp2
                go_loopw [65] (fun i wr => ∃ k : Nat, i = .int .i64 (k : Int) ∧ k ≤ l.length ∧ Below V3.heap.size V3 wr) (fun i _ => l.length - (intOf i).toNat)
                case atStart => exact ⟨0, rfl, Nat.zero_le _, Below.refl _ _⟩
                case round =>
                  obtain ⟨k, rfl, hk, hbr⟩ := hrel
                  have HBR := Lib.hid hbr
                  clear hbr
                  by_cases hlt : k < l.length
                  · obtain ⟨b, o, rfl, hbb, x0, x1, x2, x3, x4⟩ := (F_l.out.next HBR.out).at_ hlt
                    obtain ⟨x, hxx⟩ : ∃ y, y = l[k] := ⟨_, rfl⟩
                    have hxm : x ∈ l := by rw [hxx]; exact List.getElem_mem hlt
                    rw [← hxx] at x0 x1 x2 x3 x4
                    clear hxx
                    have HXM := Lib.hid hxm
                    have hone := (oneB_iff x).1 (vlB_one HV.out hxm)
                    obtain ⟨_, _, xc0, xc1, xa0, xa1, xf0, xf1, xt0, xt1⟩ := hone
                    clear hxm
                    obtain ⟨cc, hcc⟩ := Int.eq_ofNat_of_zero_le xc0
                    rw [hcc] at x1
                    have HCC := Lib.hid hcc
                    have c16 : cc < 16 := by omega
                    have c0' : (0 : Int) ≤ (cc : Int) := by omega
                    have c1' : (cc : Int) < 16 := by omega
                    clear hcc
                    obtain ⟨lt, hlte⟩ : ∃ z, z = ls[k]'(by omega) := ⟨_, rfl⟩
                    have HLT := Lib.hid hlte
                    have lt0 := lt.toNat_lt
                    obtain ⟨va, hva⟩ : ∃ v, v = (alvL l 16 tick).getD cc 0 := ⟨_, rfl⟩
                    have HVA := Lib.hid hva
                    clear hlte hva
                    have k1 : (0 : Int) ≤ (k : Int) := by omega
                    have k2 : (k : Int) < (l.length : Int) := by omega
                    have k3 : (k : Int) < (ls.length : Int) := by omega
                    have wq : IntKind.i64.wrap (lt.toNat : Int) = (lt.toNat : Int) := IntWalk.i64_in _ (by omega)
                    have ws : IntKind.i64.wrap (x.f + (lt.toNat : Int)) = x.f + (lt.toNat : Int) := IntWalk.i64_in _ (by omega)
                    by_cases h1 : (lt.toNat : Int) ≤ 10
                    · have z1 : decide ((10 : Int) < (lt.toNat : Int)) = false := decide_eq_false (by omega)
                      have z1' : decide (10 < lt.toNat) = false := decide_eq_false (by omega)
                      by_cases h2 : x.f + (lt.toNat : Int) ≤ tick
                      · have z2 : decide (tick < x.f + (lt.toNat : Int)) = false := decide_eq_false (by omega)
                        by_cases h3 : tick - (x.f + (lt.toNat : Int)) ≤ 1000000
                        · have z3 : decide ((1000000 : Int) < tick - (x.f + (lt.toNat : Int))) = false := decide_eq_false (by omega)
                          go_wp2
                          obtain ⟨U, hU⟩ : ∃ U, U = wr.alloc (.cells #[.int .i64 x.n, .int .i64 (cc : Int), .int .i64 x.a, .int .i64 x.f, .int .i64 x.t] 24) := ⟨_, rfl⟩
                          have kx : Bk U wr.heap.size 24 #[.int .i64 x.n, .int .i64 (cc : Int), .int .i64 x.a, .int .i64 x.f, .int .i64 x.t] := by rw [hU]; exact Bk.new _ _ _
                          have hbU : Below wr.heap.size wr U := by rw [hU]; exact al1 _ _
                          rw [← hU]
                          clear hU
                          obtain ⟨gx, hgx⟩ : ∃ g, g = wr.heap.size := ⟨_, rfl⟩
                          rw [← hgx] at kx ⊢
                          clear hgx x0 x1 x2 x3 x4
                          obtain ⟨y0, y1, y2, y3, y4⟩ := box5 kx
                          obtain ⟨a2, o2, rfl, b2, t0⟩ := ((F_s.out.next HBR.out).next hbU).at_ (k := k) (by omega)
                          obtain ⟨a3, o3, rfl, b3, v0⟩ := ((F_1.out.next HBR.out).next hbU).at_ (k := cc) (by rw [HM.out]; omega)
                          rw [← HLT.out] at t0
                          rw [← getD_i, ← HVA.out] at v0
                          have hlx := kx.lt
                          have HBU := Lib.hid (bt hbU HBR.out)
                          clear kx hbU
                          go_quiet (fail)
                          obtain ⟨U2, hU2⟩ : ∃ V, V = U.drewN nq := ⟨_, rfl⟩
                          rw [← hU2]
                          have hb2 : Below U.heap.size U U2 := by rw [hU2]; exact belowDrew (Below.refl _ _) _
                          have y0' := (hb2.cell (p := ⟨gx, 0, none⟩) hlx).trans y0
                          have y1' := (hb2.cell (p := ⟨gx, 1, none⟩) hlx).trans y1
                          have y2' := (hb2.cell (p := ⟨gx, 2, none⟩) hlx).trans y2
                          have y3' := (hb2.cell (p := ⟨gx, 3, none⟩) hlx).trans y3
                          have y4' := (hb2.cell (p := ⟨gx, 4, none⟩) hlx).trans y4
                          have t0' := (hb2.cell (p := ⟨a2, o2 + k, none⟩) b2).trans t0
                          have v0' := (hb2.cell (p := ⟨a3, o3 + cc, none⟩) b3).trans v0
                          have HB2 := Lib.hid (bt hb2 HBU.out)
                          clear hU2 hb2 y0 y1 y2 y3 y4 t0 v0 hlx b2 b3
                          obtain ⟨sh, hsh⟩ : ∃ s, s = Ck.shownI (tick - (x.f + (lt.toNat : Int))) drift := ⟨_, rfl⟩
                          have HSH := Lib.hid hsh
                          go_wp2_with fail
                          refine (Shown_yes _ drift (by omega) (by omega) (by omega) (by omega) _).mono ?_
                          rintro e U3 ⟨rfl, rfl⟩
                          rw [← hsh]
                          clear hsh
                          by_cases hs : sh < x.t
                          · have d5 : decide (sh < x.t) = true := decide_eq_true hs
                            have htr := truth HV.out HXM.out (late := (lt.toNat : Int)) (drift := drift) (tick := tick) (by omega) (by omega) (by omega) (by omega) (by omega) (by omega) (by rw [← HSH.out]; exact hs)
                            rw [HCC.out, Int.toNat_natCast, ← HVA.out] at htr
                            have d6 : decide (va < x.a) = false := decide_eq_false (by omega)
                            go_wp2
                            go_quiet (fail)
                            go_wp2
                            go_roundw
                            case rel => exact ⟨k + 1, by go_num, by omega, belowDrew HB2.out _⟩
                            case measure => simp [intOf]; omega
                          · have d5 : decide (sh < x.t) = false := decide_eq_false hs
                            go_wp2
                            go_quiet (fail)
                            go_wp2
                            go_roundw
                            case rel => exact ⟨k + 1, by go_num, by omega, belowDrew HB2.out _⟩
                            case measure => simp [intOf]; omega
                        · have z3 : decide ((1000000 : Int) < tick - (x.f + (lt.toNat : Int))) = true := decide_eq_true (by omega)
                          go_wp2
                          obtain ⟨U, hU⟩ : ∃ U, U = wr.alloc (.cells #[.int .i64 x.n, .int .i64 (cc : Int), .int .i64 x.a, .int .i64 x.f, .int .i64 x.t] 24) := ⟨_, rfl⟩
                          have kx : Bk U wr.heap.size 24 #[.int .i64 x.n, .int .i64 (cc : Int), .int .i64 x.a, .int .i64 x.f, .int .i64 x.t] := by rw [hU]; exact Bk.new _ _ _
                          have hbU : Below wr.heap.size wr U := by rw [hU]; exact al1 _ _
                          rw [← hU]
                          clear hU
                          obtain ⟨gx, hgx⟩ : ∃ g, g = wr.heap.size := ⟨_, rfl⟩
                          rw [← hgx] at kx ⊢
                          clear hgx x0 x1 x2 x3 x4
                          obtain ⟨y0, y1, y2, y3, y4⟩ := box5 kx
                          obtain ⟨a2, o2, rfl, b2, t0⟩ := ((F_s.out.next HBR.out).next hbU).at_ (k := k) (by omega)
                          obtain ⟨a3, o3, rfl, b3, v0⟩ := ((F_1.out.next HBR.out).next hbU).at_ (k := cc) (by rw [HM.out]; omega)
                          rw [← HLT.out] at t0
                          rw [← getD_i, ← HVA.out] at v0
                          have hlx := kx.lt
                          have HBU := Lib.hid (bt hbU HBR.out)
                          clear kx hbU
                          go_quiet (fail)
                          obtain ⟨U2, hU2⟩ : ∃ V, V = U.drewN nq := ⟨_, rfl⟩
                          rw [← hU2]
                          have hb2 : Below U.heap.size U U2 := by rw [hU2]; exact belowDrew (Below.refl _ _) _
                          have y0' := (hb2.cell (p := ⟨gx, 0, none⟩) hlx).trans y0
                          have y1' := (hb2.cell (p := ⟨gx, 1, none⟩) hlx).trans y1
                          have y2' := (hb2.cell (p := ⟨gx, 2, none⟩) hlx).trans y2
                          have y3' := (hb2.cell (p := ⟨gx, 3, none⟩) hlx).trans y3
                          have y4' := (hb2.cell (p := ⟨gx, 4, none⟩) hlx).trans y4
                          have t0' := (hb2.cell (p := ⟨a2, o2 + k, none⟩) b2).trans t0
                          have v0' := (hb2.cell (p := ⟨a3, o3 + cc, none⟩) b3).trans v0
                          have HB2 := Lib.hid (bt hb2 HBU.out)
                          clear hU2 hb2 y0 y1 y2 y3 y4 t0 v0 hlx b2 b3
                          go_wp2
                          go_roundw
                          case rel => exact ⟨k + 1, by go_num, by omega, HB2.out⟩
                          case measure => simp [intOf]; omega
                      · have z2 : decide (tick < x.f + (lt.toNat : Int)) = true := decide_eq_true (by omega)
                        go_wp2
                        obtain ⟨U, hU⟩ : ∃ U, U = wr.alloc (.cells #[.int .i64 x.n, .int .i64 (cc : Int), .int .i64 x.a, .int .i64 x.f, .int .i64 x.t] 24) := ⟨_, rfl⟩
                        have kx : Bk U wr.heap.size 24 #[.int .i64 x.n, .int .i64 (cc : Int), .int .i64 x.a, .int .i64 x.f, .int .i64 x.t] := by rw [hU]; exact Bk.new _ _ _
                        have hbU : Below wr.heap.size wr U := by rw [hU]; exact al1 _ _
                        rw [← hU]
                        clear hU
                        obtain ⟨gx, hgx⟩ : ∃ g, g = wr.heap.size := ⟨_, rfl⟩
                        rw [← hgx] at kx ⊢
                        clear hgx x0 x1 x2 x3 x4
                        obtain ⟨y0, y1, y2, y3, y4⟩ := box5 kx
                        obtain ⟨a2, o2, rfl, b2, t0⟩ := ((F_s.out.next HBR.out).next hbU).at_ (k := k) (by omega)
                        obtain ⟨a3, o3, rfl, b3, v0⟩ := ((F_1.out.next HBR.out).next hbU).at_ (k := cc) (by rw [HM.out]; omega)
                        rw [← HLT.out] at t0
                        rw [← getD_i, ← HVA.out] at v0
                        have hlx := kx.lt
                        have HBU := Lib.hid (bt hbU HBR.out)
                        clear kx hbU
                        go_quiet (fail)
                        obtain ⟨U2, hU2⟩ : ∃ V, V = U.drewN nq := ⟨_, rfl⟩
                        rw [← hU2]
                        have hb2 : Below U.heap.size U U2 := by rw [hU2]; exact belowDrew (Below.refl _ _) _
                        have y0' := (hb2.cell (p := ⟨gx, 0, none⟩) hlx).trans y0
                        have y1' := (hb2.cell (p := ⟨gx, 1, none⟩) hlx).trans y1
                        have y2' := (hb2.cell (p := ⟨gx, 2, none⟩) hlx).trans y2
                        have y3' := (hb2.cell (p := ⟨gx, 3, none⟩) hlx).trans y3
                        have y4' := (hb2.cell (p := ⟨gx, 4, none⟩) hlx).trans y4
                        have t0' := (hb2.cell (p := ⟨a2, o2 + k, none⟩) b2).trans t0
                        have v0' := (hb2.cell (p := ⟨a3, o3 + cc, none⟩) b3).trans v0
                        have HB2 := Lib.hid (bt hb2 HBU.out)
                        clear hU2 hb2 y0 y1 y2 y3 y4 t0 v0 hlx b2 b3
                        go_wp2
                        go_roundw
                        case rel => exact ⟨k + 1, by go_num, by omega, HB2.out⟩
                        case measure => simp [intOf]; omega
                    · have z1 : decide ((10 : Int) < (lt.toNat : Int)) = true := decide_eq_true (by omega)
                      have z1' : decide (10 < lt.toNat) = true := decide_eq_true (by omega)
                      go_wp2
                      obtain ⟨U, hU⟩ : ∃ U, U = wr.alloc (.cells #[.int .i64 x.n, .int .i64 (cc : Int), .int .i64 x.a, .int .i64 x.f, .int .i64 x.t] 24) := ⟨_, rfl⟩
                      have kx : Bk U wr.heap.size 24 #[.int .i64 x.n, .int .i64 (cc : Int), .int .i64 x.a, .int .i64 x.f, .int .i64 x.t] := by rw [hU]; exact Bk.new _ _ _
                      have hbU : Below wr.heap.size wr U := by rw [hU]; exact al1 _ _
                      rw [← hU]
                      clear hU
                      obtain ⟨gx, hgx⟩ : ∃ g, g = wr.heap.size := ⟨_, rfl⟩
                      rw [← hgx] at kx ⊢
                      clear hgx x0 x1 x2 x3 x4
                      obtain ⟨y0, y1, y2, y3, y4⟩ := box5 kx
                      obtain ⟨a2, o2, rfl, b2, t0⟩ := ((F_s.out.next HBR.out).next hbU).at_ (k := k) (by omega)
                      obtain ⟨a3, o3, rfl, b3, v0⟩ := ((F_1.out.next HBR.out).next hbU).at_ (k := cc) (by rw [HM.out]; omega)
                      rw [← HLT.out] at t0
                      rw [← getD_i, ← HVA.out] at v0
                      have hlx := kx.lt
                      have HBU := Lib.hid (bt hbU HBR.out)
                      clear kx hbU
                      go_quiet (fail)
                      obtain ⟨U2, hU2⟩ : ∃ V, V = U.drewN nq := ⟨_, rfl⟩
                      rw [← hU2]
                      have hb2 : Below U.heap.size U U2 := by rw [hU2]; exact belowDrew (Below.refl _ _) _
                      have y0' := (hb2.cell (p := ⟨gx, 0, none⟩) hlx).trans y0
                      have y1' := (hb2.cell (p := ⟨gx, 1, none⟩) hlx).trans y1
                      have y2' := (hb2.cell (p := ⟨gx, 2, none⟩) hlx).trans y2
                      have y3' := (hb2.cell (p := ⟨gx, 3, none⟩) hlx).trans y3
                      have y4' := (hb2.cell (p := ⟨gx, 4, none⟩) hlx).trans y4
                      have t0' := (hb2.cell (p := ⟨a2, o2 + k, none⟩) b2).trans t0
                      have v0' := (hb2.cell (p := ⟨a3, o3 + cc, none⟩) b3).trans v0
                      have HB2 := Lib.hid (bt hb2 HBU.out)
                      clear hU2 hb2 y0 y1 y2 y3 y4 t0 v0 hlx b2 b3
                      go_wp2
                      go_roundw
                      case rel => exact ⟨k + 1, by go_num, by omega, HB2.out⟩
                      case measure => simp [intOf]; omega
                  · obtain rfl : k = l.length := by omega
                    go_wp2
                    go_ret
                    exact ⟨rfl, bt HBR.out HB.out⟩
    · have hv : vlB l = false := by simpa using hv
      have HV := Lib.hid hv
      clear hv
      have HB := Lib.hid (Below.refl w.heap.size w)
      have F_l := Lib.hid hA
      have F_s := Lib.hid hS
      clear hA hS
      go_enter Try.func9, Try.ntmps9
      go_wp2_with fail
      refine (head_any _).mono ?_
      rintro e V1 ⟨rfl, hb⟩
      have hB := hb
      replace F_l := Lib.hid (F_l.out.next hB)
      replace F_s := Lib.hid (F_s.out.next hB)
      replace HB := Lib.hid (bt hB HB.out)
      clear hb hB
      go_wp2_with fail
      refine (rValid_lit false l A c _ HV.out F_l.out (by omega)).mono ?_
      rintro e V2 ⟨rfl, hb⟩
      have hB := hb
      replace F_l := Lib.hid (F_l.out.next hB)
      replace F_s := Lib.hid (F_s.out.next hB)
      replace HB := Lib.hid (bt hB HB.out)
      clear hb hB
      go_wp2
      go_ret
      exact ⟨rfl, HB.out⟩
  · have h100' : 100 < (l.length : Int) := by omega
    have HB := Lib.hid (Below.refl w.heap.size w)
    have F_l := Lib.hid hA
    have F_s := Lib.hid hS
    clear hA hS
    go_enter Try.func9, Try.ntmps9
    go_wp2_with fail
    refine (head_any _).mono ?_
    rintro e V1 ⟨rfl, hb⟩
    have hB := hb
    replace F_l := Lib.hid (F_l.out.next hB)
    replace F_s := Lib.hid (F_s.out.next hB)
    replace HB := Lib.hid (bt hB HB.out)
    clear hb hB
    go_wp2
    go_ret
    exact ⟨rfl, HB.out⟩
end Go.Proofs.Ytneiaolkicgfkaa
