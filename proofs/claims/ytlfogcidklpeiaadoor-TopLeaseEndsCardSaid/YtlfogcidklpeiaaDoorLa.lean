/- Contracts of package lease and of its reference: valid leases. -/
import Derived.Test.YtlfogcidklpeiaaDoorCa
import Derived.Test.YtlfogcidklpeiaaDoorLMem
import Derived.WalkKit
import Derived.Deep.QuietTactic
import Derived.BigQuiet
import Derived.Lib.Hide
import Derived.Lib.QuietBelow
import Derived.Outline
import Derived.StillTailTactics
import Derived.Deep.RegionHeld3
import Derived.IntWalk
set_option maxRecDepth 100000
set_option linter.unusedVariables false
set_option linter.unusedSimpArgs false
namespace Go.Proofs.YtlfogcidklpeiaaDoor
open Go.RowKit Go.Sort

theorem ret_bool {a b : Bool} (h : a = b) : Ending.returned (.bool a) = .returned (.bool b) := by rw [h]
theorem al1 (w : World) (o : Obj) : Below w.heap.size w (w.alloc o) := (Below.refl _ _).alloc (Nat.le_refl _) _
theorem al2 (w : World) (o o' : Obj) : Below w.heap.size w ((w.alloc o).alloc o') := (al1 w o).alloc (by simp) _
theorem al3 (w : World) (o o' o'' : Obj) : Below w.heap.size w (((w.alloc o).alloc o').alloc o'') := (al2 w o o').alloc (by simp; omega) _
/-- the cells of a lease's box -/
theorem box5 {w : World} {k : Nat} {t : TypeId} {a b c d e : Value} (h : Bk w k t #[a, b, c, d, e]) : w.cell? ⟨k, 0, none⟩ = some a ∧ w.cell? ⟨k, 1, none⟩ = some b ∧ w.cell? ⟨k, 2, none⟩ = some c ∧ w.cell? ⟨k, 3, none⟩ = some d ∧ w.cell? ⟨k, 4, none⟩ = some e :=
  ⟨h.cell 0, h.cell 1, h.cell 2, h.cell 3, h.cell 4⟩

set_option maxHeartbeats 1000000 in
theorem valid_any (x : Lea) (w : World) :
    Calls Tryd.prog 22 #[.agg #[.int .i64 x.n, .int .i64 x.c, .int .i64 x.a, .int .i64 x.f, .int .i64 x.t]] w fun e w' => e = .returned (.bool (oneB x)) ∧ Below w.heap.size w w' := by
  obtain ⟨n, c, a, f, t⟩ := x
  dsimp only
  have HB := Lib.hid (al1 w)
  go_enter Tryd.func22, Tryd.ntmps22
  go_wp2
  all_goals
    go_ret
    refine ⟨ret_bool ?_, HB.out _⟩
    unfold oneB
    rw [Bool.eq_iff_iff]
    simp
    try omega
theorem follows_any (y x : Lea) (w : World) :
    Calls Tryd.prog 23 #[.agg #[.int .i64 y.n, .int .i64 y.c, .int .i64 y.a, .int .i64 y.f, .int .i64 y.t], .agg #[.int .i64 x.n, .int .i64 x.c, .int .i64 x.a, .int .i64 x.f, .int .i64 x.t]] w fun e w' => e = .returned (.bool (folB y x)) ∧ Below w.heap.size w w' := by
  obtain ⟨n, c, a, f, t⟩ := x
  obtain ⟨n', c', a', f', t'⟩ := y
  dsimp only
  have HB := Lib.hid (al2 w)
  go_enter Tryd.func23, Tryd.ntmps23
  go_wp2
  all_goals
    go_ret
    refine ⟨ret_bool ?_, HB.out _ _⟩
    unfold folB
    rw [Bool.eq_iff_iff]
    simp
    try omega
theorem valid_lit (b : Bool) (x : Lea) (w : World) (h : oneB x = b) :
    Calls Tryd.prog 22 #[.agg #[.int .i64 x.n, .int .i64 x.c, .int .i64 x.a, .int .i64 x.f, .int .i64 x.t]] w fun e w' => e = .returned (.bool b) ∧ Below w.heap.size w w' := h ▸ valid_any x w
theorem follows_lit (b : Bool) (y x : Lea) (w : World) (h : folB y x = b) :
    Calls Tryd.prog 23 #[.agg #[.int .i64 y.n, .int .i64 y.c, .int .i64 y.a, .int .i64 y.f, .int .i64 y.t], .agg #[.int .i64 x.n, .int .i64 x.c, .int .i64 x.a, .int .i64 x.f, .int .i64 x.t]] w fun e w' => e = .returned (.bool b) ∧ Below w.heap.size w w' := h ▸ follows_any y x w

theorem vlB_not {l : List Lea} {k : Nat} (hk : k < l.length) (h : okAt l k = false) : vlB l = false := by
  rw [← Bool.not_eq_true, vlB_at]
  rintro ⟨_, h2⟩
  rw [h2 k hk] at h; cases h
theorem okAt_one {l : List Lea} {k : Nat} {x : Lea} (hk : k < l.length) (hx : x = l[k]) (h : oneB x = false) : okAt l k = false := by
  unfold okAt; rw [getD_of hk, ← hx, h]; rfl
theorem okAt_zero {l : List Lea} {x : Lea} {k : Nat} (hk : k < l.length) (h0 : k = 0) (hx : x = l[k]) (h : oneB x = true) : okAt l k = true := by
  subst h0
  unfold okAt; rw [getD_of hk, ← hx, h]; rfl
theorem okAt_fol {l : List Lea} {k : Nat} {x y : Lea} {b : Bool} (hk : k < l.length) (h0 : 0 < k) (hx : x = l[k]) (hy : y = l.getD (k - 1) l0) (h : oneB x = true) (hf : folB y x = b) : okAt l k = b := by
  unfold okAt; rw [getD_of hk, ← hx, ← hy, h, hf, show (k == 0) = false from by simp; omega]; rfl

set_option maxHeartbeats 4000000 in
theorem Valid_any (l : List Lea) (A : Option Addr) (c : Nat) (w : World) (hA : RdL w w.heap.size A l) (hn : l.length ≤ 9223372036854775807) :
    Calls Tryd.prog 11 #[.slice A l.length c] w fun e w' => e = .returned (.bool (vlB l)) ∧ Below w.heap.size w w' := by
  have HA := Lib.hid hA
  clear hA
  by_cases h64 : l.length ≤ 64
  · have h64' : (l.length : Int) ≤ 64 := by omega
    go_enter Tryd.func11, Tryd.ntmps11
    go_wp2
    go_loopw [10] (fun i wr => ∃ k : Nat, i = .int .i64 k ∧ k ≤ l.length ∧ (∀ j, j < k → okAt l j = true) ∧ Below w.heap.size w wr) (fun i _ => l.length - (intOf i).toNat)
    case atStart => exact ⟨0, rfl, Nat.zero_le _, fun j h => absurd h (by omega), Below.refl _ _⟩
    case round =>
      obtain ⟨k, rfl, hk, hok, hb⟩ := hrel
      have HOK := Lib.hid hok
      have HB := Lib.hid hb
      clear hok hb
      by_cases hlt : k < l.length
      · obtain ⟨b, o, rfl, hbb, x0, x1, x2, x3, x4⟩ := (HA.out.next HB.out).at_ hlt
        obtain ⟨x, hx⟩ : ∃ y, y = l[k] := ⟨_, rfl⟩
        rw [← hx] at x0 x1 x2 x3 x4
        have HX := Lib.hid hx
        clear hx
        by_cases h1 : oneB x = true
        · have k1 : (0 : Int) ≤ (k : Int) := by omega
          have k2 : (k : Int) < (l.length : Int) := by omega
          by_cases h0 : 0 < k
          · go_wp2
            obtain ⟨U, hU⟩ : ∃ U, U = wr.alloc (.cells #[.int .i64 x.n, .int .i64 x.c, .int .i64 x.a, .int .i64 x.f, .int .i64 x.t] 30) := ⟨_, rfl⟩
            have kx : Bk U wr.heap.size 30 #[.int .i64 x.n, .int .i64 x.c, .int .i64 x.a, .int .i64 x.f, .int .i64 x.t] := by rw [hU]; exact Bk.new _ _ _
            have hbU : Below wr.heap.size wr U := by rw [hU]; exact al1 _ _
            rw [← hU]
            clear hU
            obtain ⟨gx, hgx⟩ : ∃ g, g = wr.heap.size := ⟨_, rfl⟩
            rw [← hgx] at kx ⊢
            clear hgx
            obtain ⟨y0, y1, y2, y3, y4⟩ := box5 kx
            obtain ⟨y, hy⟩ : ∃ y, y = l.getD (k - 1) l0 := ⟨_, rfl⟩
            obtain ⟨b', o', he', _, z0, z1, z2, z3, z4⟩ := ((HA.out.next HB.out).next hbU).at_ (i := k - 1) (by omega)
            obtain ⟨rfl, rfl⟩ : b = b' ∧ o = o' := by simpa using he'
            rw [← getD_of (by omega : k - 1 < l.length), ← hy] at z0 z1 z2 z3 z4
            have HY := Lib.hid hy
            clear hy he'
            obtain ⟨k', hk'⟩ : ∃ k', k' = k - 1 := ⟨_, rfl⟩
            rw [← hk'] at z0 z1 z2 z3 z4
            have j0 : (k : Int) - 1 = (k' : Int) := by omega
            have j1 : (0 : Int) ≤ (k' : Int) := by omega
            have j2 : (k' : Int) < (l.length : Int) := by omega
            have j3 : IntKind.i64.wrap ((k : Int) - 1) = (k' : Int) := by rw [IntWalk.i64_in _ (by omega)]; omega
            have j4 : decide ((0 : Int) < (k : Int)) = true := by simp; omega
            have j5 : 0 < k := by omega
            clear hk'
            by_cases hf : folB y x = true
            · have Ry0 := cell_regrown y0
              have Ry1 := cell_regrown y1
              have Ry2 := cell_regrown y2
              have Ry3 := cell_regrown y3
              have Ry4 := cell_regrown y4
              have Rz0 := cell_regrown z0
              have Rz1 := cell_regrown z1
              have Rz2 := cell_regrown z2
              have Rz3 := cell_regrown z3
              have Rz4 := cell_regrown z4
              have CV := fun (d : Nat) (os : Array Obj) => Calls.regrown_of (valid_lit true x (grow (redrawn U d) os) h1)
              have CF := fun (d : Nat) (os : Array Obj) => Calls.regrown_of (follows_lit true y x (grow (redrawn U d) os) hf)
              refine wp_region_quiet_below (by kernel_rfl) (by kernel_rfl) ?_
              repeat (first | go_big_quiet_step (first | (with_reducible exact CV _ _) | (with_reducible exact CF _ _)) | quiet_step (first | (with_reducible exact CV _ _) | (with_reducible exact CF _ _)))
              refine wpQuiet_nil ?_
              intro _ hw'
              obtain ⟨⟨dq, osq⟩, hw''⟩ := hw'
              subst hw''
              obtain ⟨V, hV⟩ : ∃ V, V = grow (redrawn U dq) osq := ⟨_, rfl⟩
              have hbV : Below U.heap.size U V := by rw [hV]; exact below_regrown _ _ _
              rw [← hV]
              clear hV
              clear Ry0
              clear Ry1
              clear Ry2
              clear Ry3
              clear Ry4
              clear Rz0
              clear Rz1
              clear Rz2
              clear Rz3
              clear Rz4
              clear CV
              clear CF
              go_wp2
              go_roundw
              case rel => exact ⟨k + 1, by go_num, by omega, fun j hj => by rcases Nat.lt_or_ge j k with h | h; exact HOK.out j h; exact (show j = k by omega) ▸ okAt_fol hlt j5 HX.out HY.out h1 hf, bt hbV (bt hbU HB.out)⟩
              case measure => simp [intOf]; omega
            · have hf' : folB y x = false := by simpa using hf
              clear hf
              have Ry0 := cell_regrown y0
              have Ry1 := cell_regrown y1
              have Ry2 := cell_regrown y2
              have Ry3 := cell_regrown y3
              have Ry4 := cell_regrown y4
              have Rz0 := cell_regrown z0
              have Rz1 := cell_regrown z1
              have Rz2 := cell_regrown z2
              have Rz3 := cell_regrown z3
              have Rz4 := cell_regrown z4
              have CV := fun (d : Nat) (os : Array Obj) => Calls.regrown_of (valid_lit true x (grow (redrawn U d) os) h1)
              have CF := fun (d : Nat) (os : Array Obj) => Calls.regrown_of (follows_lit false y x (grow (redrawn U d) os) hf')
              refine wp_region_quiet_below (by kernel_rfl) (by kernel_rfl) ?_
              repeat (first | go_big_quiet_step (first | (with_reducible exact CV _ _) | (with_reducible exact CF _ _)) | quiet_step (first | (with_reducible exact CV _ _) | (with_reducible exact CF _ _)))
              refine wpQuiet_nil ?_
              intro _ hw'
              obtain ⟨⟨dq, osq⟩, hw''⟩ := hw'
              subst hw''
              obtain ⟨V, hV⟩ : ∃ V, V = grow (redrawn U dq) osq := ⟨_, rfl⟩
              have hbV : Below U.heap.size U V := by rw [hV]; exact below_regrown _ _ _
              rw [← hV]
              clear hV
              clear Ry0
              clear Ry1
              clear Ry2
              clear Ry3
              clear Ry4
              clear Rz0
              clear Rz1
              clear Rz2
              clear Rz3
              clear Rz4
              clear CV
              clear CF
              go_wp2
              go_ret
              exact ⟨ret_bool (vlB_not hlt (okAt_fol hlt j5 HX.out HY.out h1 hf')).symm, bt hbV (bt hbU HB.out)⟩
          · have j4 : decide ((0 : Int) < (k : Int)) = false := by simp; omega
            have j6 : ¬ (0 : Int) < (k : Int) := by omega
            go_wp2
            obtain ⟨U, hU⟩ : ∃ U, U = wr.alloc (.cells #[.int .i64 x.n, .int .i64 x.c, .int .i64 x.a, .int .i64 x.f, .int .i64 x.t] 30) := ⟨_, rfl⟩
            have kx : Bk U wr.heap.size 30 #[.int .i64 x.n, .int .i64 x.c, .int .i64 x.a, .int .i64 x.f, .int .i64 x.t] := by rw [hU]; exact Bk.new _ _ _
            have hbU : Below wr.heap.size wr U := by rw [hU]; exact al1 _ _
            rw [← hU]
            clear hU
            obtain ⟨gx, hgx⟩ : ∃ g, g = wr.heap.size := ⟨_, rfl⟩
            rw [← hgx] at kx ⊢
            clear hgx
            obtain ⟨y0, y1, y2, y3, y4⟩ := box5 kx
            have Ry0 := cell_regrown y0
            have Ry1 := cell_regrown y1
            have Ry2 := cell_regrown y2
            have Ry3 := cell_regrown y3
            have Ry4 := cell_regrown y4
            have CV := fun (d : Nat) (os : Array Obj) => Calls.regrown_of (valid_lit true x (grow (redrawn U d) os) h1)
            refine wp_region_quiet_below (by kernel_rfl) (by kernel_rfl) ?_
            repeat (first | go_big_quiet_step (first | (with_reducible exact CV _ _)) | quiet_step (first | (with_reducible exact CV _ _)))
            refine wpQuiet_nil ?_
            intro _ hw'
            obtain ⟨⟨dq, osq⟩, hw''⟩ := hw'
            subst hw''
            obtain ⟨V, hV⟩ : ∃ V, V = grow (redrawn U dq) osq := ⟨_, rfl⟩
            have hbV : Below U.heap.size U V := by rw [hV]; exact below_regrown _ _ _
            rw [← hV]
            clear hV
            clear Ry0
            clear Ry1
            clear Ry2
            clear Ry3
            clear Ry4
            clear CV
            go_wp2
            go_roundw
            case rel => exact ⟨k + 1, by go_num, by omega, fun j hj => by rcases Nat.lt_or_ge j k with h | h; exact HOK.out j h; exact (show j = k by omega) ▸ okAt_zero hlt (by omega) HX.out h1, bt hbV (bt hbU HB.out)⟩
            case measure => simp [intOf]; omega
        · have h1' : oneB x = false := by simpa using h1
          clear h1
          have k1 : (0 : Int) ≤ (k : Int) := by omega
          have k2 : (k : Int) < (l.length : Int) := by omega
          go_wp2
          obtain ⟨U, hU⟩ : ∃ U, U = wr.alloc (.cells #[.int .i64 x.n, .int .i64 x.c, .int .i64 x.a, .int .i64 x.f, .int .i64 x.t] 30) := ⟨_, rfl⟩
          have kx : Bk U wr.heap.size 30 #[.int .i64 x.n, .int .i64 x.c, .int .i64 x.a, .int .i64 x.f, .int .i64 x.t] := by rw [hU]; exact Bk.new _ _ _
          have hbU : Below wr.heap.size wr U := by rw [hU]; exact al1 _ _
          rw [← hU]
          clear hU
          obtain ⟨gx, hgx⟩ : ∃ g, g = wr.heap.size := ⟨_, rfl⟩
          rw [← hgx] at kx ⊢
          clear hgx
          obtain ⟨y0, y1, y2, y3, y4⟩ := box5 kx
          have Ry0 := cell_regrown y0
          have Ry1 := cell_regrown y1
          have Ry2 := cell_regrown y2
          have Ry3 := cell_regrown y3
          have Ry4 := cell_regrown y4
          have CV := fun (d : Nat) (os : Array Obj) => Calls.regrown_of (valid_lit false x (grow (redrawn U d) os) h1')
          refine wp_region_quiet_below (by kernel_rfl) (by kernel_rfl) ?_
          repeat (first | go_big_quiet_step (first | (with_reducible exact CV _ _)) | quiet_step (first | (with_reducible exact CV _ _)))
          refine wpQuiet_nil ?_
          intro _ hw'
          obtain ⟨⟨dq, osq⟩, hw''⟩ := hw'
          subst hw''
          obtain ⟨V, hV⟩ : ∃ V, V = grow (redrawn U dq) osq := ⟨_, rfl⟩
          have hbV : Below U.heap.size U V := by rw [hV]; exact below_regrown _ _ _
          rw [← hV]
          clear hV
          clear Ry0
          clear Ry1
          clear Ry2
          clear Ry3
          clear Ry4
          clear CV
          go_wp2
          go_ret
          exact ⟨ret_bool (vlB_not hlt (okAt_one hlt HX.out h1')).symm, bt hbV (bt hbU HB.out)⟩
      · obtain rfl : k = l.length := by omega
        go_wp2
        go_ret
        exact ⟨ret_bool ((vlB_at l).2 ⟨h64, HOK.out⟩).symm, HB.out⟩
  · have h64' : 64 < (l.length : Int) := by omega
    have hv : vlB l = false := by simp [vlB]; omega
    go_enter Tryd.func11, Tryd.ntmps11
    go_wp2
    go_ret
    exact ⟨ret_bool hv.symm, Below.refl _ _⟩
theorem Valid_lit (b : Bool) (l : List Lea) (A : Option Addr) (c : Nat) (w : World) (h : vlB l = b) (hA : RdL w w.heap.size A l) (hn : l.length ≤ 9223372036854775807) :
    Calls Tryd.prog 11 #[.slice A l.length c] w fun e w' => e = .returned (.bool b) ∧ Below w.heap.size w w' := h ▸ Valid_any l A c w hA hn
theorem inside_lit (b : Bool) (n lo hi : Int) (w : World) (h : decide (lo ≤ n ∧ n ≤ hi) = b) :
    Calls Tryd.prog 12 #[.int .i64 n, .int .i64 lo, .int .i64 hi] w fun e w' => e = .returned (.bool b) ∧ w = w' := by
  subst h
  go_enter Tryd.func12, Tryd.ntmps12
  go_wp2
  all_goals
    go_ret
    refine ⟨ret_bool ?_, rfl⟩
    rw [Bool.eq_iff_iff]
    simp
    try omega
theorem end_any (x : Lea) (w : World) (h : oneB x = true) :
    Calls Tryd.prog 25 #[.agg #[.int .i64 x.n, .int .i64 x.c, .int .i64 x.a, .int .i64 x.f, .int .i64 x.t]] w fun e w' => e = .returned (.int .i64 (endI x)) ∧ Below w.heap.size w w' := by
  rw [oneB_iff] at h
  obtain ⟨_, _, _, _, _, _, f0, f1, t0, t1⟩ := h
  have hw := Ck.wait_bd x.t (by omega) (by omega)
  obtain ⟨w0, w1, w2⟩ := hw
  have kx : Bk (w.alloc (.cells #[.int .i64 x.n, .int .i64 x.c, .int .i64 x.a, .int .i64 x.f, .int .i64 x.t] 30)) w.heap.size 30 #[.int .i64 x.n, .int .i64 x.c, .int .i64 x.a, .int .i64 x.f, .int .i64 x.t] := Bk.new _ _ _
  have HB := Lib.hid (al1 w (.cells #[.int .i64 x.n, .int .i64 x.c, .int .i64 x.a, .int .i64 x.f, .int .i64 x.t] 30))
  go_enter Tryd.func25, Tryd.ntmps25
  go_wp2_with fail
  refine (Wait_yes x.t (by omega) (by omega) _).mono ?_
  rintro e W2 ⟨rfl, hb2⟩
  obtain ⟨y0, y1, y2, y3, y4⟩ := box5 (kx.next hb2)
  have hlt := (kx.next hb2).lt
  clear kx
  go_wp2
  go_ret
  exact ⟨by unfold endI; rfl, bt hb2 HB.out⟩
end Go.Proofs.YtlfogcidklpeiaaDoor
