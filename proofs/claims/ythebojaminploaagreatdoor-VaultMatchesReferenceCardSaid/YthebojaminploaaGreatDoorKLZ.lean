/- Contracts of package lease and of its reference: valid leases. -/
import Derived.Test.YthebojaminploaaGreatDoorKCa
import Derived.Test.YthebojaminploaaGreatDoorKLMem
import Derived.WalkKit
import Derived.Deep.QuietTactic
import Derived.BigQuiet
import Derived.Lib.Hide
import Derived.Lib.QuietBelow
import Derived.Outline
import Derived.StillTailTactics
import Derived.Deep.RegionHeld3
import Derived.IntWalk
import Derived.OwnWalk
import Derived.Maps.AppendAt
import Derived.Laws.StructEq
set_option maxRecDepth 100000
set_option linter.unusedVariables false
set_option linter.unusedSimpArgs false
namespace Go.Proofs.YthebojaminploaaGreatDoor.Ls
open Go.RowKit Go.Sort

theorem ret_bool {a b : Bool} (h : a = b) : Ending.returned (.bool a) = .returned (.bool b) := by rw [h]
theorem al1 (w : World) (o : Obj) : Below w.heap.size w (w.alloc o) := (Below.refl _ _).alloc (Nat.le_refl _) _
theorem al2 (w : World) (o o' : Obj) : Below w.heap.size w ((w.alloc o).alloc o') := (al1 w o).alloc (by simp) _
theorem al3 (w : World) (o o' o'' : Obj) : Below w.heap.size w (((w.alloc o).alloc o').alloc o'') := (al2 w o o').alloc (by simp; omega) _
/-- the cells of a lease's box -/
theorem box5 {w : World} {k : Nat} {t : TypeId} {a b c d e : Value} (h : Bk w k t #[a, b, c, d, e]) : w.cell? ⟨k, 0, none⟩ = some a ∧ w.cell? ⟨k, 1, none⟩ = some b ∧ w.cell? ⟨k, 2, none⟩ = some c ∧ w.cell? ⟨k, 3, none⟩ = some d ∧ w.cell? ⟨k, 4, none⟩ = some e :=
  ⟨h.cell 0, h.cell 1, h.cell 2, h.cell 3, h.cell 4⟩

set_option maxHeartbeats 1000000 in
theorem valid_any (x : Lea) (w : World) :
    Calls Tryz.prog 34 #[.agg #[.int .i64 x.n, .int .i64 x.c, .int .i64 x.a, .int .i64 x.f, .int .i64 x.t]] w fun e w' => e = .returned (.bool (oneB x)) ∧ Below w.heap.size w w' := by
  obtain ⟨n, c, a, f, t⟩ := x
  dsimp only
  have HB := Lib.hid (al1 w)
  go_enter Tryz.func34, Tryz.ntmps34
  go_wp2
  all_goals
    go_ret
    refine ⟨ret_bool ?_, HB.out _⟩
    unfold oneB
    rw [Bool.eq_iff_iff]
    simp
    try omega
set_option maxHeartbeats 1000000 in
theorem rOne_any (x : Lea) (w : World) :
    Calls Tryz.prog 22 #[.agg #[.int .i64 x.n, .int .i64 x.c, .int .i64 x.a, .int .i64 x.f, .int .i64 x.t]] w fun e w' => e = .returned (.bool (oneB x)) ∧ Below w.heap.size w w' := by
  obtain ⟨n, c, a, f, t⟩ := x
  dsimp only
  have HB := Lib.hid (al1 w)
  go_enter Tryz.func22, Tryz.ntmps22
  go_wp2
  all_goals
    go_ret
    refine ⟨ret_bool ?_, HB.out _⟩
    unfold oneB
    rw [Bool.eq_iff_iff]
    simp
    try omega
theorem follows_any (y x : Lea) (w : World) :
    Calls Tryz.prog 35 #[.agg #[.int .i64 y.n, .int .i64 y.c, .int .i64 y.a, .int .i64 y.f, .int .i64 y.t], .agg #[.int .i64 x.n, .int .i64 x.c, .int .i64 x.a, .int .i64 x.f, .int .i64 x.t]] w fun e w' => e = .returned (.bool (folB y x)) ∧ Below w.heap.size w w' := by
  obtain ⟨n, c, a, f, t⟩ := x
  obtain ⟨n', c', a', f', t'⟩ := y
  dsimp only
  have HB := Lib.hid (al2 w)
  go_enter Tryz.func35, Tryz.ntmps35
  go_wp2
  all_goals
    go_ret
    refine ⟨ret_bool ?_, HB.out _ _⟩
    unfold folB
    rw [Bool.eq_iff_iff]
    simp
    try omega
theorem valid_lit (b : Bool) (x : Lea) (w : World) (h : oneB x = b) :
    Calls Tryz.prog 34 #[.agg #[.int .i64 x.n, .int .i64 x.c, .int .i64 x.a, .int .i64 x.f, .int .i64 x.t]] w fun e w' => e = .returned (.bool b) ∧ Below w.heap.size w w' := h ▸ valid_any x w
theorem rOne_lit (b : Bool) (x : Lea) (w : World) (h : oneB x = b) :
    Calls Tryz.prog 22 #[.agg #[.int .i64 x.n, .int .i64 x.c, .int .i64 x.a, .int .i64 x.f, .int .i64 x.t]] w fun e w' => e = .returned (.bool b) ∧ Below w.heap.size w w' := h ▸ rOne_any x w
theorem follows_lit (b : Bool) (y x : Lea) (w : World) (h : folB y x = b) :
    Calls Tryz.prog 35 #[.agg #[.int .i64 y.n, .int .i64 y.c, .int .i64 y.a, .int .i64 y.f, .int .i64 y.t], .agg #[.int .i64 x.n, .int .i64 x.c, .int .i64 x.a, .int .i64 x.f, .int .i64 x.t]] w fun e w' => e = .returned (.bool b) ∧ Below w.heap.size w w' := h ▸ follows_any y x w

theorem vlB_not {l : List Lea} {k : Nat} (hk : k < l.length) (h : okAt l k = false) : vlB l = false := by
  rw [← Bool.not_eq_true, vlB_at]
  rintro ⟨_, h2⟩
  rw [h2 k hk] at h; cases h
theorem okAt_one {l : List Lea} {k : Nat} {x : Lea} (hk : k < l.length) (hx : x = l[k]) (h : oneB x = false) : okAt l k = false := by
  unfold okAt; rw [getD_of hk, ← hx, h]; rfl
theorem okAt_zero {l : List Lea} {x : Lea} {k : Nat} (hk : k < l.length) (h0 : k = 0) (hx : x = l[k]) (h : oneB x = true) : okAt l k = true := by
  subst h0
  unfold okAt; rw [getD_of hk, ← hx, h]; rfl
theorem okAt_fol {l : List Lea} {k : Nat} {x y : Lea} {b : Bool} (hk : k < l.length) (h0 : 0 < k) (hx : x = l[k]) (hy : y = l.getD (k - 1) l0) (h : oneB x = true) (hf : folB y x = b) : okAt l k = b := by
  unfold okAt; rw [getD_of hk, ← hx, ← hy, h, hf, show (k == 0) = false from by simp; omega]; rfl

set_option maxHeartbeats 4000000 in
theorem Valid_any (l : List Lea) (A : Option Addr) (c : Nat) (w : World) (hA : RdL w w.heap.size A l) (hn : l.length ≤ 9223372036854775807) :
    Calls Tryz.prog 17 #[.slice A l.length c] w fun e w' => e = .returned (.bool (vlB l)) ∧ Below w.heap.size w w' := by
  have HA := Lib.hid hA
  clear hA
  by_cases h64 : l.length ≤ 64
  · have h64' : (l.length : Int) ≤ 64 := by omega
    go_enter Tryz.func17, Tryz.ntmps17
    go_wp2
    go_loopw [10] (fun i wr => ∃ k : Nat, i = .int .i64 k ∧ k ≤ l.length ∧ (∀ j, j < k → okAt l j = true) ∧ Below w.heap.size w wr) (fun i _ => l.length - (intOf i).toNat)
    case atStart => exact ⟨0, rfl, Nat.zero_le _, fun j h => absurd h (by omega), Below.refl _ _⟩
    case round =>
      obtain ⟨k, rfl, hk, hok, hb⟩ := hrel
      have HOK := Lib.hid hok
      have HB := Lib.hid hb
      clear hok hb
      by_cases hlt : k < l.length
      · obtain ⟨b, o, rfl, hbb, x0, x1, x2, x3, x4⟩ := (HA.out.next HB.out).at_ hlt
        obtain ⟨x, hx⟩ : ∃ y, y = l[k] := ⟨_, rfl⟩
        rw [← hx] at x0 x1 x2 x3 x4
        have HX := Lib.hid hx
        clear hx
        by_cases h1 : oneB x = true
        · have k1 : (0 : Int) ≤ (k : Int) := by omega
          have k2 : (k : Int) < (l.length : Int) := by omega
          by_cases h0 : 0 < k
          · go_wp2
            obtain ⟨U, hU⟩ : ∃ U, U = wr.alloc (.cells #[.int .i64 x.n, .int .i64 x.c, .int .i64 x.a, .int .i64 x.f, .int .i64 x.t] 26) := ⟨_, rfl⟩
            have kx : Bk U wr.heap.size 26 #[.int .i64 x.n, .int .i64 x.c, .int .i64 x.a, .int .i64 x.f, .int .i64 x.t] := by rw [hU]; exact Bk.new _ _ _
            have hbU : Below wr.heap.size wr U := by rw [hU]; exact al1 _ _
            rw [← hU]
            clear hU
            obtain ⟨gx, hgx⟩ : ∃ g, g = wr.heap.size := ⟨_, rfl⟩
            rw [← hgx] at kx ⊢
            clear hgx
            obtain ⟨y0, y1, y2, y3, y4⟩ := box5 kx
            obtain ⟨y, hy⟩ : ∃ y, y = l.getD (k - 1) l0 := ⟨_, rfl⟩
            obtain ⟨b', o', he', _, z0, z1, z2, z3, z4⟩ := ((HA.out.next HB.out).next hbU).at_ (i := k - 1) (by omega)
            obtain ⟨rfl, rfl⟩ : b = b' ∧ o = o' := by simpa using he'
            rw [← getD_of (by omega : k - 1 < l.length), ← hy] at z0 z1 z2 z3 z4
            have HY := Lib.hid hy
            clear hy he'
            obtain ⟨k', hk'⟩ : ∃ k', k' = k - 1 := ⟨_, rfl⟩
            rw [← hk'] at z0 z1 z2 z3 z4
            have j0 : (k : Int) - 1 = (k' : Int) := by omega
            have j1 : (0 : Int) ≤ (k' : Int) := by omega
            have j2 : (k' : Int) < (l.length : Int) := by omega
            have j3 : IntKind.i64.wrap ((k : Int) - 1) = (k' : Int) := by rw [IntWalk.i64_in _ (by omega)]; omega
            have j4 : decide ((0 : Int) < (k : Int)) = true := by simp; omega
            have j5 : 0 < k := by omega
            clear hk'
            by_cases hf : folB y x = true
            · have Ry0 := cell_regrown y0
              have Ry1 := cell_regrown y1
              have Ry2 := cell_regrown y2
              have Ry3 := cell_regrown y3
              have Ry4 := cell_regrown y4
              have Rz0 := cell_regrown z0
              have Rz1 := cell_regrown z1
              have Rz2 := cell_regrown z2
              have Rz3 := cell_regrown z3
              have Rz4 := cell_regrown z4
              have CV := fun (d : Nat) (os : Array Obj) => Calls.regrown_of (valid_lit true x (grow (redrawn U d) os) h1)
              have CF := fun (d : Nat) (os : Array Obj) => Calls.regrown_of (follows_lit true y x (grow (redrawn U d) os) hf)
              refine wp_region_quiet_below (by kernel_rfl) (by kernel_rfl) ?_
              repeat (first | go_big_quiet_step (first | (with_reducible exact CV _ _) | (with_reducible exact CF _ _)) | quiet_step (first | (with_reducible exact CV _ _) | (with_reducible exact CF _ _)))
              refine wpQuiet_nil ?_
              intro _ hw'
              obtain ⟨⟨dq, osq⟩, hw''⟩ := hw'
              subst hw''
              obtain ⟨V, hV⟩ : ∃ V, V = grow (redrawn U dq) osq := ⟨_, rfl⟩
              have hbV : Below U.heap.size U V := by rw [hV]; exact below_regrown _ _ _
              rw [← hV]
              clear hV
              clear Ry0
              clear Ry1
              clear Ry2
              clear Ry3
              clear Ry4
              clear Rz0
              clear Rz1
              clear Rz2
              clear Rz3
              clear Rz4
              clear CV
              clear CF
              go_wp2
              go_roundw
              case rel => exact ⟨k + 1, by go_num, by omega, fun j hj => by rcases Nat.lt_or_ge j k with h | h; exact HOK.out j h; exact (show j = k by omega) ▸ okAt_fol hlt j5 HX.out HY.out h1 hf, bt hbV (bt hbU HB.out)⟩
              case measure => simp [intOf]; omega
            · have hf' : folB y x = false := by simpa using hf
              clear hf
              have Ry0 := cell_regrown y0
              have Ry1 := cell_regrown y1
              have Ry2 := cell_regrown y2
              have Ry3 := cell_regrown y3
              have Ry4 := cell_regrown y4
              have Rz0 := cell_regrown z0
              have Rz1 := cell_regrown z1
              have Rz2 := cell_regrown z2
              have Rz3 := cell_regrown z3
              have Rz4 := cell_regrown z4
              have CV := fun (d : Nat) (os : Array Obj) => Calls.regrown_of (valid_lit true x (grow (redrawn U d) os) h1)
              have CF := fun (d : Nat) (os : Array Obj) => Calls.regrown_of (follows_lit false y x (grow (redrawn U d) os) hf')
              refine wp_region_quiet_below (by kernel_rfl) (by kernel_rfl) ?_
              repeat (first | go_big_quiet_step (first | (with_reducible exact CV _ _) | (with_reducible exact CF _ _)) | quiet_step (first | (with_reducible exact CV _ _) | (with_reducible exact CF _ _)))
              refine wpQuiet_nil ?_
              intro _ hw'
              obtain ⟨⟨dq, osq⟩, hw''⟩ := hw'
              subst hw''
              obtain ⟨V, hV⟩ : ∃ V, V = grow (redrawn U dq) osq := ⟨_, rfl⟩
              have hbV : Below U.heap.size U V := by rw [hV]; exact below_regrown _ _ _
              rw [← hV]
              clear hV
              clear Ry0
              clear Ry1
              clear Ry2
              clear Ry3
              clear Ry4
              clear Rz0
              clear Rz1
              clear Rz2
              clear Rz3
              clear Rz4
              clear CV
              clear CF
              go_wp2
              go_ret
              exact ⟨ret_bool (vlB_not hlt (okAt_fol hlt j5 HX.out HY.out h1 hf')).symm, bt hbV (bt hbU HB.out)⟩
          · have j4 : decide ((0 : Int) < (k : Int)) = false := by simp; omega
            have j6 : ¬ (0 : Int) < (k : Int) := by omega
            go_wp2
            obtain ⟨U, hU⟩ : ∃ U, U = wr.alloc (.cells #[.int .i64 x.n, .int .i64 x.c, .int .i64 x.a, .int .i64 x.f, .int .i64 x.t] 26) := ⟨_, rfl⟩
            have kx : Bk U wr.heap.size 26 #[.int .i64 x.n, .int .i64 x.c, .int .i64 x.a, .int .i64 x.f, .int .i64 x.t] := by rw [hU]; exact Bk.new _ _ _
            have hbU : Below wr.heap.size wr U := by rw [hU]; exact al1 _ _
            rw [← hU]
            clear hU
            obtain ⟨gx, hgx⟩ : ∃ g, g = wr.heap.size := ⟨_, rfl⟩
            rw [← hgx] at kx ⊢
            clear hgx
            obtain ⟨y0, y1, y2, y3, y4⟩ := box5 kx
            have Ry0 := cell_regrown y0
            have Ry1 := cell_regrown y1
            have Ry2 := cell_regrown y2
            have Ry3 := cell_regrown y3
            have Ry4 := cell_regrown y4
            have CV := fun (d : Nat) (os : Array Obj) => Calls.regrown_of (valid_lit true x (grow (redrawn U d) os) h1)
            refine wp_region_quiet_below (by kernel_rfl) (by kernel_rfl) ?_
            repeat (first | go_big_quiet_step (first | (with_reducible exact CV _ _)) | quiet_step (first | (with_reducible exact CV _ _)))
            refine wpQuiet_nil ?_
            intro _ hw'
            obtain ⟨⟨dq, osq⟩, hw''⟩ := hw'
            subst hw''
            obtain ⟨V, hV⟩ : ∃ V, V = grow (redrawn U dq) osq := ⟨_, rfl⟩
            have hbV : Below U.heap.size U V := by rw [hV]; exact below_regrown _ _ _
            rw [← hV]
            clear hV
            clear Ry0
            clear Ry1
            clear Ry2
            clear Ry3
            clear Ry4
            clear CV
            go_wp2
            go_roundw
            case rel => exact ⟨k + 1, by go_num, by omega, fun j hj => by rcases Nat.lt_or_ge j k with h | h; exact HOK.out j h; exact (show j = k by omega) ▸ okAt_zero hlt (by omega) HX.out h1, bt hbV (bt hbU HB.out)⟩
            case measure => simp [intOf]; omega
        · have h1' : oneB x = false := by simpa using h1
          clear h1
          have k1 : (0 : Int) ≤ (k : Int) := by omega
          have k2 : (k : Int) < (l.length : Int) := by omega
          go_wp2
          obtain ⟨U, hU⟩ : ∃ U, U = wr.alloc (.cells #[.int .i64 x.n, .int .i64 x.c, .int .i64 x.a, .int .i64 x.f, .int .i64 x.t] 26) := ⟨_, rfl⟩
          have kx : Bk U wr.heap.size 26 #[.int .i64 x.n, .int .i64 x.c, .int .i64 x.a, .int .i64 x.f, .int .i64 x.t] := by rw [hU]; exact Bk.new _ _ _
          have hbU : Below wr.heap.size wr U := by rw [hU]; exact al1 _ _
          rw [← hU]
          clear hU
          obtain ⟨gx, hgx⟩ : ∃ g, g = wr.heap.size := ⟨_, rfl⟩
          rw [← hgx] at kx ⊢
          clear hgx
          obtain ⟨y0, y1, y2, y3, y4⟩ := box5 kx
          have Ry0 := cell_regrown y0
          have Ry1 := cell_regrown y1
          have Ry2 := cell_regrown y2
          have Ry3 := cell_regrown y3
          have Ry4 := cell_regrown y4
          have CV := fun (d : Nat) (os : Array Obj) => Calls.regrown_of (valid_lit false x (grow (redrawn U d) os) h1')
          refine wp_region_quiet_below (by kernel_rfl) (by kernel_rfl) ?_
          repeat (first | go_big_quiet_step (first | (with_reducible exact CV _ _)) | quiet_step (first | (with_reducible exact CV _ _)))
          refine wpQuiet_nil ?_
          intro _ hw'
          obtain ⟨⟨dq, osq⟩, hw''⟩ := hw'
          subst hw''
          obtain ⟨V, hV⟩ : ∃ V, V = grow (redrawn U dq) osq := ⟨_, rfl⟩
          have hbV : Below U.heap.size U V := by rw [hV]; exact below_regrown _ _ _
          rw [← hV]
          clear hV
          clear Ry0
          clear Ry1
          clear Ry2
          clear Ry3
          clear Ry4
          clear CV
          go_wp2
          go_ret
          exact ⟨ret_bool (vlB_not hlt (okAt_one hlt HX.out h1')).symm, bt hbV (bt hbU HB.out)⟩
      · obtain rfl : k = l.length := by omega
        go_wp2
        go_ret
        exact ⟨ret_bool ((vlB_at l).2 ⟨h64, HOK.out⟩).symm, HB.out⟩
  · have h64' : 64 < (l.length : Int) := by omega
    have hv : vlB l = false := by simp [vlB]; omega
    go_enter Tryz.func17, Tryz.ntmps17
    go_wp2
    go_ret
    exact ⟨ret_bool hv.symm, Below.refl _ _⟩
set_option maxHeartbeats 4000000 in
theorem rValid_any (l : List Lea) (A : Option Addr) (c : Nat) (w : World) (hA : RdL w w.heap.size A l) (hn : l.length ≤ 1000000000) :
    Calls Tryz.prog 31 #[.slice A l.length c] w fun e w' => e = .returned (.bool (vlB l)) ∧ Below w.heap.size w w' := by
  have HA := Lib.hid hA
  clear hA
  go_enter Tryz.func31, Tryz.ntmps31
  go_wp2
  go_loopw [3] (fun i wr => ∃ k : Nat, i = .int .i64 k ∧ k ≤ l.length ∧ (∀ j, j < k → okAt l j = true) ∧ Below w.heap.size w wr) (fun i _ => l.length - (intOf i).toNat)
  case atStart => exact ⟨0, rfl, Nat.zero_le _, fun j h => absurd h (by omega), Below.refl _ _⟩
  case round =>
    obtain ⟨k, rfl, hk, hok, hb⟩ := hrel
    have HOK := Lib.hid hok
    have HB := Lib.hid hb
    clear hok hb
    by_cases hlt : k < l.length
    · obtain ⟨b, o, rfl, hbb, x0, x1, x2, x3, x4⟩ := (HA.out.next HB.out).at_ hlt
      obtain ⟨x, hx⟩ : ∃ y, y = l[k] := ⟨_, rfl⟩
      rw [← hx] at x0 x1 x2 x3 x4
      have HX := Lib.hid hx
      clear hx
      by_cases h1 : oneB x = true
      · by_cases h0 : 0 < k
        · have k1 : (0 : Int) ≤ (k : Int) := by omega
          have k2 : (k : Int) < (l.length : Int) := by omega
          have k3 : decide ((0 : Int) < (k : Int)) = true := by simp; omega
          obtain ⟨y, hy⟩ : ∃ y, y = l.getD (k - 1) l0 := ⟨_, rfl⟩
          obtain ⟨b', o', he', _, z0, z1, z2, z3, z4⟩ := (HA.out.next HB.out).at_ (i := k - 1) (by omega)
          obtain ⟨rfl, rfl⟩ : b = b' ∧ o = o' := by simpa using he'
          rw [← getD_of (by omega : k - 1 < l.length), ← hy] at z0 z1 z2 z3 z4
          have HY := Lib.hid hy
          clear hy he'
          obtain ⟨k', hk'⟩ : ∃ k', k' = k - 1 := ⟨_, rfl⟩
          rw [← hk'] at z0 z1 z2 z3 z4
          have j0 : (k : Int) - 1 = (k' : Int) := by omega
          have j1 : (0 : Int) ≤ (k' : Int) := by omega
          have j2 : (k' : Int) < (l.length : Int) := by omega
          have j3 : IntKind.i64.wrap ((k : Int) - 1) = (k' : Int) := by rw [IntWalk.i64_in _ (by omega)]; omega
          have j5 : 0 < k := by omega
          clear hk'
          by_cases hn1 : x.n ≤ y.n
          · have hd : decide (x.n ≤ y.n) = true := by simp; omega
            have hf : folB y x = false := by simp [folB]; omega
            go_wp2
            have Rx0 := cell_regrown x0
            have Rx1 := cell_regrown x1
            have Rx2 := cell_regrown x2
            have Rx3 := cell_regrown x3
            have Rx4 := cell_regrown x4
            have Rz0 := cell_regrown z0
            have Rz3 := cell_regrown z3
            have CV := fun (d : Nat) (os : Array Obj) => Calls.regrown_of (rOne_lit true x (grow (redrawn wr d) os) h1)
            refine wp_region_quiet_below (by kernel_rfl) (by kernel_rfl) ?_
            repeat (first | go_big_quiet_step (first | (with_reducible exact CV _ _)) | quiet_step (first | (with_reducible exact CV _ _)))
            refine wpQuiet_nil ?_
            intro _ hw'
            obtain ⟨⟨dq, osq⟩, hw''⟩ := hw'
            subst hw''
            obtain ⟨V, hV⟩ : ∃ V, V = grow (redrawn wr dq) osq := ⟨_, rfl⟩
            have hbV : Below wr.heap.size wr V := by rw [hV]; exact below_regrown _ _ _
            rw [← hV]
            clear hV
            clear Rx0
            clear Rx1
            clear Rx2
            clear Rx3
            clear Rx4
            clear Rz0
            clear Rz3
            clear CV
            go_wp2
            go_ret
            exact ⟨ret_bool (vlB_not hlt (okAt_fol hlt j5 HX.out HY.out h1 hf)).symm, bt hbV HB.out⟩
          · have hd : decide (x.n ≤ y.n) = false := by simp; omega
            by_cases hf1 : x.f < y.f
            · have hd' : decide (x.f < y.f) = true := by simp; omega
              have hf : folB y x = false := by simp [folB]; omega
              go_wp2
              have Rx0 := cell_regrown x0
              have Rx1 := cell_regrown x1
              have Rx2 := cell_regrown x2
              have Rx3 := cell_regrown x3
              have Rx4 := cell_regrown x4
              have Rz0 := cell_regrown z0
              have Rz3 := cell_regrown z3
              have CV := fun (d : Nat) (os : Array Obj) => Calls.regrown_of (rOne_lit true x (grow (redrawn wr d) os) h1)
              refine wp_region_quiet_below (by kernel_rfl) (by kernel_rfl) ?_
              repeat (first | go_big_quiet_step (first | (with_reducible exact CV _ _)) | quiet_step (first | (with_reducible exact CV _ _)))
              refine wpQuiet_nil ?_
              intro _ hw'
              obtain ⟨⟨dq, osq⟩, hw''⟩ := hw'
              subst hw''
              obtain ⟨V, hV⟩ : ∃ V, V = grow (redrawn wr dq) osq := ⟨_, rfl⟩
              have hbV : Below wr.heap.size wr V := by rw [hV]; exact below_regrown _ _ _
              rw [← hV]
              clear hV
              clear Rx0
              clear Rx1
              clear Rx2
              clear Rx3
              clear Rx4
              clear Rz0
              clear Rz3
              clear CV
              go_wp2
              go_ret
              exact ⟨ret_bool (vlB_not hlt (okAt_fol hlt j5 HX.out HY.out h1 hf)).symm, bt hbV HB.out⟩
            · have hd' : decide (x.f < y.f) = false := by simp; omega
              have hf : folB y x = true := by simp [folB]; omega
              go_wp2
              have Rx0 := cell_regrown x0
              have Rx1 := cell_regrown x1
              have Rx2 := cell_regrown x2
              have Rx3 := cell_regrown x3
              have Rx4 := cell_regrown x4
              have Rz0 := cell_regrown z0
              have Rz3 := cell_regrown z3
              have CV := fun (d : Nat) (os : Array Obj) => Calls.regrown_of (rOne_lit true x (grow (redrawn wr d) os) h1)
              refine wp_region_quiet_below (by kernel_rfl) (by kernel_rfl) ?_
              repeat (first | go_big_quiet_step (first | (with_reducible exact CV _ _)) | quiet_step (first | (with_reducible exact CV _ _)))
              refine wpQuiet_nil ?_
              intro _ hw'
              obtain ⟨⟨dq, osq⟩, hw''⟩ := hw'
              subst hw''
              obtain ⟨V, hV⟩ : ∃ V, V = grow (redrawn wr dq) osq := ⟨_, rfl⟩
              have hbV : Below wr.heap.size wr V := by rw [hV]; exact below_regrown _ _ _
              rw [← hV]
              clear hV
              clear Rx0
              clear Rx1
              clear Rx2
              clear Rx3
              clear Rx4
              clear Rz0
              clear Rz3
              clear CV
              go_wp2
              go_roundw
              case rel => exact ⟨k + 1, by go_num, by omega, fun j hj => by rcases Nat.lt_or_ge j k with h | h; exact HOK.out j h; exact (show j = k by omega) ▸ okAt_fol hlt j5 HX.out HY.out h1 hf, bt hbV HB.out⟩
              case measure => simp [intOf]; omega
        · have k1 : (0 : Int) ≤ (k : Int) := by omega
          have k2 : (k : Int) < (l.length : Int) := by omega
          have k3 : decide ((0 : Int) < (k : Int)) = false := by simp; omega
          go_wp2
          have Rx0 := cell_regrown x0
          have Rx1 := cell_regrown x1
          have Rx2 := cell_regrown x2
          have Rx3 := cell_regrown x3
          have Rx4 := cell_regrown x4
          have CV := fun (d : Nat) (os : Array Obj) => Calls.regrown_of (rOne_lit true x (grow (redrawn wr d) os) h1)
          refine wp_region_quiet_below (by kernel_rfl) (by kernel_rfl) ?_
          repeat (first | go_big_quiet_step (first | (with_reducible exact CV _ _)) | quiet_step (first | (with_reducible exact CV _ _)))
          refine wpQuiet_nil ?_
          intro _ hw'
          obtain ⟨⟨dq, osq⟩, hw''⟩ := hw'
          subst hw''
          obtain ⟨V, hV⟩ : ∃ V, V = grow (redrawn wr dq) osq := ⟨_, rfl⟩
          have hbV : Below wr.heap.size wr V := by rw [hV]; exact below_regrown _ _ _
          rw [← hV]
          clear hV
          clear Rx0
          clear Rx1
          clear Rx2
          clear Rx3
          clear Rx4
          clear CV
          go_wp2
          go_roundw
          case rel => exact ⟨k + 1, by go_num, by omega, fun j hj => by rcases Nat.lt_or_ge j k with h | h; exact HOK.out j h; exact (show j = k by omega) ▸ okAt_zero hlt (by omega) HX.out h1, bt hbV HB.out⟩
          case measure => simp [intOf]; omega
      · have h1' : oneB x = false := by simpa using h1
        clear h1
        have k1 : (0 : Int) ≤ (k : Int) := by omega
        have k2 : (k : Int) < (l.length : Int) := by omega
        go_wp2
        have Rx0 := cell_regrown x0
        have Rx1 := cell_regrown x1
        have Rx2 := cell_regrown x2
        have Rx3 := cell_regrown x3
        have Rx4 := cell_regrown x4
        have CV := fun (d : Nat) (os : Array Obj) => Calls.regrown_of (rOne_lit false x (grow (redrawn wr d) os) h1')
        refine wp_region_quiet_below (by kernel_rfl) (by kernel_rfl) ?_
        repeat (first | go_big_quiet_step (first | (with_reducible exact CV _ _)) | quiet_step (first | (with_reducible exact CV _ _)))
        refine wpQuiet_nil ?_
        intro _ hw'
        obtain ⟨⟨dq, osq⟩, hw''⟩ := hw'
        subst hw''
        obtain ⟨V, hV⟩ : ∃ V, V = grow (redrawn wr dq) osq := ⟨_, rfl⟩
        have hbV : Below wr.heap.size wr V := by rw [hV]; exact below_regrown _ _ _
        rw [← hV]
        clear hV
        clear Rx0
        clear Rx1
        clear Rx2
        clear Rx3
        clear Rx4
        clear CV
        go_wp2
        go_ret
        exact ⟨ret_bool (vlB_not hlt (okAt_one hlt HX.out h1')).symm, bt hbV HB.out⟩
    · obtain rfl : k = l.length := by omega
      have hfin : Hid (vlB l = decide ((l.length : Int) ≤ 64)) := by
        show _ = _
        by_cases h : l.length ≤ 64
        · rw [(vlB_at l).2 ⟨h, HOK.out⟩]; simp; omega
        · rw [show vlB l = false from by simp [vlB]; omega]; simp; omega
      go_wp2
      go_ret
      exact ⟨ret_bool (by rw [hfin.out]), HB.out⟩
theorem Valid_lit (b : Bool) (l : List Lea) (A : Option Addr) (c : Nat) (w : World) (h : vlB l = b) (hA : RdL w w.heap.size A l) (hn : l.length ≤ 9223372036854775807) :
    Calls Tryz.prog 17 #[.slice A l.length c] w fun e w' => e = .returned (.bool b) ∧ Below w.heap.size w w' := h ▸ Valid_any l A c w hA hn
theorem rValid_lit (b : Bool) (l : List Lea) (A : Option Addr) (c : Nat) (w : World) (h : vlB l = b) (hA : RdL w w.heap.size A l) (hn : l.length ≤ 1000000000) :
    Calls Tryz.prog 31 #[.slice A l.length c] w fun e w' => e = .returned (.bool b) ∧ Below w.heap.size w w' := h ▸ rValid_any l A c w hA hn
theorem inside_lit (b : Bool) (n lo hi : Int) (w : World) (h : decide (lo ≤ n ∧ n ≤ hi) = b) :
    Calls Tryz.prog 63 #[.int .i64 n, .int .i64 lo, .int .i64 hi] w fun e w' => e = .returned (.bool b) ∧ w = w' := by
  subst h
  go_enter Tryz.func63, Tryz.ntmps63
  go_wp2
  all_goals
    go_ret
    refine ⟨ret_bool ?_, rfl⟩
    rw [Bool.eq_iff_iff]
    simp
    try omega
theorem end_any (x : Lea) (w : World) (h : oneB x = true) :
    Calls Tryz.prog 73 #[.agg #[.int .i64 x.n, .int .i64 x.c, .int .i64 x.a, .int .i64 x.f, .int .i64 x.t]] w fun e w' => e = .returned (.int .i64 (endI x)) ∧ Below w.heap.size w w' := by
  rw [oneB_iff] at h
  obtain ⟨_, _, _, _, _, _, f0, f1, t0, t1⟩ := h
  have hw := Ck.wait_bd x.t (by omega) (by omega)
  obtain ⟨w0, w1, w2⟩ := hw
  have kx : Bk (w.alloc (.cells #[.int .i64 x.n, .int .i64 x.c, .int .i64 x.a, .int .i64 x.f, .int .i64 x.t] 26)) w.heap.size 26 #[.int .i64 x.n, .int .i64 x.c, .int .i64 x.a, .int .i64 x.f, .int .i64 x.t] := Bk.new _ _ _
  have HB := Lib.hid (al1 w (.cells #[.int .i64 x.n, .int .i64 x.c, .int .i64 x.a, .int .i64 x.f, .int .i64 x.t] 26))
  go_enter Tryz.func73, Tryz.ntmps73
  go_wp2_with fail
  refine (Wait_yes x.t (by omega) (by omega) _).mono ?_
  rintro e W2 ⟨rfl, hb2⟩
  obtain ⟨y0, y1, y2, y3, y4⟩ := box5 (kx.next hb2)
  have hlt := (kx.next hb2).lt
  clear kx
  go_wp2
  go_ret
  exact ⟨by unfold endI; rfl, bt hb2 HB.out⟩
theorem rEnd_any (x : Lea) (w : World) (h : oneB x = true) :
    Calls Tryz.prog 77 #[.agg #[.int .i64 x.n, .int .i64 x.c, .int .i64 x.a, .int .i64 x.f, .int .i64 x.t]] w fun e w' => e = .returned (.int .i64 (endI x)) ∧ Below w.heap.size w w' := by
  rw [oneB_iff] at h
  obtain ⟨_, _, _, _, _, _, f0, f1, t0, t1⟩ := h
  have hw := Ck.wait_bd x.t (by omega) (by omega)
  obtain ⟨w0, w1, w2⟩ := hw
  have hwt := (Ck.tk_in (t := x.t) (by omega) (by omega)).1
  have hr := rWait_any x.t
  rw [hwt] at hr
  have HR := Lib.hid hr
  clear hr hwt
  have HB := Lib.hid (al1 w (.cells #[.int .i64 x.n, .int .i64 x.c, .int .i64 x.a, .int .i64 x.f, .int .i64 x.t] 26))
  go_enter Tryz.func77, Tryz.ntmps77
  go_wp2_with fail
  refine (HR.out _).mono ?_
  rintro e W2 ⟨rfl, rfl⟩
  go_wp2
  go_ret
  exact ⟨by unfold endI; rfl, HB.out⟩
end Go.Proofs.YthebojaminploaaGreatDoor.Ls

/- Contracts of package lease and of its reference: Expire, Grant; comparing. -/
set_option maxRecDepth 100000
set_option linter.unusedVariables false
set_option linter.unusedSimpArgs false
namespace Go.Proofs.YthebojaminploaaGreatDoor.Ls
open Go.RowKit Go.Sort

theorem info_lease : (Tryz.prog.info? 26).map (fun i => (i.zero, i.size, i.bytes)) = some (some (.agg #[.int .i64 0, .int .i64 0, .int .i64 0, .int .i64 0, .int .i64 0]), 5, 40) := by kernel_rfl
theorem news5 (W : World) (t : TypeId) (a b c d e : Value) : ∀ j u, [a, b, c, d, e][j]? = some u → (W.alloc (.cells #[a, b, c, d, e] t)).cell? ((⟨W.heap.size, 0, none⟩ : Addr).add j) = some u := by
  intro j u hj
  rw [add_mk, (Bk.new W t #[a, b, c, d, e]).cell]
  simpa using hj
section
variable {w w' : World} {base n sz : Nat} {e : TypeId} {v : Value} {xs : List Value}
theorem own_read (h : w.ownsRow base e sz v n xs) : ∃ A c, v = .slice A n c ∧ n ≤ c ∧ RdS w w.heap.size sz A n xs := by
  have h' := h
  obtain ⟨h1, h2⟩ := h
  rcases h2 with ⟨rfl, rfl⟩ | ⟨g, cap, cur, rfl, _, _, hc, _⟩
  · have : xs = [] := List.eq_nil_of_length_eq_zero (by omega)
    subst this
    exact ⟨none, 0, rfl, Nat.le_refl _, RdS.nil⟩
  · exact ⟨some ⟨g, 0, none⟩, cap, rfl, hc, RdS.of_own h'⟩
theorem own_next (h : w.ownsRow base e sz v n xs) (hb : Below w.heap.size w w') : w'.ownsRow base e sz v n xs := by
  obtain ⟨h1, h2⟩ := h
  refine ⟨h1, ?_⟩
  rcases h2 with h2 | ⟨g, cap, cur, rfl, hg, hh, r⟩
  · exact .inl h2
  · exact .inr ⟨g, cap, cur, rfl, hg, (hb.block g (Array.getElem?_eq_some_iff.1 hh).1).trans hh, r⟩
theorem own_below (h : w.ownsRow base e sz v n xs) {W : World} {o : Obj} {w1 : World} (hb : Below w.heap.size w W) (hg : (W.alloc o).grownBy w1 v.ownBlock) (hB : base ≤ w.heap.size) : Below base W w1 :=
  ((Below.refl base W).alloc (by have := hb.size; omega) o).trans (grownBy_below hg (by have := hb.size; simp; omega) fun k hk => (h.lt k hk).1)
end

def LPost (w : World) (l : List Lea) (er : Int) (e : Ending) (w' : World) : Prop :=
  ∃ A c, e = .returned (.tuple #[.slice A l.length c, .int .i64 er]) ∧ l.length ≤ c ∧ RdL w' w'.heap.size A l ∧ Below w.heap.size w w'

theorem filter_take_pos {l : List Lea} {k : Nat} {p : Lea → Bool} {x : Lea} (hk : k < l.length) (hx : x = l[k]) (hp : p x = true) : (l.take (k + 1)).filter p = (l.take k).filter p ++ [x] := by
  rw [List.take_succ_eq_append_getElem hk, List.filter_append, ← hx, List.filter_cons_of_pos hp]; rfl
theorem filter_take_neg {l : List Lea} {k : Nat} {p : Lea → Bool} {x : Lea} (hk : k < l.length) (hx : x = l[k]) (hp : p x = false) : (l.take (k + 1)).filter p = (l.take k).filter p := by
  rw [List.take_succ_eq_append_getElem hk, List.filter_append, ← hx, List.filter_cons_of_neg (by simp [hp])]; simp
theorem filter_take_le {l : List Lea} {k : Nat} {p : Lea → Bool} : ((l.take k).filter p).length ≤ k := Nat.le_trans (List.length_filter_le _ _) (List.length_take_le _ _)
theorem exp_in {l : List Lea} {tick : Int} (h1 : vlB l = true) (h2 : 0 ≤ tick) (h3 : tick ≤ 1100000) : expE l tick = 0 ∧ expL l tick = l.filter (lftB tick) := by simp [expE, expL, expB, h1, h2, h3]
theorem exp_out {l : List Lea} {tick : Int} (h : vlB l = false ∨ tick < 0 ∨ 1100000 < tick) : expE l tick = 1 ∧ expL l tick = [] := by
  have : expB l tick = false := by
    unfold expB
    rcases h with h | h | h
    · simp [h]
    · rw [show decide (0 ≤ tick ∧ tick ≤ 1100000) = false from by simp; omega]; simp
    · rw [show decide (0 ≤ tick ∧ tick ≤ 1100000) = false from by simp; omega]; simp
  simp [expE, expL, this]

set_option maxHeartbeats 2000000 in
theorem Expire_any (l : List Lea) (A : Option Addr) (c : Nat) (tick : Int) (w : World) (hA : RdL w w.heap.size A l) (hn : l.length ≤ 9223372036854775807) :
    Calls Tryz.prog 41 #[.slice A l.length c, .int .i64 tick] w (LPost w (expL l tick) (expE l tick)) := by
  obtain ⟨i0, hi, hz0, hz1, hz2⟩ := info_parts info_lease
  have HA := Lib.hid hA
  clear hA
  by_cases hv : vlB l = true
  · by_cases h01 : 0 ≤ tick ∧ tick ≤ 1100000
    · obtain ⟨h0, h1⟩ := h01
      obtain ⟨e1, e2⟩ := exp_in hv h0 h1
      rw [e1, e2]
      have h64 := ((vlB_at l).1 hv).1
      have HV := Lib.hid hv
      clear e1 e2
      have ht : decide (0 ≤ tick ∧ tick ≤ 1100000) = true := by simp; omega
      go_enter Tryz.func41, Tryz.ntmps41
      go_wp2_with fail
      refine (Valid_lit true l A c _ HV.out HA.out hn).mono ?_
      rintro e V ⟨rfl, hbV⟩
      clear hv
      go_wp2_with fail
      refine (inside_lit true tick 0 1100000 _ ht).mono ?_
      rintro e V' ⟨rfl, rfl⟩
      clear ht
      have HBV := Lib.hid hbV
      have hbase := hbV.size
      clear hbV
      go_wp2
      go_loopw [6, 19] (fun v i wr => ∃ k : Nat, i = .int .i64 k ∧ k ≤ l.length ∧ wr.ownsRow w.heap.size 26 5 v ((l.take k).filter (lftB tick)).length (lsc ((l.take k).filter (lftB tick))) ∧ Below w.heap.size w wr) (fun _ i _ => l.length - (intOf i).toNat)
      case atStart => exact ⟨0, rfl, Nat.zero_le _, World.ownsRow_nil _ _ _ _, HBV.out⟩
      case round =>
        obtain ⟨k, rfl, hk, hown, hb⟩ := hrel
        have HO := Lib.hid hown
        have HB := Lib.hid hb
        have hbase := hb.size
        clear hown hb
        by_cases hlt : k < l.length
        · obtain ⟨b, o, rfl, hbb, x0, x1, x2, x3, x4⟩ := (HA.out.next HB.out).at_ hlt
          obtain ⟨x, hx⟩ : ∃ y, y = l[k] := ⟨_, rfl⟩
          have h1x := vlB_one HV.out (List.getElem_mem hlt)
          rw [← hx] at x0 x1 x2 x3 x4 h1x
          have HX := Lib.hid hx
          have H1X := Lib.hid h1x
          clear hx h1x
          have hfl : ((l.take k).filter (lftB tick)).length ≤ 64 := Nat.le_trans filter_take_le (by omega)
          obtain ⟨ys, hys⟩ : ∃ ys, ys = ((l.take k).filter (lftB tick)) := ⟨_, rfl⟩
          rw [← hys] at hfl HO
          have HYS := Lib.hid hys
          clear hys
          have k1 : (0 : Int) ≤ (k : Int) := by omega
          have k2 : (k : Int) < (l.length : Int) := by omega
          go_wp2_with fail
          obtain ⟨U, hU⟩ : ∃ U, U = wr.alloc (.cells #[.int .i64 x.n, .int .i64 x.c, .int .i64 x.a, .int .i64 x.f, .int .i64 x.t] 26) := ⟨_, rfl⟩
          have kx : Bk U wr.heap.size 26 #[.int .i64 x.n, .int .i64 x.c, .int .i64 x.a, .int .i64 x.f, .int .i64 x.t] := by rw [hU]; exact Bk.new _ _ _
          have hbU : Below wr.heap.size wr U := by rw [hU]; exact al1 _ _
          rw [← hU]
          clear hU
          obtain ⟨gx, hgx⟩ : ∃ g, g = wr.heap.size := ⟨_, rfl⟩
          rw [← hgx] at kx ⊢
          clear hgx
          refine (end_any x _ H1X.out).mono ?_
          rintro e W2 ⟨rfl, hb2⟩
          obtain ⟨q0, q1, q2, q3, q4⟩ := box5 (kx.next hb2)
          have hlx := (kx.next hb2).lt
          have HB2 := Lib.hid (bt hb2 hbU)
          have hbase2 := (bt hb2 hbU).size
          clear kx hbU hb2 x0 x1 x2 x3 x4
          by_cases hle : tick < endI x
          · have hl : lftB tick x = true := by simp [lftB]; omega
            have HL := Lib.hid hl
            clear hl
            have HO2 := Lib.hid (own_next HO.out HB2.out)
            go_wp2_with (at_builtin; refine wpList_append_own _ rfl _ _ 32 rfl w.heap.size 26 i0 (.agg #[.int .i64 0, .int .i64 0, .int .i64 0, .int .i64 0, .int .i64 0]) 5 40 Tryz.underlying32 hi hz0 hz1 hz2 rfl (by decide) _ ys.length (lsc ys) rfl (HO2.out.alloc _) ⟨W2.heap.size, 0, none⟩ 1 1 [.int .i64 x.n, .int .i64 x.c, .int .i64 x.a, .int .i64 x.f, .int .i64 x.t] rfl rfl (news5 _ _ _ _ _ _ _) (by simp [Value.oneCell']) (by simp only [maxLen]; omega) (by omega) (by have := hbase; simp; omega) ?_; intro v' w1 hown' hgrow _)
            have HR : Hid (w1.ownsRow w.heap.size 26 5 v' ((l.take (k + 1)).filter (lftB tick)).length (lsc ((l.take (k + 1)).filter (lftB tick)))) := by
              show w1.ownsRow _ _ _ _ _ _
              rw [filter_take_pos hlt HX.out HL.out, ← HYS.out, lsc_snoc, List.length_append]; exact hown'
            have HG : Hid (Below w.heap.size w w1) := (bt HB2.out HB.out).trans (own_below HO2.out (Below.refl _ _) hgrow (by omega))
            clear hown' hgrow
            go_wp2
            go_roundw
            case rel => exact ⟨k + 1, by go_num, by omega, HR.out, HG.out⟩
            case measure => simp [intOf]; omega
          · have hl : lftB tick x = false := by simp [lftB]; omega
            have HL := Lib.hid hl
            clear hl
            go_wp2
            go_roundw
            case rel => exact ⟨k + 1, by go_num, by omega, by rw [filter_take_neg hlt HX.out HL.out, ← HYS.out]; exact own_next HO.out HB2.out, bt HB2.out HB.out⟩
            case measure => simp [intOf]; omega
        · obtain rfl : k = l.length := by omega
          have hown := HO.out
          rw [List.take_of_length_le (Nat.le_refl _)] at hown
          obtain ⟨A', c', rfl, hc', hr'⟩ := own_read hown
          have HR := Lib.hid hr'
          clear hr' hown HO
          go_wp2
          go_ret2
          exact ⟨A', c', rfl, hc', HR.out, HB.out⟩
    · obtain ⟨e1, e2⟩ := exp_out (l := l) (tick := tick) (by first | exact .inl hv | (right; omega))
      rw [e1, e2]
      clear e1 e2
      have ht : decide (0 ≤ tick ∧ tick ≤ 1100000) = false := by simp; omega
      go_enter Tryz.func41, Tryz.ntmps41
      go_wp2_with fail
      refine (Valid_lit true l A c _ hv HA.out hn).mono ?_
      rintro e V ⟨rfl, hbV⟩
      go_wp2_with fail
      refine (inside_lit false tick 0 1100000 _ ht).mono ?_
      rintro e V' ⟨rfl, rfl⟩
      go_wp2
      go_ret2
      exact ⟨none, 0, rfl, Nat.le_refl _, RdL.nil, hbV⟩
  · have hv : vlB l = false := by simpa using hv
    obtain ⟨e1, e2⟩ := exp_out (l := l) (tick := tick) (by first | exact .inl hv | (right; omega))
    rw [e1, e2]
    clear e1 e2
    go_enter Tryz.func41, Tryz.ntmps41
    go_wp2_with fail
    refine (Valid_lit false l A c _ hv HA.out hn).mono ?_
    rintro e V ⟨rfl, hbV⟩
    go_wp2
    go_ret2
    exact ⟨none, 0, rfl, Nat.le_refl _, RdL.nil, hbV⟩
set_option maxHeartbeats 2000000 in
theorem rExpire_any (l : List Lea) (A : Option Addr) (c : Nat) (tick : Int) (w : World) (hA : RdL w w.heap.size A l) (hn : l.length ≤ 1000000000) :
    Calls Tryz.prog 54 #[.slice A l.length c, .int .i64 tick] w (LPost w (expL l tick) (expE l tick)) := by
  obtain ⟨i0, hi, hz0, hz1, hz2⟩ := info_parts info_lease
  have HA := Lib.hid hA
  clear hA
  by_cases hv : vlB l = true
  · by_cases h01 : 0 ≤ tick ∧ tick ≤ 1100000
    · obtain ⟨h0, h1⟩ := h01
      obtain ⟨e1, e2⟩ := exp_in hv h0 h1
      rw [e1, e2]
      have h64 := ((vlB_at l).1 hv).1
      have HV := Lib.hid hv
      clear e1 e2
      have z0 : decide (tick < 0) = false := by simp; omega
      have z1 : decide (1100000 < tick) = false := by simp; omega
      go_enter Tryz.func54, Tryz.ntmps54
      go_wp2_with fail
      refine (rValid_lit true l A c _ HV.out HA.out hn).mono ?_
      rintro e V ⟨rfl, hbV⟩
      clear hv
      have HBV := Lib.hid hbV
      have hbase := hbV.size
      clear hbV
      go_wp2
      go_loopw [6, 7] (fun v i wr => ∃ k : Nat, i = .int .i64 k ∧ k ≤ l.length ∧ wr.ownsRow w.heap.size 26 5 v ((l.take k).filter (lftB tick)).length (lsc ((l.take k).filter (lftB tick))) ∧ Below w.heap.size w wr) (fun _ i _ => l.length - (intOf i).toNat)
      case atStart => exact ⟨0, rfl, Nat.zero_le _, World.ownsRow_nil _ _ _ _, HBV.out⟩
      case round =>
        obtain ⟨k, rfl, hk, hown, hb⟩ := hrel
        have HO := Lib.hid hown
        have HB := Lib.hid hb
        have hbase := hb.size
        clear hown hb
        by_cases hlt : k < l.length
        · obtain ⟨b, o, rfl, hbb, x0, x1, x2, x3, x4⟩ := (HA.out.next HB.out).at_ hlt
          obtain ⟨x, hx⟩ : ∃ y, y = l[k] := ⟨_, rfl⟩
          have h1x := vlB_one HV.out (List.getElem_mem hlt)
          rw [← hx] at x0 x1 x2 x3 x4 h1x
          have HX := Lib.hid hx
          have H1X := Lib.hid h1x
          clear hx h1x
          have hfl : ((l.take k).filter (lftB tick)).length ≤ 64 := Nat.le_trans filter_take_le (by omega)
          obtain ⟨ys, hys⟩ : ∃ ys, ys = ((l.take k).filter (lftB tick)) := ⟨_, rfl⟩
          rw [← hys] at hfl HO
          have HYS := Lib.hid hys
          clear hys
          have k1 : (0 : Int) ≤ (k : Int) := by omega
          have k2 : (k : Int) < (l.length : Int) := by omega
          go_wp2_with fail
          refine (rEnd_any x _ H1X.out).mono ?_
          rintro e W2 ⟨rfl, hb2⟩
          have HB2 := Lib.hid hb2
          have hbase2 := hb2.size
          have q0 := (hb2.cell (p := ⟨b, o + k * 5, none⟩) hbb).trans x0
          have q1 := (hb2.cell (p := ⟨b, o + k * 5 + 1, none⟩) hbb).trans x1
          have q2 := (hb2.cell (p := ⟨b, o + k * 5 + 2, none⟩) hbb).trans x2
          have q3 := (hb2.cell (p := ⟨b, o + k * 5 + 3, none⟩) hbb).trans x3
          have q4 := (hb2.cell (p := ⟨b, o + k * 5 + 4, none⟩) hbb).trans x4
          clear x0 x1 x2 x3 x4 hb2
          by_cases hle : tick < endI x
          · have hl : lftB tick x = true := by simp [lftB]; omega
            have HL := Lib.hid hl
            clear hl
            have HO2 := Lib.hid (own_next HO.out HB2.out)
            go_wp2_with (at_builtin; refine wpList_append_own _ rfl _ _ 32 rfl w.heap.size 26 i0 (.agg #[.int .i64 0, .int .i64 0, .int .i64 0, .int .i64 0, .int .i64 0]) 5 40 Tryz.underlying32 hi hz0 hz1 hz2 rfl (by decide) _ ys.length (lsc ys) rfl (HO2.out.alloc _) ⟨W2.heap.size, 0, none⟩ 1 1 [.int .i64 x.n, .int .i64 x.c, .int .i64 x.a, .int .i64 x.f, .int .i64 x.t] rfl rfl (news5 _ _ _ _ _ _ _) (by simp [Value.oneCell']) (by simp only [maxLen]; omega) (by omega) (by have := hbase; simp; omega) ?_; intro v' w1 hown' hgrow _)
            have HR : Hid (w1.ownsRow w.heap.size 26 5 v' ((l.take (k + 1)).filter (lftB tick)).length (lsc ((l.take (k + 1)).filter (lftB tick)))) := by
              show w1.ownsRow _ _ _ _ _ _
              rw [filter_take_pos hlt HX.out HL.out, ← HYS.out, lsc_snoc, List.length_append]; exact hown'
            have HG : Hid (Below w.heap.size w w1) := (bt HB2.out HB.out).trans (own_below HO2.out (Below.refl _ _) hgrow (by omega))
            clear hown' hgrow
            go_wp2
            go_roundw
            case rel => exact ⟨k + 1, by go_num, by omega, HR.out, HG.out⟩
            case measure => simp [intOf]; omega
          · have hl : lftB tick x = false := by simp [lftB]; omega
            have HL := Lib.hid hl
            clear hl
            go_wp2
            go_roundw
            case rel => exact ⟨k + 1, by go_num, by omega, by rw [filter_take_neg hlt HX.out HL.out, ← HYS.out]; exact own_next HO.out HB2.out, bt HB2.out HB.out⟩
            case measure => simp [intOf]; omega
        · obtain rfl : k = l.length := by omega
          have hown := HO.out
          rw [List.take_of_length_le (Nat.le_refl _)] at hown
          obtain ⟨A', c', rfl, hc', hr'⟩ := own_read hown
          have HR := Lib.hid hr'
          clear hr' hown HO
          go_wp2
          go_ret2
          exact ⟨A', c', rfl, hc', HR.out, HB.out⟩
    · obtain ⟨e1, e2⟩ := exp_out (l := l) (tick := tick) (by first | exact .inl hv | (right; omega))
      rw [e1, e2]
      clear e1 e2
      have z : decide (tick < 0) = true ∨ (decide (tick < 0) = false ∧ decide (1100000 < tick) = true) := by simp; omega
      go_enter Tryz.func54, Tryz.ntmps54
      go_wp2_with fail
      refine (rValid_lit true l A c _ hv HA.out hn).mono ?_
      rintro e V ⟨rfl, hbV⟩
      rcases z with z | ⟨z, z'⟩
      · go_wp2
        go_ret2
        exact ⟨none, 0, rfl, Nat.le_refl _, RdL.nil, hbV⟩
      · go_wp2
        go_ret2
        exact ⟨none, 0, rfl, Nat.le_refl _, RdL.nil, hbV⟩
  · have hv : vlB l = false := by simpa using hv
    obtain ⟨e1, e2⟩ := exp_out (l := l) (tick := tick) (by first | exact .inl hv | (right; omega))
    rw [e1, e2]
    clear e1 e2
    go_enter Tryz.func54, Tryz.ntmps54
    go_wp2_with fail
    refine (rValid_lit false l A c _ hv HA.out hn).mono ?_
    rintro e V ⟨rfl, hbV⟩
    go_wp2
    go_ret2
    exact ⟨none, 0, rfl, Nat.le_refl _, RdL.nil, hbV⟩
end Go.Proofs.YthebojaminploaaGreatDoor.Ls

/- Contracts of the reference of package lease: comparing leases and numbers. -/
set_option maxRecDepth 100000
set_option linter.unusedVariables false
set_option linter.unusedSimpArgs false
namespace Go.Proofs.YthebojaminploaaGreatDoor.Ls
open Go.RowKit Go.Sort

theorem eqLease (x y : Lea) (w : World) : (Op.equalIn 10000 26 (.agg #[.int .i64 x.n, .int .i64 x.c, .int .i64 x.a, .int .i64 x.f, .int .i64 x.t]) (.agg #[.int .i64 y.n, .int .i64 y.c, .int .i64 y.a, .int .i64 y.f, .int .i64 y.t])).run Tryz.prog w = .ok (eqL x y) w := by
  have u3 := Tryz.underlying3
  have hS : Tryz.prog.underlying 26 = some (.struct (Tryz.prog.fieldsOf 26)) := by kernel_rfl
  have hp : Tryz.prog.stoodInHeld 26 = false := by kernel_rfl
  rw [show (10000 : Nat) = 9999 + 1 from rfl, run_equalIn_agg w 9999 26 _ _ hS hp]
  simp only [Program.fieldsOf, Tryz.underlying26]
  go_simp
  unfold eqL
  by_cases h1 : x.n = y.n <;> by_cases h2 : x.c = y.c <;> by_cases h3 : x.a = y.a <;> by_cases h4 : x.f = y.f <;> by_cases h5 : x.t = y.t <;> simp [h1, h2, h3, h4, h5]
theorem guardLease : Tryz.prog.eqGuardType Tryz.prog.depth 26 = false := by kernel_rfl
theorem ints_cons {a b : List Int} {k : Nat} (h1 : k < a.length) (h2 : k < b.length) (h : a.take k = b.take k) (he : a[k] = b[k]) : a.take (k + 1) = b.take (k + 1) := by
  rw [List.take_succ_eq_append_getElem h1, List.take_succ_eq_append_getElem h2, h, he]
theorem leas_cons {a b : List Lea} {k : Nat} (h1 : k < a.length) (h2 : k < b.length) (h : a.take k = b.take k) (he : a[k] = b[k]) : a.take (k + 1) = b.take (k + 1) := by
  rw [List.take_succ_eq_append_getElem h1, List.take_succ_eq_append_getElem h2, h, he]
def eqI (a b : List Int) : Bool := decide (a = b)
set_option maxHeartbeats 1000000 in
theorem rSame_any (l1 l2 : List Lea) (A1 A2 : Option Addr) (c1 c2 : Nat) (w : World) (h1 : RdL w w.heap.size A1 l1) (h2 : RdL w w.heap.size A2 l2) (n1 : l1.length ≤ 1000000000) (n2 : l2.length ≤ 1000000000) :
    Calls Tryz.prog 14 #[.slice A1 l1.length c1, .slice A2 l2.length c2] w fun e w' => e = .returned (.bool (eqLs l1 l2)) ∧ Below w.heap.size w w' := by
  have H1 := Lib.hid h1
  have H2 := Lib.hid h2
  clear h1 h2
  by_cases hl : l1.length = l2.length
  · have hl' : ((l1.length : Int) != (l2.length : Int)) = false := by simp [hl]
    have HL := Lib.hid hl
    clear hl
    go_enter Tryz.func14, Tryz.ntmps14
    go_wp2
    go_loopw [5] (fun i wr => ∃ k n : Nat, i = .int .i64 k ∧ k ≤ l1.length ∧ l1.take k = l2.take k ∧ wr = w.drewN n) (fun i _ => l1.length - (intOf i).toNat)
    case atStart => exact ⟨0, 0, rfl, Nat.zero_le _, rfl, rfl⟩
    case round =>
      obtain ⟨k, n, rfl, hk, heq, rfl⟩ := hrel
      have HEQ := Lib.hid heq
      clear heq
      by_cases hlt : k < l1.length
      · have hlt2 : k < l2.length := by have := HL.out; omega
        obtain ⟨a1, o1, rfl, b1, x0, x1, x2, x3, x4⟩ := H1.out.at_ hlt
        obtain ⟨a2, o2, rfl, b2, y0, y1, y2, y3, y4⟩ := H2.out.at_ hlt2
        obtain ⟨x, hx⟩ : ∃ y, y = l1[k] := ⟨_, rfl⟩
        obtain ⟨y, hy⟩ : ∃ y, y = l2[k] := ⟨_, rfl⟩
        rw [← hx] at x0 x1 x2 x3 x4
        rw [← hy] at y0 y1 y2 y3 y4
        have HX := Lib.hid hx
        have HY := Lib.hid hy
        clear hx hy
        have hq := eqLease x y
        have hgd := guardLease
        have k1 : (0 : Int) ≤ (k : Int) := by omega
        have k2 : (k : Int) < (l1.length : Int) := by omega
        have k3 : (k : Int) < (l2.length : Int) := by omega
        by_cases he : eqL x y = true
        · have HE := Lib.hid he
          go_wp2
          go_quiet (fail)
          go_wp2
          go_roundw
          case rel => exact ⟨k + 1, _, by go_num, by omega, leas_cons hlt hlt2 HEQ.out (by rw [← HX.out, ← HY.out]; exact (eqL_iff _ _).1 HE.out), rfl⟩
          case measure => simp [intOf]; omega
        · have he' : eqL x y = false := by simpa using he
          have hne : Hid (eqLs l1 l2 = false) := by
            show _ = false
            rw [← Bool.not_eq_true, eqLs_iff]
            intro h
            subst h
            rw [HX.out, HY.out] at he'
            rw [(eqL_iff _ _).2 rfl] at he'
            cases he'
          clear he
          go_wp2
          go_quiet (fail)
          go_wp2
          go_ret
          exact ⟨ret_bool hne.out.symm, belowDrew (belowDrew (Below.refl _ _) _) _⟩
      · have hfin : Hid (eqLs l1 l2 = true) := by
          show _ = true
          have e := HEQ.out
          have e2 := HL.out
          rw [List.take_of_length_le (by omega), List.take_of_length_le (by omega)] at e
          exact (eqLs_iff _ _).2 e
        go_wp2
        go_ret
        exact ⟨ret_bool hfin.out.symm, belowDrew (Below.refl _ _) _⟩
  · have hl' : ((l1.length : Int) != (l2.length : Int)) = true := by simp; omega
    have hne : Hid (eqLs l1 l2 = false) := by
      show _ = false
      rw [← Bool.not_eq_true, eqLs_iff]
      intro h
      subst h
      exact hl rfl
    clear hl
    go_enter Tryz.func14, Tryz.ntmps14
    go_wp2
    go_ret
    exact ⟨ret_bool hne.out.symm, Below.refl _ _⟩
theorem rSame_eq (l1 l2 : List Lea) (A1 A2 : Option Addr) (c1 c2 : Nat) (w : World) (h : l1 = l2) (h1 : RdL w w.heap.size A1 l1) (h2 : RdL w w.heap.size A2 l2) (n1 : l1.length ≤ 1000000000) :
    Calls Tryz.prog 14 #[.slice A1 l1.length c1, .slice A2 l2.length c2] w fun e w' => e = .returned (.bool true) ∧ Below w.heap.size w w' := by
  have := rSame_any l1 l2 A1 A2 c1 c2 w h1 h2 n1 (by rw [← h]; exact n1)
  rwa [show eqLs l1 l2 = true from (eqLs_iff _ _).2 h] at this
end Go.Proofs.YthebojaminploaaGreatDoor.Ls
