/- vault.pack: the bytes of a lease. -/
import Derived.Test.YthebojaminploaaGreatDoorKVMath
import Derived.Test.YthebojaminploaaGreatDoorKJS
import Derived.Test.YthebojaminploaaGreatDoorKJd
import Derived.Test.YthebojaminploaaGreatDoorKFZ
import Derived.Test.YthebojaminploaaGreatDoorKLZ
import Derived.Test.YthebojaminploaaGreatDoorKCO
import Derived.OwnWalk
import Derived.Maps.AppendAt
import Derived.BigRegion
import Derived.IntWalk
set_option maxRecDepth 100000
set_option linter.unusedVariables false
set_option linter.unusedSimpArgs false
namespace Go.Proofs.YthebojaminploaaGreatDoor
open Go.RowKit Go.Sort Go.Shelf

/-- the variable widths -/
def Wd (w : World) : Prop := 0 < w.heap.size ∧ w.cell? ⟨0, 0, none⟩ = some (.int .i64 4) ∧ w.cell? ⟨0, 1, none⟩ = some (.int .i64 1) ∧ w.cell? ⟨0, 2, none⟩ = some (.int .i64 1) ∧ w.cell? ⟨0, 3, none⟩ = some (.int .i64 4) ∧ w.cell? ⟨0, 4, none⟩ = some (.int .i64 2)
theorem Wd.next {w w' : World} (h : Wd w) (hb : Below w.heap.size w w') : Wd w' := by
  obtain ⟨h0, a, b, c, d, e⟩ := h
  have hk : ∀ o, w'.cell? ⟨0, o, none⟩ = w.cell? ⟨0, o, none⟩ := fun o => hb.cell (p := ⟨0, o, none⟩) h0
  exact ⟨Nat.lt_of_lt_of_le h0 hb.size, (hk _).trans a, (hk _).trans b, (hk _).trans c, (hk _).trans d, (hk _).trans e⟩
/-- the last bytes of a number -/
def beN (v : Nat) : Nat → List UInt8
  | 0 => []
  | r + 1 => UInt8.ofNat (v / 256 ^ r) :: beN v r
def pkT (x : Lea) : Nat → List UInt8
  | 0 => []
  | 1 => beN x.n.toNat 4
  | 2 => beN x.n.toNat 4 ++ beN x.c.toNat 1
  | 3 => (beN x.n.toNat 4 ++ beN x.c.toNat 1) ++ beN x.a.toNat 1
  | 4 => ((beN x.n.toNat 4 ++ beN x.c.toNat 1) ++ beN x.a.toNat 1) ++ beN x.f.toNat 4
  | _ => (((beN x.n.toNat 4 ++ beN x.c.toNat 1) ++ beN x.a.toNat 1) ++ beN x.f.toNat 4) ++ beN x.t.toNat 2
theorem u8_mod (n : Nat) : UInt8.ofNat (n % 256) = UInt8.ofNat n := by
  apply UInt8.toNat_inj.1
  simp only [UInt8.toNat_ofNat']
  omega
theorem pkT_all (x : Lea) : pkT x 5 = packL x := by
  simp only [pkT, beN, packL, be4, szL, u8_mod, List.cons_append, List.nil_append, List.append_assoc]
  simp
theorem snoc_own {W : World} {base : Nat} {v : Value} {bs : List UInt8} {val : Int} {b : UInt8} (h : W.ownsRow base 5 1 v (bs.length + 1) (u8s bs ++ [.int .u8 val])) (e : val = (b.toNat : Int)) : W.ownsRow base 5 1 v (bs ++ [b]).length (u8s (bs ++ [b])) := by
  subst e
  have e2 : u8s (bs ++ [b]) = u8s bs ++ [.int .u8 (b.toNat : Int)] := by simp [u8s, u8]
  rw [e2, List.length_append]
  exact h
theorem pkT_len (x : Lea) : (pkT x 0).length = 0 ∧ (pkT x 1).length = 4 ∧ (pkT x 2).length = 5 ∧ (pkT x 3).length = 6 ∧ (pkT x 4).length = 10 ∧ (pkT x 5).length = 12 := by
  refine ⟨rfl, rfl, rfl, rfl, rfl, rfl⟩
theorem idx5_0 (a b c d e : Value) (W : World) : Sem.run Tryz.prog (Instr.index 69 (.agg #[a, b, c, d, e]) (.int .i64 0)) W = .ok a W := by kernel_rfl
theorem idx5_1 (a b c d e : Value) (W : World) : Sem.run Tryz.prog (Instr.index 69 (.agg #[a, b, c, d, e]) (.int .i64 1)) W = .ok b W := by kernel_rfl
theorem idx5_2 (a b c d e : Value) (W : World) : Sem.run Tryz.prog (Instr.index 69 (.agg #[a, b, c, d, e]) (.int .i64 2)) W = .ok c W := by kernel_rfl
theorem idx5_3 (a b c d e : Value) (W : World) : Sem.run Tryz.prog (Instr.index 69 (.agg #[a, b, c, d, e]) (.int .i64 3)) W = .ok d W := by kernel_rfl
theorem idx5_4 (a b c d e : Value) (W : World) : Sem.run Tryz.prog (Instr.index 69 (.agg #[a, b, c, d, e]) (.int .i64 4)) W = .ok e W := by kernel_rfl
set_option maxHeartbeats 1000000 in
theorem vpack_any (x : Lea) (w : World) (hx : oneB x = true) (hW : Wd w) :
    Calls Tryz.prog 19 #[.agg #[.int .i64 x.n, .int .i64 x.c, .int .i64 x.a, .int .i64 x.f, .int .i64 x.t]] w fun e w' => ∃ v, e = .returned v ∧ w'.ownsRow w.heap.size 5 1 v 12 (u8s (packL x)) ∧ Below w.heap.size w w' := by
  obtain ⟨i0, hi, hz0, hz1, hz2⟩ := info_parts info_u8
  have HW := Lib.hid hW
  clear hW
  obtain ⟨x1, x2, x3, x4, x5, x6, x7, x8, x9, x10⟩ := (oneB_iff x).1 hx
  clear hx
  go_enter Tryz.func19, Tryz.ntmps19
  go_wp2_with (at_make; refine wpList_make_own _ rfl _ _ 22 rfl w.heap.size 5 i0 (.int .u8 0) 1 Tryz.underlying22 hi hz0 hz1 .i64 .i64 _ 12 rfl rfl (by omega) (by rw [hz2]; omega) (by simp only [maxLen]; omega) (by first | (simp; done) | (simp; omega)) ?_; intro w0 hown0 hgrow0; obtain ⟨n0, n1, n2, n3, n4⟩ := box5 (Bk.grown (t := 69) (cs := #[.int .i64 x.n, .int .i64 x.c, .int .i64 x.a, .int .i64 x.f, .int .i64 x.t]) (g := w.heap.size + 1) (by exact bkOf (by simp [at?_alloc])) hgrow0 (by simp)); have HO0 := Lib.hid hown0; have HB0 : Hid (Below w.heap.size w w0) := bt (grownBy_below hgrow0 (Nat.le_refl _) (by simp)) (al2 _ _ _); clear hown0 hgrow0)
  clear n0 n1 n2 n3 n4
  go_loopw [4, 21] (fun v i wr => ∃ k : Nat, i = .int .i64 (k : Int) ∧ k ≤ 5 ∧ wr.ownsRow w.heap.size 5 1 v (pkT x k).length (u8s (pkT x k)) ∧ Below w.heap.size w wr) (fun _ i _ => 5 - (intOf i).toNat)
  case atStart => exact ⟨0, rfl, by omega, by have := HO0.out; simpa [pkT, u8s] using this, HB0.out⟩
  case round =>
    obtain ⟨k, rfl, hk, hown, hb⟩ := hrel
    have HO := Lib.hid hown
    have HB := Lib.hid hb
    have hsz := hb.size
    clear hown hb
    obtain ⟨_, g0, g1, g2, g3, g4⟩ := HW.out.next HB.out
    rcases (by omega : k = 0 ∨ k = 1 ∨ k = 2 ∨ k = 3 ∨ k = 4 ∨ k = 5) with hk0 | hk1 | hk2 | hk3 | hk4 | hk5
    · obtain rfl : k = 0 := hk0
      clear hk
      rw [show ((0 : Nat) : Int) = 0 from rfl]
      have ix := idx5_0 (.int .i64 x.n) (.int .i64 x.c) (.int .i64 x.a) (.int .i64 x.f) (.int .i64 x.t)
      go_wp2
      go_loopw [4, 7] (fun v j wq => ∃ r : Nat, ∃ bs : List UInt8, j = .int .i64 ((r : Int) - 1) ∧ r ≤ 4 ∧ bs ++ beN x.n.toNat r = pkT x 1 ∧ wq.ownsRow w.heap.size 5 1 v bs.length (u8s bs) ∧ Below w.heap.size w wq) (fun _ j _ => (intOf j + 1).toNat)
      case atStart => exact ⟨4, pkT x 0, by simp, by omega, rfl, HO.out, HB.out⟩
      case round =>
        obtain ⟨r, bs, rfl, hr, hbs, hown2, hb2⟩ := hrel
        have hbl : bs.length ≤ 12 := by have := congrArg List.length hbs; have := (pkT_len x); simp only [List.length_append] at *; omega
        have HS := Lib.hid hbs
        have HO2 := Lib.hid hown2
        have HB2 := Lib.hid hb2
        have hsz2 := hb2.size
        clear hbs hown2 hb2
        rcases (by omega : r = 0 ∨ r = 1 ∨ r = 2 ∨ r = 3 ∨ r = 4) with hr0 | hr1 | hr2 | hr3 | hr4
        · subst hr0
          clear hr
          rw [show (((0 : Nat) : Int) - 1) = -1 from rfl]
          go_wp2
          go_roundw
          case rel => exact ⟨1, by go_num, by omega, by rw [← HS.out]; simpa [beN] using HO2.out, HB2.out⟩
          case measure => simp [intOf]
        · subst hr1
          clear hr
          rw [show (((1 : Nat) : Int) - 1) = 0 from rfl]
          go_wp2_with (at_builtin; refine wpList_append_own _ rfl _ _ 22 rfl w.heap.size 5 i0 (.int .u8 0) 1 1 Tryz.underlying22 hi hz0 hz1 hz2 rfl (by decide) _ bs.length (u8s bs) rfl (HO2.out.alloc _) ⟨wr.heap.size, 0, none⟩ 1 1 [_] rfl rfl (news1 _ _ _) (by simp [Value.oneCell']) (by simp only [maxLen]; omega) (by omega) (by simp; omega) ?_; intro v' w1 hown' hgrow _; have HR := Lib.hid (snoc_own (b := UInt8.ofNat (x.n.toNat / 1)) hown' (by simp only [UInt8.toNat_ofNat']; omega)); have HG : Hid (Below w.heap.size w w1) := HB2.out.trans (Ls.own_below HO2.out (Below.refl _ _) hgrow (by omega)); clear hown' hgrow)
          go_roundw
          case rel => exact ⟨0, bs ++ [UInt8.ofNat (x.n.toNat / 1)], by go_num, by omega, by rw [List.append_assoc]; exact HS.out, HR.out, HG.out⟩
          case measure => simp [intOf]
        · subst hr2
          clear hr
          rw [show (((2 : Nat) : Int) - 1) = 1 from rfl]
          go_wp2_with (at_builtin; refine wpList_append_own _ rfl _ _ 22 rfl w.heap.size 5 i0 (.int .u8 0) 1 1 Tryz.underlying22 hi hz0 hz1 hz2 rfl (by decide) _ bs.length (u8s bs) rfl (HO2.out.alloc _) ⟨wr.heap.size, 0, none⟩ 1 1 [_] rfl rfl (news1 _ _ _) (by simp [Value.oneCell']) (by simp only [maxLen]; omega) (by omega) (by simp; omega) ?_; intro v' w1 hown' hgrow _; have HR := Lib.hid (snoc_own (b := UInt8.ofNat (x.n.toNat / 256)) hown' (by simp only [UInt8.toNat_ofNat']; omega)); have HG : Hid (Below w.heap.size w w1) := HB2.out.trans (Ls.own_below HO2.out (Below.refl _ _) hgrow (by omega)); clear hown' hgrow)
          go_roundw
          case rel => exact ⟨1, bs ++ [UInt8.ofNat (x.n.toNat / 256)], by go_num, by omega, by rw [List.append_assoc]; exact HS.out, HR.out, HG.out⟩
          case measure => simp [intOf]
        · subst hr3
          clear hr
          rw [show (((3 : Nat) : Int) - 1) = 2 from rfl]
          go_wp2_with (at_builtin; refine wpList_append_own _ rfl _ _ 22 rfl w.heap.size 5 i0 (.int .u8 0) 1 1 Tryz.underlying22 hi hz0 hz1 hz2 rfl (by decide) _ bs.length (u8s bs) rfl (HO2.out.alloc _) ⟨wr.heap.size, 0, none⟩ 1 1 [_] rfl rfl (news1 _ _ _) (by simp [Value.oneCell']) (by simp only [maxLen]; omega) (by omega) (by simp; omega) ?_; intro v' w1 hown' hgrow _; have HR := Lib.hid (snoc_own (b := UInt8.ofNat (x.n.toNat / 65536)) hown' (by simp only [UInt8.toNat_ofNat']; omega)); have HG : Hid (Below w.heap.size w w1) := HB2.out.trans (Ls.own_below HO2.out (Below.refl _ _) hgrow (by omega)); clear hown' hgrow)
          go_roundw
          case rel => exact ⟨2, bs ++ [UInt8.ofNat (x.n.toNat / 65536)], by go_num, by omega, by rw [List.append_assoc]; exact HS.out, HR.out, HG.out⟩
          case measure => simp [intOf]
        · subst hr4
          clear hr
          rw [show (((4 : Nat) : Int) - 1) = 3 from rfl]
          go_wp2_with (at_builtin; refine wpList_append_own _ rfl _ _ 22 rfl w.heap.size 5 i0 (.int .u8 0) 1 1 Tryz.underlying22 hi hz0 hz1 hz2 rfl (by decide) _ bs.length (u8s bs) rfl (HO2.out.alloc _) ⟨wr.heap.size, 0, none⟩ 1 1 [_] rfl rfl (news1 _ _ _) (by simp [Value.oneCell']) (by simp only [maxLen]; omega) (by omega) (by simp; omega) ?_; intro v' w1 hown' hgrow _; have HR := Lib.hid (snoc_own (b := UInt8.ofNat (x.n.toNat / 16777216)) hown' (by simp only [UInt8.toNat_ofNat']; omega)); have HG : Hid (Below w.heap.size w w1) := HB2.out.trans (Ls.own_below HO2.out (Below.refl _ _) hgrow (by omega)); clear hown' hgrow)
          go_roundw
          case rel => exact ⟨3, bs ++ [UInt8.ofNat (x.n.toNat / 16777216)], by go_num, by omega, by rw [List.append_assoc]; exact HS.out, HR.out, HG.out⟩
          case measure => simp [intOf]
    · obtain rfl : k = 1 := hk1
      clear hk
      rw [show ((1 : Nat) : Int) = 1 from rfl]
      have ix := idx5_1 (.int .i64 x.n) (.int .i64 x.c) (.int .i64 x.a) (.int .i64 x.f) (.int .i64 x.t)
      go_wp2
      go_loopw [4, 7] (fun v j wq => ∃ r : Nat, ∃ bs : List UInt8, j = .int .i64 ((r : Int) - 1) ∧ r ≤ 1 ∧ bs ++ beN x.c.toNat r = pkT x 2 ∧ wq.ownsRow w.heap.size 5 1 v bs.length (u8s bs) ∧ Below w.heap.size w wq) (fun _ j _ => (intOf j + 1).toNat)
      case atStart => exact ⟨1, pkT x 1, by simp, by omega, rfl, HO.out, HB.out⟩
      case round =>
        obtain ⟨r, bs, rfl, hr, hbs, hown2, hb2⟩ := hrel
        have hbl : bs.length ≤ 12 := by have := congrArg List.length hbs; have := (pkT_len x); simp only [List.length_append] at *; omega
        have HS := Lib.hid hbs
        have HO2 := Lib.hid hown2
        have HB2 := Lib.hid hb2
        have hsz2 := hb2.size
        clear hbs hown2 hb2
        rcases (by omega : r = 0 ∨ r = 1) with hr0 | hr1
        · subst hr0
          clear hr
          rw [show (((0 : Nat) : Int) - 1) = -1 from rfl]
          go_wp2
          go_roundw
          case rel => exact ⟨2, by go_num, by omega, by rw [← HS.out]; simpa [beN] using HO2.out, HB2.out⟩
          case measure => simp [intOf]
        · subst hr1
          clear hr
          rw [show (((1 : Nat) : Int) - 1) = 0 from rfl]
          go_wp2_with (at_builtin; refine wpList_append_own _ rfl _ _ 22 rfl w.heap.size 5 i0 (.int .u8 0) 1 1 Tryz.underlying22 hi hz0 hz1 hz2 rfl (by decide) _ bs.length (u8s bs) rfl (HO2.out.alloc _) ⟨wr.heap.size, 0, none⟩ 1 1 [_] rfl rfl (news1 _ _ _) (by simp [Value.oneCell']) (by simp only [maxLen]; omega) (by omega) (by simp; omega) ?_; intro v' w1 hown' hgrow _; have HR := Lib.hid (snoc_own (b := UInt8.ofNat (x.c.toNat / 1)) hown' (by simp only [UInt8.toNat_ofNat']; omega)); have HG : Hid (Below w.heap.size w w1) := HB2.out.trans (Ls.own_below HO2.out (Below.refl _ _) hgrow (by omega)); clear hown' hgrow)
          go_roundw
          case rel => exact ⟨0, bs ++ [UInt8.ofNat (x.c.toNat / 1)], by go_num, by omega, by rw [List.append_assoc]; exact HS.out, HR.out, HG.out⟩
          case measure => simp [intOf]
    · obtain rfl : k = 2 := hk2
      clear hk
      rw [show ((2 : Nat) : Int) = 2 from rfl]
      have ix := idx5_2 (.int .i64 x.n) (.int .i64 x.c) (.int .i64 x.a) (.int .i64 x.f) (.int .i64 x.t)
      go_wp2
      go_loopw [4, 7] (fun v j wq => ∃ r : Nat, ∃ bs : List UInt8, j = .int .i64 ((r : Int) - 1) ∧ r ≤ 1 ∧ bs ++ beN x.a.toNat r = pkT x 3 ∧ wq.ownsRow w.heap.size 5 1 v bs.length (u8s bs) ∧ Below w.heap.size w wq) (fun _ j _ => (intOf j + 1).toNat)
      case atStart => exact ⟨1, pkT x 2, by simp, by omega, rfl, HO.out, HB.out⟩
      case round =>
        obtain ⟨r, bs, rfl, hr, hbs, hown2, hb2⟩ := hrel
        have hbl : bs.length ≤ 12 := by have := congrArg List.length hbs; have := (pkT_len x); simp only [List.length_append] at *; omega
        have HS := Lib.hid hbs
        have HO2 := Lib.hid hown2
        have HB2 := Lib.hid hb2
        have hsz2 := hb2.size
        clear hbs hown2 hb2
        rcases (by omega : r = 0 ∨ r = 1) with hr0 | hr1
        · subst hr0
          clear hr
          rw [show (((0 : Nat) : Int) - 1) = -1 from rfl]
          go_wp2
          go_roundw
          case rel => exact ⟨3, by go_num, by omega, by rw [← HS.out]; simpa [beN] using HO2.out, HB2.out⟩
          case measure => simp [intOf]
        · subst hr1
          clear hr
          rw [show (((1 : Nat) : Int) - 1) = 0 from rfl]
          go_wp2_with (at_builtin; refine wpList_append_own _ rfl _ _ 22 rfl w.heap.size 5 i0 (.int .u8 0) 1 1 Tryz.underlying22 hi hz0 hz1 hz2 rfl (by decide) _ bs.length (u8s bs) rfl (HO2.out.alloc _) ⟨wr.heap.size, 0, none⟩ 1 1 [_] rfl rfl (news1 _ _ _) (by simp [Value.oneCell']) (by simp only [maxLen]; omega) (by omega) (by simp; omega) ?_; intro v' w1 hown' hgrow _; have HR := Lib.hid (snoc_own (b := UInt8.ofNat (x.a.toNat / 1)) hown' (by simp only [UInt8.toNat_ofNat']; omega)); have HG : Hid (Below w.heap.size w w1) := HB2.out.trans (Ls.own_below HO2.out (Below.refl _ _) hgrow (by omega)); clear hown' hgrow)
          go_roundw
          case rel => exact ⟨0, bs ++ [UInt8.ofNat (x.a.toNat / 1)], by go_num, by omega, by rw [List.append_assoc]; exact HS.out, HR.out, HG.out⟩
          case measure => simp [intOf]
    · obtain rfl : k = 3 := hk3
      clear hk
      rw [show ((3 : Nat) : Int) = 3 from rfl]
      have ix := idx5_3 (.int .i64 x.n) (.int .i64 x.c) (.int .i64 x.a) (.int .i64 x.f) (.int .i64 x.t)
      go_wp2
      go_loopw [4, 7] (fun v j wq => ∃ r : Nat, ∃ bs : List UInt8, j = .int .i64 ((r : Int) - 1) ∧ r ≤ 4 ∧ bs ++ beN x.f.toNat r = pkT x 4 ∧ wq.ownsRow w.heap.size 5 1 v bs.length (u8s bs) ∧ Below w.heap.size w wq) (fun _ j _ => (intOf j + 1).toNat)
      case atStart => exact ⟨4, pkT x 3, by simp, by omega, rfl, HO.out, HB.out⟩
      case round =>
        obtain ⟨r, bs, rfl, hr, hbs, hown2, hb2⟩ := hrel
        have hbl : bs.length ≤ 12 := by have := congrArg List.length hbs; have := (pkT_len x); simp only [List.length_append] at *; omega
        have HS := Lib.hid hbs
        have HO2 := Lib.hid hown2
        have HB2 := Lib.hid hb2
        have hsz2 := hb2.size
        clear hbs hown2 hb2
        rcases (by omega : r = 0 ∨ r = 1 ∨ r = 2 ∨ r = 3 ∨ r = 4) with hr0 | hr1 | hr2 | hr3 | hr4
        · subst hr0
          clear hr
          rw [show (((0 : Nat) : Int) - 1) = -1 from rfl]
          go_wp2
          go_roundw
          case rel => exact ⟨4, by go_num, by omega, by rw [← HS.out]; simpa [beN] using HO2.out, HB2.out⟩
          case measure => simp [intOf]
        · subst hr1
          clear hr
          rw [show (((1 : Nat) : Int) - 1) = 0 from rfl]
          go_wp2_with (at_builtin; refine wpList_append_own _ rfl _ _ 22 rfl w.heap.size 5 i0 (.int .u8 0) 1 1 Tryz.underlying22 hi hz0 hz1 hz2 rfl (by decide) _ bs.length (u8s bs) rfl (HO2.out.alloc _) ⟨wr.heap.size, 0, none⟩ 1 1 [_] rfl rfl (news1 _ _ _) (by simp [Value.oneCell']) (by simp only [maxLen]; omega) (by omega) (by simp; omega) ?_; intro v' w1 hown' hgrow _; have HR := Lib.hid (snoc_own (b := UInt8.ofNat (x.f.toNat / 1)) hown' (by simp only [UInt8.toNat_ofNat']; omega)); have HG : Hid (Below w.heap.size w w1) := HB2.out.trans (Ls.own_below HO2.out (Below.refl _ _) hgrow (by omega)); clear hown' hgrow)
          go_roundw
          case rel => exact ⟨0, bs ++ [UInt8.ofNat (x.f.toNat / 1)], by go_num, by omega, by rw [List.append_assoc]; exact HS.out, HR.out, HG.out⟩
          case measure => simp [intOf]
        · subst hr2
          clear hr
          rw [show (((2 : Nat) : Int) - 1) = 1 from rfl]
          go_wp2_with (at_builtin; refine wpList_append_own _ rfl _ _ 22 rfl w.heap.size 5 i0 (.int .u8 0) 1 1 Tryz.underlying22 hi hz0 hz1 hz2 rfl (by decide) _ bs.length (u8s bs) rfl (HO2.out.alloc _) ⟨wr.heap.size, 0, none⟩ 1 1 [_] rfl rfl (news1 _ _ _) (by simp [Value.oneCell']) (by simp only [maxLen]; omega) (by omega) (by simp; omega) ?_; intro v' w1 hown' hgrow _; have HR := Lib.hid (snoc_own (b := UInt8.ofNat (x.f.toNat / 256)) hown' (by simp only [UInt8.toNat_ofNat']; omega)); have HG : Hid (Below w.heap.size w w1) := HB2.out.trans (Ls.own_below HO2.out (Below.refl _ _) hgrow (by omega)); clear hown' hgrow)
          go_roundw
          case rel => exact ⟨1, bs ++ [UInt8.ofNat (x.f.toNat / 256)], by go_num, by omega, by rw [List.append_assoc]; exact HS.out, HR.out, HG.out⟩
          case measure => simp [intOf]
        · subst hr3
          clear hr
          rw [show (((3 : Nat) : Int) - 1) = 2 from rfl]
          go_wp2_with (at_builtin; refine wpList_append_own _ rfl _ _ 22 rfl w.heap.size 5 i0 (.int .u8 0) 1 1 Tryz.underlying22 hi hz0 hz1 hz2 rfl (by decide) _ bs.length (u8s bs) rfl (HO2.out.alloc _) ⟨wr.heap.size, 0, none⟩ 1 1 [_] rfl rfl (news1 _ _ _) (by simp [Value.oneCell']) (by simp only [maxLen]; omega) (by omega) (by simp; omega) ?_; intro v' w1 hown' hgrow _; have HR := Lib.hid (snoc_own (b := UInt8.ofNat (x.f.toNat / 65536)) hown' (by simp only [UInt8.toNat_ofNat']; omega)); have HG : Hid (Below w.heap.size w w1) := HB2.out.trans (Ls.own_below HO2.out (Below.refl _ _) hgrow (by omega)); clear hown' hgrow)
          go_roundw
          case rel => exact ⟨2, bs ++ [UInt8.ofNat (x.f.toNat / 65536)], by go_num, by omega, by rw [List.append_assoc]; exact HS.out, HR.out, HG.out⟩
          case measure => simp [intOf]
        · subst hr4
          clear hr
          rw [show (((4 : Nat) : Int) - 1) = 3 from rfl]
          go_wp2_with (at_builtin; refine wpList_append_own _ rfl _ _ 22 rfl w.heap.size 5 i0 (.int .u8 0) 1 1 Tryz.underlying22 hi hz0 hz1 hz2 rfl (by decide) _ bs.length (u8s bs) rfl (HO2.out.alloc _) ⟨wr.heap.size, 0, none⟩ 1 1 [_] rfl rfl (news1 _ _ _) (by simp [Value.oneCell']) (by simp only [maxLen]; omega) (by omega) (by simp; omega) ?_; intro v' w1 hown' hgrow _; have HR := Lib.hid (snoc_own (b := UInt8.ofNat (x.f.toNat / 16777216)) hown' (by simp only [UInt8.toNat_ofNat']; omega)); have HG : Hid (Below w.heap.size w w1) := HB2.out.trans (Ls.own_below HO2.out (Below.refl _ _) hgrow (by omega)); clear hown' hgrow)
          go_roundw
          case rel => exact ⟨3, bs ++ [UInt8.ofNat (x.f.toNat / 16777216)], by go_num, by omega, by rw [List.append_assoc]; exact HS.out, HR.out, HG.out⟩
          case measure => simp [intOf]
    · obtain rfl : k = 4 := hk4
      clear hk
      rw [show ((4 : Nat) : Int) = 4 from rfl]
      have ix := idx5_4 (.int .i64 x.n) (.int .i64 x.c) (.int .i64 x.a) (.int .i64 x.f) (.int .i64 x.t)
      go_wp2
      go_loopw [4, 7] (fun v j wq => ∃ r : Nat, ∃ bs : List UInt8, j = .int .i64 ((r : Int) - 1) ∧ r ≤ 2 ∧ bs ++ beN x.t.toNat r = pkT x 5 ∧ wq.ownsRow w.heap.size 5 1 v bs.length (u8s bs) ∧ Below w.heap.size w wq) (fun _ j _ => (intOf j + 1).toNat)
      case atStart => exact ⟨2, pkT x 4, by simp, by omega, rfl, HO.out, HB.out⟩
      case round =>
        obtain ⟨r, bs, rfl, hr, hbs, hown2, hb2⟩ := hrel
        have hbl : bs.length ≤ 12 := by have := congrArg List.length hbs; have := (pkT_len x); simp only [List.length_append] at *; omega
        have HS := Lib.hid hbs
        have HO2 := Lib.hid hown2
        have HB2 := Lib.hid hb2
        have hsz2 := hb2.size
        clear hbs hown2 hb2
        rcases (by omega : r = 0 ∨ r = 1 ∨ r = 2) with hr0 | hr1 | hr2
        · subst hr0
          clear hr
          rw [show (((0 : Nat) : Int) - 1) = -1 from rfl]
          go_wp2
          go_roundw
          case rel => exact ⟨5, by go_num, by omega, by rw [← HS.out]; simpa [beN] using HO2.out, HB2.out⟩
          case measure => simp [intOf]
        · subst hr1
          clear hr
          rw [show (((1 : Nat) : Int) - 1) = 0 from rfl]
          go_wp2_with (at_builtin; refine wpList_append_own _ rfl _ _ 22 rfl w.heap.size 5 i0 (.int .u8 0) 1 1 Tryz.underlying22 hi hz0 hz1 hz2 rfl (by decide) _ bs.length (u8s bs) rfl (HO2.out.alloc _) ⟨wr.heap.size, 0, none⟩ 1 1 [_] rfl rfl (news1 _ _ _) (by simp [Value.oneCell']) (by simp only [maxLen]; omega) (by omega) (by simp; omega) ?_; intro v' w1 hown' hgrow _; have HR := Lib.hid (snoc_own (b := UInt8.ofNat (x.t.toNat / 1)) hown' (by simp only [UInt8.toNat_ofNat']; omega)); have HG : Hid (Below w.heap.size w w1) := HB2.out.trans (Ls.own_below HO2.out (Below.refl _ _) hgrow (by omega)); clear hown' hgrow)
          go_roundw
          case rel => exact ⟨0, bs ++ [UInt8.ofNat (x.t.toNat / 1)], by go_num, by omega, by rw [List.append_assoc]; exact HS.out, HR.out, HG.out⟩
          case measure => simp [intOf]
        · subst hr2
          clear hr
          rw [show (((2 : Nat) : Int) - 1) = 1 from rfl]
          go_wp2_with (at_builtin; refine wpList_append_own _ rfl _ _ 22 rfl w.heap.size 5 i0 (.int .u8 0) 1 1 Tryz.underlying22 hi hz0 hz1 hz2 rfl (by decide) _ bs.length (u8s bs) rfl (HO2.out.alloc _) ⟨wr.heap.size, 0, none⟩ 1 1 [_] rfl rfl (news1 _ _ _) (by simp [Value.oneCell']) (by simp only [maxLen]; omega) (by omega) (by simp; omega) ?_; intro v' w1 hown' hgrow _; have HR := Lib.hid (snoc_own (b := UInt8.ofNat (x.t.toNat / 256)) hown' (by simp only [UInt8.toNat_ofNat']; omega)); have HG : Hid (Below w.heap.size w w1) := HB2.out.trans (Ls.own_below HO2.out (Below.refl _ _) hgrow (by omega)); clear hown' hgrow)
          go_roundw
          case rel => exact ⟨1, bs ++ [UInt8.ofNat (x.t.toNat / 256)], by go_num, by omega, by rw [List.append_assoc]; exact HS.out, HR.out, HG.out⟩
          case measure => simp [intOf]
    · obtain rfl : k = 5 := hk5
      rw [show ((5 : Nat) : Int) = 5 from rfl]
      go_wp2
      go_ret
      exact ⟨_, rfl, by have := HO.out; rw [pkT_all] at this; rw [packL_length] at this; exact this, HB.out⟩
end Go.Proofs.YthebojaminploaaGreatDoor

/- vault.unpack: the lease that some bytes are. -/
set_option maxRecDepth 100000
set_option linter.unusedVariables false
set_option linter.unusedSimpArgs false
namespace Go.Proofs.YthebojaminploaaGreatDoor
open Go.RowKit Go.Sort Go.Shelf

/-- the number in r bytes from o on -/
def nU (d : Rec) (o : Nat) : Nat → Nat
  | 0 => 0
  | r + 1 => nU d o r * 256 + (d.getD (o + r) 0).toNat
theorem nU_lt (d : Rec) (o r : Nat) : nU d o r < 256 ^ r := by
  induction r with
  | zero => simp [nU]
  | succ r ih =>
    have := (d.getD (o + r) 0).toNat_lt
    rw [nU, Nat.pow_succ]
    omega
theorem or64 (nn : Nat) (b : UInt8) (h : nn < 16777216) : bits BinOp.or IntKind.i64 ((nn : Int) * 256) (wrap64 (b.toNat : Int)) = ((nn * 256 + b.toNat : Nat) : Int) := by
  have hb := b.toNat_lt
  rw [IntWalk.wrap64_in _ (by omega)]
  show IntKind.i64.wrap ((BitVec.ofInt 64 ((nn : Int) * 256) ||| BitVec.ofInt 64 (b.toNat : Int)).toNat : Int) = _
  have e1 : (BitVec.ofInt 64 ((nn : Int) * 256)).toNat = 2 ^ 8 * nn := by
    rw [show ((nn : Int) * 256) = ((2 ^ 8 * nn : Nat) : Int) by omega, BitVec.ofInt_natCast, BitVec.toNat_ofNat]; exact Nat.mod_eq_of_lt (by omega)
  have e2 : (BitVec.ofInt 64 (b.toNat : Int)).toNat = b.toNat := by
    rw [BitVec.ofInt_natCast, BitVec.toNat_ofNat]; exact Nat.mod_eq_of_lt (by omega)
  rw [BitVec.toNat_or, e1, e2, ← Nat.two_pow_add_eq_or_of_lt hb, IntWalk.i64_in _ (by omega)]
  omega
theorem nU_next (d : Rec) (o r : Nat) (h : o + r < d.length) : nU d o r * 256 + d[o + r].toNat = nU d o (r + 1) := by
  rw [nU, List.getD_eq_getElem?_getD, List.getElem?_eq_getElem h]; rfl
theorem unp_nU (d : Rec) : unpL d = ⟨(nU d 0 4 : Int), (nU d 4 1 : Int), (nU d 5 1 : Int), (nU d 6 4 : Int), (nU d 10 2 : Int)⟩ := by
  simp only [unpL, nU, num4, Nat.zero_mul, Nat.zero_add, Nat.add_zero]
  congr 1 <;> simp <;> omega
def arrU (d : Rec) : Nat → Array Value
  | 0 => #[.int .i64 0, .int .i64 0, .int .i64 0, .int .i64 0, .int .i64 0]
  | 1 => #[.int .i64 (nU d 0 4 : Int), .int .i64 0, .int .i64 0, .int .i64 0, .int .i64 0]
  | 2 => #[.int .i64 (nU d 0 4 : Int), .int .i64 (nU d 4 1 : Int), .int .i64 0, .int .i64 0, .int .i64 0]
  | 3 => #[.int .i64 (nU d 0 4 : Int), .int .i64 (nU d 4 1 : Int), .int .i64 (nU d 5 1 : Int), .int .i64 0, .int .i64 0]
  | 4 => #[.int .i64 (nU d 0 4 : Int), .int .i64 (nU d 4 1 : Int), .int .i64 (nU d 5 1 : Int), .int .i64 (nU d 6 4 : Int), .int .i64 0]
  | _ => #[.int .i64 (nU d 0 4 : Int), .int .i64 (nU d 4 1 : Int), .int .i64 (nU d 5 1 : Int), .int .i64 (nU d 6 4 : Int), .int .i64 (nU d 10 2 : Int)]
def offU : Nat → Nat
  | 0 => 0
  | 1 => 4
  | 2 => 5
  | 3 => 6
  | 4 => 10
  | _ => 12
set_option maxHeartbeats 1000000 in
theorem vunpack_yes (d : Rec) (A : Option Addr) (c : Nat) (w : World) (hd : d.length = 12) (hD : RdB w w.heap.size A d) (hW : Wd w) :
    Calls Tryz.prog 28 #[.slice A d.length c] w fun e w' => e = .returned (.tuple #[.agg #[.int .i64 (unpL d).n, .int .i64 (unpL d).c, .int .i64 (unpL d).a, .int .i64 (unpL d).f, .int .i64 (unpL d).t], .bool true]) ∧ Below w.heap.size w w' := by
  have HW := Lib.hid hW
  have HD := Lib.hid hD
  have hd1 : d.length ≤ 12 := by omega
  have hd2 : 12 ≤ d.length := by omega
  have e0 : ((d.length : Int) != 12) = false := by rw [hd]; rfl
  clear hW hD hd
  go_enter Tryz.func28, Tryz.ntmps28
  obtain ⟨g00, g0, g1, g2, g3, g4⟩ := HW.out
  go_wp2
  go_loopw [5, 13] (fun at_ i wr => ∃ k : Nat, i = .int .i64 (k : Int) ∧ k ≤ 5 ∧ at_ = .int .i64 (offU k : Int) ∧ Bk wr (w.heap.size + 1) 69 (arrU d k) ∧ Bk wr w.heap.size 26 #[.int .i64 0, .int .i64 0, .int .i64 0, .int .i64 0, .int .i64 0] ∧ Below w.heap.size w wr) (fun _ i _ => 5 - (intOf i).toNat)
  case atStart => exact ⟨0, rfl, by omega, rfl, bkOf (by simp [at?_alloc, arrU]), bkOf (by simp [at?_alloc]), al2 _ _ _⟩
  case round =>
    clear g0 g1 g2 g3 g4
    obtain ⟨k, rfl, hk, rfl, hn, hz, hb⟩ := hrel
    have HN := Lib.hid hn
    have HZ := Lib.hid hz
    have HB := Lib.hid hb
    have hsz := hb.size
    clear hn hz hb
    rcases (by omega : k = 0 ∨ k = 1 ∨ k = 2 ∨ k = 3 ∨ k = 4 ∨ k = 5) with hk0 | hk1 | hk2 | hk3 | hk4 | hk5
    · subst hk0
      clear hk
      rw [show ((0 : Nat) : Int) = 0 from rfl, show (((offU 0 : Nat)) : Int) = 0 from rfl]
      have ix := idx5_0 (.int .i64 4) (.int .i64 1) (.int .i64 1) (.int .i64 4) (.int .i64 2)
      go_wp2
      go_loopw [5, 18] (fun at_ j wq => ∃ r : Nat, j = .int .i64 (r : Int) ∧ r ≤ 4 ∧ at_ = .int .i64 ((0 : Int) + r) ∧ Bk wq (w.heap.size + 1) 69 #[.int .i64 (nU d 0 r : Int), .int .i64 0, .int .i64 0, .int .i64 0, .int .i64 0] ∧ Bk wq w.heap.size 26 #[.int .i64 0, .int .i64 0, .int .i64 0, .int .i64 0, .int .i64 0] ∧ Below w.heap.size w wq) (fun _ j _ => 4 - (intOf j).toNat)
      case atStart => exact ⟨0, rfl, by omega, by rfl, HN.out, HZ.out, HB.out⟩
      case round =>
        obtain ⟨r, rfl, hr, rfl, hn2, hz2, hb2⟩ := hrel
        have HN2 := Lib.hid hn2
        have HZ2 := Lib.hid hz2
        have HB2 := Lib.hid hb2
        have hsz2 := hb2.size
        clear hn2 hz2 hb2
        rcases (by omega : r = 0 ∨ r = 1 ∨ r = 2 ∨ r = 3 ∨ r = 4) with hr0 | hr1 | hr2 | hr3 | hr4
        · subst hr0
          clear hr
          rw [show ((0 : Nat) : Int) = 0 from rfl]
          rw [show ((0 : Int) + 0) = 0 from rfl]
          obtain ⟨b, o, rfl, hbb, hcell⟩ := (HD.out.below HB2.out).at_ (by omega : 0 < d.length)
          rw [Nat.add_zero] at hcell
          have hp : 0 < d.length := by omega
          obtain ⟨c0, c1, c2, c3, c4⟩ := box5 HN2.out
          have f := HN2.out.frozen 0
          have lt := HN2.out.lt
          have nl := nU_lt d 0 0
          obtain ⟨nn, hnn⟩ : ∃ nn, nn = nU d 0 0 := ⟨_, rfl⟩
          rw [← hnn] at c0 nl
          have HNN := Lib.hid hnn
          clear hnn
          go_wp2
          go_region
          go_wp2_with fail
          have hv : bits BinOp.or IntKind.i64 ((nn : Int) * 256) (wrap64 (d[0].toNat : Int)) = ((nU d 0 1 : Nat) : Int) := by
            rw [or64 nn d[0] (by omega)]
            rw [HNN.out]
            exact congrArg _ (nU_next d 0 0 (by omega))
          refine ⟨⟨1, by rfl, by omega, by rfl, ?_, ?_, ?_⟩, by simp [intOf]⟩
          · have := (HN2.out.set 0 (.int .i64 (nU d 0 1 : Int))).drew
            simpa [hv] using this
          · exact (HZ2.out.far (p := ⟨w.heap.size + 1, 0, none⟩) (by show (w.heap.size : Nat) ≠ w.heap.size + 1; omega) _).drew
          · exact (HB2.out.setCell (p := ⟨w.heap.size + 1, 0, none⟩) (by show (w.heap.size : Nat) ≤ w.heap.size + 1; omega) _).drew
        · subst hr1
          clear hr
          rw [show ((1 : Nat) : Int) = 1 from rfl]
          rw [show ((0 : Int) + 1) = 1 from rfl]
          obtain ⟨b, o, rfl, hbb, hcell⟩ := (HD.out.below HB2.out).at_ (by omega : 1 < d.length)
          obtain ⟨c0, c1, c2, c3, c4⟩ := box5 HN2.out
          have f := HN2.out.frozen 0
          have lt := HN2.out.lt
          have nl := nU_lt d 0 1
          obtain ⟨nn, hnn⟩ : ∃ nn, nn = nU d 0 1 := ⟨_, rfl⟩
          rw [← hnn] at c0 nl
          have HNN := Lib.hid hnn
          clear hnn
          go_wp2
          go_region
          go_wp2_with fail
          have hv : bits BinOp.or IntKind.i64 ((nn : Int) * 256) (wrap64 (d[1].toNat : Int)) = ((nU d 0 2 : Nat) : Int) := by
            rw [or64 nn d[1] (by omega)]
            rw [HNN.out]
            exact congrArg _ (nU_next d 0 1 (by omega))
          refine ⟨⟨2, by rfl, by omega, by rfl, ?_, ?_, ?_⟩, by simp [intOf]⟩
          · have := (HN2.out.set 0 (.int .i64 (nU d 0 2 : Int))).drew
            simpa [hv] using this
          · exact (HZ2.out.far (p := ⟨w.heap.size + 1, 0, none⟩) (by show (w.heap.size : Nat) ≠ w.heap.size + 1; omega) _).drew
          · exact (HB2.out.setCell (p := ⟨w.heap.size + 1, 0, none⟩) (by show (w.heap.size : Nat) ≤ w.heap.size + 1; omega) _).drew
        · subst hr2
          clear hr
          rw [show ((2 : Nat) : Int) = 2 from rfl]
          rw [show ((0 : Int) + 2) = 2 from rfl]
          obtain ⟨b, o, rfl, hbb, hcell⟩ := (HD.out.below HB2.out).at_ (by omega : 2 < d.length)
          obtain ⟨c0, c1, c2, c3, c4⟩ := box5 HN2.out
          have f := HN2.out.frozen 0
          have lt := HN2.out.lt
          have nl := nU_lt d 0 2
          obtain ⟨nn, hnn⟩ : ∃ nn, nn = nU d 0 2 := ⟨_, rfl⟩
          rw [← hnn] at c0 nl
          have HNN := Lib.hid hnn
          clear hnn
          go_wp2
          go_region
          go_wp2_with fail
          have hv : bits BinOp.or IntKind.i64 ((nn : Int) * 256) (wrap64 (d[2].toNat : Int)) = ((nU d 0 3 : Nat) : Int) := by
            rw [or64 nn d[2] (by omega)]
            rw [HNN.out]
            exact congrArg _ (nU_next d 0 2 (by omega))
          refine ⟨⟨3, by rfl, by omega, by rfl, ?_, ?_, ?_⟩, by simp [intOf]⟩
          · have := (HN2.out.set 0 (.int .i64 (nU d 0 3 : Int))).drew
            simpa [hv] using this
          · exact (HZ2.out.far (p := ⟨w.heap.size + 1, 0, none⟩) (by show (w.heap.size : Nat) ≠ w.heap.size + 1; omega) _).drew
          · exact (HB2.out.setCell (p := ⟨w.heap.size + 1, 0, none⟩) (by show (w.heap.size : Nat) ≤ w.heap.size + 1; omega) _).drew
        · subst hr3
          clear hr
          rw [show ((3 : Nat) : Int) = 3 from rfl]
          rw [show ((0 : Int) + 3) = 3 from rfl]
          obtain ⟨b, o, rfl, hbb, hcell⟩ := (HD.out.below HB2.out).at_ (by omega : 3 < d.length)
          obtain ⟨c0, c1, c2, c3, c4⟩ := box5 HN2.out
          have f := HN2.out.frozen 0
          have lt := HN2.out.lt
          have nl := nU_lt d 0 3
          obtain ⟨nn, hnn⟩ : ∃ nn, nn = nU d 0 3 := ⟨_, rfl⟩
          rw [← hnn] at c0 nl
          have HNN := Lib.hid hnn
          clear hnn
          go_wp2
          go_region
          go_wp2_with fail
          have hv : bits BinOp.or IntKind.i64 ((nn : Int) * 256) (wrap64 (d[3].toNat : Int)) = ((nU d 0 4 : Nat) : Int) := by
            rw [or64 nn d[3] (by omega)]
            rw [HNN.out]
            exact congrArg _ (nU_next d 0 3 (by omega))
          refine ⟨⟨4, by rfl, by omega, by rfl, ?_, ?_, ?_⟩, by simp [intOf]⟩
          · have := (HN2.out.set 0 (.int .i64 (nU d 0 4 : Int))).drew
            simpa [hv] using this
          · exact (HZ2.out.far (p := ⟨w.heap.size + 1, 0, none⟩) (by show (w.heap.size : Nat) ≠ w.heap.size + 1; omega) _).drew
          · exact (HB2.out.setCell (p := ⟨w.heap.size + 1, 0, none⟩) (by show (w.heap.size : Nat) ≤ w.heap.size + 1; omega) _).drew
        · subst hr4
          clear hr
          rw [show ((4 : Nat) : Int) = 4 from rfl]
          rw [show ((0 : Int) + 4) = 4 from rfl]
          go_wp2
          go_roundw
          case rel => exact ⟨1, by go_num, by omega, by rfl, HN2.out, HZ2.out, HB2.out⟩
          case measure => simp [intOf]
    · subst hk1
      clear hk
      rw [show ((1 : Nat) : Int) = 1 from rfl, show (((offU 1 : Nat)) : Int) = 4 from rfl]
      have ix := idx5_1 (.int .i64 4) (.int .i64 1) (.int .i64 1) (.int .i64 4) (.int .i64 2)
      go_wp2
      go_loopw [5, 18] (fun at_ j wq => ∃ r : Nat, j = .int .i64 (r : Int) ∧ r ≤ 1 ∧ at_ = .int .i64 ((4 : Int) + r) ∧ Bk wq (w.heap.size + 1) 69 #[.int .i64 (nU d 0 4 : Int), .int .i64 (nU d 4 r : Int), .int .i64 0, .int .i64 0, .int .i64 0] ∧ Bk wq w.heap.size 26 #[.int .i64 0, .int .i64 0, .int .i64 0, .int .i64 0, .int .i64 0] ∧ Below w.heap.size w wq) (fun _ j _ => 1 - (intOf j).toNat)
      case atStart => exact ⟨0, rfl, by omega, by rfl, HN.out, HZ.out, HB.out⟩
      case round =>
        obtain ⟨r, rfl, hr, rfl, hn2, hz2, hb2⟩ := hrel
        have HN2 := Lib.hid hn2
        have HZ2 := Lib.hid hz2
        have HB2 := Lib.hid hb2
        have hsz2 := hb2.size
        clear hn2 hz2 hb2
        rcases (by omega : r = 0 ∨ r = 1) with hr0 | hr1
        · subst hr0
          clear hr
          rw [show ((0 : Nat) : Int) = 0 from rfl]
          rw [show ((4 : Int) + 0) = 4 from rfl]
          obtain ⟨b, o, rfl, hbb, hcell⟩ := (HD.out.below HB2.out).at_ (by omega : 4 < d.length)
          obtain ⟨c0, c1, c2, c3, c4⟩ := box5 HN2.out
          have f := HN2.out.frozen 1
          have lt := HN2.out.lt
          have nl := nU_lt d 4 0
          obtain ⟨nn, hnn⟩ : ∃ nn, nn = nU d 4 0 := ⟨_, rfl⟩
          rw [← hnn] at c1 nl
          have HNN := Lib.hid hnn
          clear hnn
          go_wp2
          go_region
          go_wp2_with fail
          have hv : bits BinOp.or IntKind.i64 ((nn : Int) * 256) (wrap64 (d[4].toNat : Int)) = ((nU d 4 1 : Nat) : Int) := by
            rw [or64 nn d[4] (by omega)]
            rw [HNN.out]
            exact congrArg _ (nU_next d 4 0 (by omega))
          refine ⟨⟨1, by rfl, by omega, by rfl, ?_, ?_, ?_⟩, by simp [intOf]⟩
          · have := (HN2.out.set 1 (.int .i64 (nU d 4 1 : Int))).drew
            simpa [hv] using this
          · exact (HZ2.out.far (p := ⟨w.heap.size + 1, 1, none⟩) (by show (w.heap.size : Nat) ≠ w.heap.size + 1; omega) _).drew
          · exact (HB2.out.setCell (p := ⟨w.heap.size + 1, 1, none⟩) (by show (w.heap.size : Nat) ≤ w.heap.size + 1; omega) _).drew
        · subst hr1
          clear hr
          rw [show ((1 : Nat) : Int) = 1 from rfl]
          rw [show ((4 : Int) + 1) = 5 from rfl]
          go_wp2
          go_roundw
          case rel => exact ⟨2, by go_num, by omega, by rfl, HN2.out, HZ2.out, HB2.out⟩
          case measure => simp [intOf]
    · subst hk2
      clear hk
      rw [show ((2 : Nat) : Int) = 2 from rfl, show (((offU 2 : Nat)) : Int) = 5 from rfl]
      have ix := idx5_2 (.int .i64 4) (.int .i64 1) (.int .i64 1) (.int .i64 4) (.int .i64 2)
      go_wp2
      go_loopw [5, 18] (fun at_ j wq => ∃ r : Nat, j = .int .i64 (r : Int) ∧ r ≤ 1 ∧ at_ = .int .i64 ((5 : Int) + r) ∧ Bk wq (w.heap.size + 1) 69 #[.int .i64 (nU d 0 4 : Int), .int .i64 (nU d 4 1 : Int), .int .i64 (nU d 5 r : Int), .int .i64 0, .int .i64 0] ∧ Bk wq w.heap.size 26 #[.int .i64 0, .int .i64 0, .int .i64 0, .int .i64 0, .int .i64 0] ∧ Below w.heap.size w wq) (fun _ j _ => 1 - (intOf j).toNat)
      case atStart => exact ⟨0, rfl, by omega, by rfl, HN.out, HZ.out, HB.out⟩
      case round =>
        obtain ⟨r, rfl, hr, rfl, hn2, hz2, hb2⟩ := hrel
        have HN2 := Lib.hid hn2
        have HZ2 := Lib.hid hz2
        have HB2 := Lib.hid hb2
        have hsz2 := hb2.size
        clear hn2 hz2 hb2
        rcases (by omega : r = 0 ∨ r = 1) with hr0 | hr1
        · subst hr0
          clear hr
          rw [show ((0 : Nat) : Int) = 0 from rfl]
          rw [show ((5 : Int) + 0) = 5 from rfl]
          obtain ⟨b, o, rfl, hbb, hcell⟩ := (HD.out.below HB2.out).at_ (by omega : 5 < d.length)
          obtain ⟨c0, c1, c2, c3, c4⟩ := box5 HN2.out
          have f := HN2.out.frozen 2
          have lt := HN2.out.lt
          have nl := nU_lt d 5 0
          obtain ⟨nn, hnn⟩ : ∃ nn, nn = nU d 5 0 := ⟨_, rfl⟩
          rw [← hnn] at c2 nl
          have HNN := Lib.hid hnn
          clear hnn
          go_wp2
          go_region
          go_wp2_with fail
          have hv : bits BinOp.or IntKind.i64 ((nn : Int) * 256) (wrap64 (d[5].toNat : Int)) = ((nU d 5 1 : Nat) : Int) := by
            rw [or64 nn d[5] (by omega)]
            rw [HNN.out]
            exact congrArg _ (nU_next d 5 0 (by omega))
          refine ⟨⟨1, by rfl, by omega, by rfl, ?_, ?_, ?_⟩, by simp [intOf]⟩
          · have := (HN2.out.set 2 (.int .i64 (nU d 5 1 : Int))).drew
            simpa [hv] using this
          · exact (HZ2.out.far (p := ⟨w.heap.size + 1, 2, none⟩) (by show (w.heap.size : Nat) ≠ w.heap.size + 1; omega) _).drew
          · exact (HB2.out.setCell (p := ⟨w.heap.size + 1, 2, none⟩) (by show (w.heap.size : Nat) ≤ w.heap.size + 1; omega) _).drew
        · subst hr1
          clear hr
          rw [show ((1 : Nat) : Int) = 1 from rfl]
          rw [show ((5 : Int) + 1) = 6 from rfl]
          go_wp2
          go_roundw
          case rel => exact ⟨3, by go_num, by omega, by rfl, HN2.out, HZ2.out, HB2.out⟩
          case measure => simp [intOf]
    · subst hk3
      clear hk
      rw [show ((3 : Nat) : Int) = 3 from rfl, show (((offU 3 : Nat)) : Int) = 6 from rfl]
      have ix := idx5_3 (.int .i64 4) (.int .i64 1) (.int .i64 1) (.int .i64 4) (.int .i64 2)
      go_wp2
      go_loopw [5, 18] (fun at_ j wq => ∃ r : Nat, j = .int .i64 (r : Int) ∧ r ≤ 4 ∧ at_ = .int .i64 ((6 : Int) + r) ∧ Bk wq (w.heap.size + 1) 69 #[.int .i64 (nU d 0 4 : Int), .int .i64 (nU d 4 1 : Int), .int .i64 (nU d 5 1 : Int), .int .i64 (nU d 6 r : Int), .int .i64 0] ∧ Bk wq w.heap.size 26 #[.int .i64 0, .int .i64 0, .int .i64 0, .int .i64 0, .int .i64 0] ∧ Below w.heap.size w wq) (fun _ j _ => 4 - (intOf j).toNat)
      case atStart => exact ⟨0, rfl, by omega, by rfl, HN.out, HZ.out, HB.out⟩
      case round =>
        obtain ⟨r, rfl, hr, rfl, hn2, hz2, hb2⟩ := hrel
        have HN2 := Lib.hid hn2
        have HZ2 := Lib.hid hz2
        have HB2 := Lib.hid hb2
        have hsz2 := hb2.size
        clear hn2 hz2 hb2
        rcases (by omega : r = 0 ∨ r = 1 ∨ r = 2 ∨ r = 3 ∨ r = 4) with hr0 | hr1 | hr2 | hr3 | hr4
        · subst hr0
          clear hr
          rw [show ((0 : Nat) : Int) = 0 from rfl]
          rw [show ((6 : Int) + 0) = 6 from rfl]
          obtain ⟨b, o, rfl, hbb, hcell⟩ := (HD.out.below HB2.out).at_ (by omega : 6 < d.length)
          obtain ⟨c0, c1, c2, c3, c4⟩ := box5 HN2.out
          have f := HN2.out.frozen 3
          have lt := HN2.out.lt
          have nl := nU_lt d 6 0
          obtain ⟨nn, hnn⟩ : ∃ nn, nn = nU d 6 0 := ⟨_, rfl⟩
          rw [← hnn] at c3 nl
          have HNN := Lib.hid hnn
          clear hnn
          go_wp2
          go_region
          go_wp2_with fail
          have hv : bits BinOp.or IntKind.i64 ((nn : Int) * 256) (wrap64 (d[6].toNat : Int)) = ((nU d 6 1 : Nat) : Int) := by
            rw [or64 nn d[6] (by omega)]
            rw [HNN.out]
            exact congrArg _ (nU_next d 6 0 (by omega))
          refine ⟨⟨1, by rfl, by omega, by rfl, ?_, ?_, ?_⟩, by simp [intOf]⟩
          · have := (HN2.out.set 3 (.int .i64 (nU d 6 1 : Int))).drew
            simpa [hv] using this
          · exact (HZ2.out.far (p := ⟨w.heap.size + 1, 3, none⟩) (by show (w.heap.size : Nat) ≠ w.heap.size + 1; omega) _).drew
          · exact (HB2.out.setCell (p := ⟨w.heap.size + 1, 3, none⟩) (by show (w.heap.size : Nat) ≤ w.heap.size + 1; omega) _).drew
        · subst hr1
          clear hr
          rw [show ((1 : Nat) : Int) = 1 from rfl]
          rw [show ((6 : Int) + 1) = 7 from rfl]
          obtain ⟨b, o, rfl, hbb, hcell⟩ := (HD.out.below HB2.out).at_ (by omega : 7 < d.length)
          obtain ⟨c0, c1, c2, c3, c4⟩ := box5 HN2.out
          have f := HN2.out.frozen 3
          have lt := HN2.out.lt
          have nl := nU_lt d 6 1
          obtain ⟨nn, hnn⟩ : ∃ nn, nn = nU d 6 1 := ⟨_, rfl⟩
          rw [← hnn] at c3 nl
          have HNN := Lib.hid hnn
          clear hnn
          go_wp2
          go_region
          go_wp2_with fail
          have hv : bits BinOp.or IntKind.i64 ((nn : Int) * 256) (wrap64 (d[7].toNat : Int)) = ((nU d 6 2 : Nat) : Int) := by
            rw [or64 nn d[7] (by omega)]
            rw [HNN.out]
            exact congrArg _ (nU_next d 6 1 (by omega))
          refine ⟨⟨2, by rfl, by omega, by rfl, ?_, ?_, ?_⟩, by simp [intOf]⟩
          · have := (HN2.out.set 3 (.int .i64 (nU d 6 2 : Int))).drew
            simpa [hv] using this
          · exact (HZ2.out.far (p := ⟨w.heap.size + 1, 3, none⟩) (by show (w.heap.size : Nat) ≠ w.heap.size + 1; omega) _).drew
          · exact (HB2.out.setCell (p := ⟨w.heap.size + 1, 3, none⟩) (by show (w.heap.size : Nat) ≤ w.heap.size + 1; omega) _).drew
        · subst hr2
          clear hr
          rw [show ((2 : Nat) : Int) = 2 from rfl]
          rw [show ((6 : Int) + 2) = 8 from rfl]
          obtain ⟨b, o, rfl, hbb, hcell⟩ := (HD.out.below HB2.out).at_ (by omega : 8 < d.length)
          obtain ⟨c0, c1, c2, c3, c4⟩ := box5 HN2.out
          have f := HN2.out.frozen 3
          have lt := HN2.out.lt
          have nl := nU_lt d 6 2
          obtain ⟨nn, hnn⟩ : ∃ nn, nn = nU d 6 2 := ⟨_, rfl⟩
          rw [← hnn] at c3 nl
          have HNN := Lib.hid hnn
          clear hnn
          go_wp2
          go_region
          go_wp2_with fail
          have hv : bits BinOp.or IntKind.i64 ((nn : Int) * 256) (wrap64 (d[8].toNat : Int)) = ((nU d 6 3 : Nat) : Int) := by
            rw [or64 nn d[8] (by omega)]
            rw [HNN.out]
            exact congrArg _ (nU_next d 6 2 (by omega))
          refine ⟨⟨3, by rfl, by omega, by rfl, ?_, ?_, ?_⟩, by simp [intOf]⟩
          · have := (HN2.out.set 3 (.int .i64 (nU d 6 3 : Int))).drew
            simpa [hv] using this
          · exact (HZ2.out.far (p := ⟨w.heap.size + 1, 3, none⟩) (by show (w.heap.size : Nat) ≠ w.heap.size + 1; omega) _).drew
          · exact (HB2.out.setCell (p := ⟨w.heap.size + 1, 3, none⟩) (by show (w.heap.size : Nat) ≤ w.heap.size + 1; omega) _).drew
        · subst hr3
          clear hr
          rw [show ((3 : Nat) : Int) = 3 from rfl]
          rw [show ((6 : Int) + 3) = 9 from rfl]
          obtain ⟨b, o, rfl, hbb, hcell⟩ := (HD.out.below HB2.out).at_ (by omega : 9 < d.length)
          obtain ⟨c0, c1, c2, c3, c4⟩ := box5 HN2.out
          have f := HN2.out.frozen 3
          have lt := HN2.out.lt
          have nl := nU_lt d 6 3
          obtain ⟨nn, hnn⟩ : ∃ nn, nn = nU d 6 3 := ⟨_, rfl⟩
          rw [← hnn] at c3 nl
          have HNN := Lib.hid hnn
          clear hnn
          go_wp2
          go_region
          go_wp2_with fail
          have hv : bits BinOp.or IntKind.i64 ((nn : Int) * 256) (wrap64 (d[9].toNat : Int)) = ((nU d 6 4 : Nat) : Int) := by
            rw [or64 nn d[9] (by omega)]
            rw [HNN.out]
            exact congrArg _ (nU_next d 6 3 (by omega))
          refine ⟨⟨4, by rfl, by omega, by rfl, ?_, ?_, ?_⟩, by simp [intOf]⟩
          · have := (HN2.out.set 3 (.int .i64 (nU d 6 4 : Int))).drew
            simpa [hv] using this
          · exact (HZ2.out.far (p := ⟨w.heap.size + 1, 3, none⟩) (by show (w.heap.size : Nat) ≠ w.heap.size + 1; omega) _).drew
          · exact (HB2.out.setCell (p := ⟨w.heap.size + 1, 3, none⟩) (by show (w.heap.size : Nat) ≤ w.heap.size + 1; omega) _).drew
        · subst hr4
          clear hr
          rw [show ((4 : Nat) : Int) = 4 from rfl]
          rw [show ((6 : Int) + 4) = 10 from rfl]
          go_wp2
          go_roundw
          case rel => exact ⟨4, by go_num, by omega, by rfl, HN2.out, HZ2.out, HB2.out⟩
          case measure => simp [intOf]
    · subst hk4
      clear hk
      rw [show ((4 : Nat) : Int) = 4 from rfl, show (((offU 4 : Nat)) : Int) = 10 from rfl]
      have ix := idx5_4 (.int .i64 4) (.int .i64 1) (.int .i64 1) (.int .i64 4) (.int .i64 2)
      go_wp2
      go_loopw [5, 18] (fun at_ j wq => ∃ r : Nat, j = .int .i64 (r : Int) ∧ r ≤ 2 ∧ at_ = .int .i64 ((10 : Int) + r) ∧ Bk wq (w.heap.size + 1) 69 #[.int .i64 (nU d 0 4 : Int), .int .i64 (nU d 4 1 : Int), .int .i64 (nU d 5 1 : Int), .int .i64 (nU d 6 4 : Int), .int .i64 (nU d 10 r : Int)] ∧ Bk wq w.heap.size 26 #[.int .i64 0, .int .i64 0, .int .i64 0, .int .i64 0, .int .i64 0] ∧ Below w.heap.size w wq) (fun _ j _ => 2 - (intOf j).toNat)
      case atStart => exact ⟨0, rfl, by omega, by rfl, HN.out, HZ.out, HB.out⟩
      case round =>
        obtain ⟨r, rfl, hr, rfl, hn2, hz2, hb2⟩ := hrel
        have HN2 := Lib.hid hn2
        have HZ2 := Lib.hid hz2
        have HB2 := Lib.hid hb2
        have hsz2 := hb2.size
        clear hn2 hz2 hb2
        rcases (by omega : r = 0 ∨ r = 1 ∨ r = 2) with hr0 | hr1 | hr2
        · subst hr0
          clear hr
          rw [show ((0 : Nat) : Int) = 0 from rfl]
          rw [show ((10 : Int) + 0) = 10 from rfl]
          obtain ⟨b, o, rfl, hbb, hcell⟩ := (HD.out.below HB2.out).at_ (by omega : 10 < d.length)
          obtain ⟨c0, c1, c2, c3, c4⟩ := box5 HN2.out
          have f := HN2.out.frozen 4
          have lt := HN2.out.lt
          have nl := nU_lt d 10 0
          obtain ⟨nn, hnn⟩ : ∃ nn, nn = nU d 10 0 := ⟨_, rfl⟩
          rw [← hnn] at c4 nl
          have HNN := Lib.hid hnn
          clear hnn
          go_wp2
          go_region
          go_wp2_with fail
          have hv : bits BinOp.or IntKind.i64 ((nn : Int) * 256) (wrap64 (d[10].toNat : Int)) = ((nU d 10 1 : Nat) : Int) := by
            rw [or64 nn d[10] (by omega)]
            rw [HNN.out]
            exact congrArg _ (nU_next d 10 0 (by omega))
          refine ⟨⟨1, by rfl, by omega, by rfl, ?_, ?_, ?_⟩, by simp [intOf]⟩
          · have := (HN2.out.set 4 (.int .i64 (nU d 10 1 : Int))).drew
            simpa [hv] using this
          · exact (HZ2.out.far (p := ⟨w.heap.size + 1, 4, none⟩) (by show (w.heap.size : Nat) ≠ w.heap.size + 1; omega) _).drew
          · exact (HB2.out.setCell (p := ⟨w.heap.size + 1, 4, none⟩) (by show (w.heap.size : Nat) ≤ w.heap.size + 1; omega) _).drew
        · subst hr1
          clear hr
          rw [show ((1 : Nat) : Int) = 1 from rfl]
          rw [show ((10 : Int) + 1) = 11 from rfl]
          obtain ⟨b, o, rfl, hbb, hcell⟩ := (HD.out.below HB2.out).at_ (by omega : 11 < d.length)
          obtain ⟨c0, c1, c2, c3, c4⟩ := box5 HN2.out
          have f := HN2.out.frozen 4
          have lt := HN2.out.lt
          have nl := nU_lt d 10 1
          obtain ⟨nn, hnn⟩ : ∃ nn, nn = nU d 10 1 := ⟨_, rfl⟩
          rw [← hnn] at c4 nl
          have HNN := Lib.hid hnn
          clear hnn
          go_wp2
          go_region
          go_wp2_with fail
          have hv : bits BinOp.or IntKind.i64 ((nn : Int) * 256) (wrap64 (d[11].toNat : Int)) = ((nU d 10 2 : Nat) : Int) := by
            rw [or64 nn d[11] (by omega)]
            rw [HNN.out]
            exact congrArg _ (nU_next d 10 1 (by omega))
          refine ⟨⟨2, by rfl, by omega, by rfl, ?_, ?_, ?_⟩, by simp [intOf]⟩
          · have := (HN2.out.set 4 (.int .i64 (nU d 10 2 : Int))).drew
            simpa [hv] using this
          · exact (HZ2.out.far (p := ⟨w.heap.size + 1, 4, none⟩) (by show (w.heap.size : Nat) ≠ w.heap.size + 1; omega) _).drew
          · exact (HB2.out.setCell (p := ⟨w.heap.size + 1, 4, none⟩) (by show (w.heap.size : Nat) ≤ w.heap.size + 1; omega) _).drew
        · subst hr2
          clear hr
          rw [show ((2 : Nat) : Int) = 2 from rfl]
          rw [show ((10 : Int) + 2) = 12 from rfl]
          go_wp2
          go_roundw
          case rel => exact ⟨5, by go_num, by omega, by rfl, HN2.out, HZ2.out, HB2.out⟩
          case measure => simp [intOf]
    · subst hk5
      clear hk
      rw [show ((5 : Nat) : Int) = 5 from rfl, show (((offU 5 : Nat)) : Int) = 12 from rfl]
      obtain ⟨c0, c1, c2, c3, c4⟩ := box5 HN.out
      obtain ⟨z0, z1, z2, z3, z4⟩ := box5 HZ.out
      have f0 := HZ.out.frozen 0
      have f1 := HZ.out.frozen 1
      have f2 := HZ.out.frozen 2
      have f3 := HZ.out.frozen 3
      have f4 := HZ.out.frozen 4
      go_wp2
      obtain ⟨X, hX⟩ : ∃ Zz, Zz = (((((wr.setCell ⟨w.heap.size, 0, none⟩ (.int .i64 (nU d 0 4 : Int))).setCell ⟨w.heap.size, 1, none⟩ (.int .i64 (nU d 4 1 : Int))).setCell ⟨w.heap.size, 2, none⟩ (.int .i64 (nU d 5 1 : Int))).setCell ⟨w.heap.size, 3, none⟩ (.int .i64 (nU d 6 4 : Int))).setCell ⟨w.heap.size, 4, none⟩ (.int .i64 (nU d 10 2 : Int))) := ⟨_, rfl⟩
      rw [← hX]
      have zk : Bk X w.heap.size 26 #[.int .i64 (nU d 0 4 : Int), .int .i64 (nU d 4 1 : Int), .int .i64 (nU d 5 1 : Int), .int .i64 (nU d 6 4 : Int), .int .i64 (nU d 10 2 : Int)] := by
        rw [hX]
        have := (((((HZ.out.set 0 (.int .i64 (nU d 0 4 : Int))).set 1 (.int .i64 (nU d 4 1 : Int))).set 2 (.int .i64 (nU d 5 1 : Int))).set 3 (.int .i64 (nU d 6 4 : Int))).set 4 (.int .i64 (nU d 10 2 : Int)))
        simpa using this
      have hbX : Below w.heap.size w X := by
        rw [hX]
        exact (((((HB.out.setCell (p := ⟨w.heap.size, 0, none⟩) (Nat.le_refl _) _).setCell (p := ⟨w.heap.size, 1, none⟩) (Nat.le_refl _) _).setCell (p := ⟨w.heap.size, 2, none⟩) (Nat.le_refl _) _).setCell (p := ⟨w.heap.size, 3, none⟩) (Nat.le_refl _) _).setCell (p := ⟨w.heap.size, 4, none⟩) (Nat.le_refl _) _)
      obtain ⟨q0, q1, q2, q3, q4⟩ := box5 zk
      clear hX
      refine bodyPost_ret (v := .tuple #[.agg #[.int .i64 (nU d 0 4 : Int), .int .i64 (nU d 4 1 : Int), .int .i64 (nU d 5 1 : Int), .int .i64 (nU d 6 4 : Int), .int .i64 (nU d 10 2 : Int)], .bool true]) (by simp [results, Tryz.results28, go_sem, q0, q1, q2, q3, q4]) rfl ⟨by rw [unp_nU], hbX⟩
set_option maxHeartbeats 1000000 in
theorem vunpack_no (d : Rec) (A : Option Addr) (c : Nat) (w : World) (hd : d.length ≠ 12) :
    Calls Tryz.prog 28 #[.slice A d.length c] w fun e w' => e = .returned (.tuple #[.agg #[.int .i64 0, .int .i64 0, .int .i64 0, .int .i64 0, .int .i64 0], .bool false]) ∧ Below w.heap.size w w' := by
  have e0 : ((d.length : Int) != 12) = true := by rw [bne_iff_ne]; omega
  clear hd
  go_enter Tryz.func28, Tryz.ntmps28
  go_wp2
  refine bodyPost_ret (v := .tuple #[.agg #[.int .i64 0, .int .i64 0, .int .i64 0, .int .i64 0, .int .i64 0], .bool false]) (by simp [results, Tryz.results28, go_sem]) rfl ⟨rfl, al1 _ _⟩
end Go.Proofs.YthebojaminploaaGreatDoor
