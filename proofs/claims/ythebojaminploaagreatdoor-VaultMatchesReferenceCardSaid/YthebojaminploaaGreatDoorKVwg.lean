/- The law VaultMatchesReference, walked. -/
import Derived.Test.YthebojaminploaaGreatDoorKVh
import Derived.Test.YthebojaminploaaGreatDoorKVyh
import Derived.BigQuiet
set_option maxRecDepth 100000
set_option linter.unusedVariables false
set_option linter.unusedSimpArgs false
namespace Go.Proofs.YthebojaminploaaGreatDoor
open Go.RowKit Go.Sort Go.Shelf

theorem Same_b (b : Bool) (l1 l2 : List Lea) (A1 A2 : Option Addr) (c1 c2 : Nat) (w : World) (h : eqLs l1 l2 = b) (h1 : RdL w w.heap.size A1 l1) (h2 : RdL w w.heap.size A2 l2) (n1 : l1.length ≤ 1000000000) (n2 : l2.length ≤ 1000000000) :
    Calls Tryz.prog 14 #[.slice A1 l1.length c1, .slice A2 l2.length c2] w fun e w' => e = .returned (.bool b) ∧ Below w.heap.size w w' := by
  subst h; exact Ls.rSame_any l1 l2 A1 A2 c1 c2 w h1 h2 n1 n2
theorem load_len64 (m : Mem) : (loadL m).length ≤ 64 := by
  by_cases h : loadE m = 0
  · have := (load_len h).2; omega
  · rw [load_none h]; simp
theorem sto_small (m : Mem) (x : Lea) (tick : Int) : (stoM m x tick).length ≤ 1000000000 ∧ ∀ y ∈ stoM m x tick, y.2.length ≤ 1000000000 := by
  by_cases h : stoE m x tick = 0
  · obtain ⟨L, F, z, af, hs⟩ := sto_of h
    obtain ⟨e, h1, h2⟩ := hs.ok
    refine ⟨by omega, fun y hy => ?_⟩
    obtain ⟨k, hk, rfl⟩ := List.getElem_of_mem hy
    have := (hs.at_ k hk).1
    omega
  · rw [sto_bad h]; simp
theorem fmt_small : (fmtM 512 4).2.length ≤ 1000000000 := by
  have := (fmt_ok fmt_vault.1).2.1; omega
theorem Same_2 (m : Mem) (A1 A2 : Option Addr) (c1 c2 : Nat) (w : World) (n1 : m.2.length ≤ 1000000000) (h1 : RdB w w.heap.size A1 m.2) (h2 : RdB w w.heap.size A2 m.2) :
    Calls Tryz.prog 15 #[.agg #[.int .i64 m.1, .slice A1 m.2.length c1], .agg #[.int .i64 m.1, .slice A2 m.2.length c2]] w fun e w' => e = .returned (.bool true) ∧ Below w.heap.size w w' := by
  have h := Same_any m m A1 A2 c1 c2 w h1 h2 n1 n1
  rwa [show eqM m m = true from by simp [eqM]] at h
theorem SameList_2 (l : List Mem) (n : Nat) (hn : l.length = n) (hs : l.length ≤ 1000000000 ∧ ∀ x ∈ l, x.2.length ≤ 1000000000) (A1 A2 : Option Addr) (c1 c2 : Nat) (w : World) (h1 : RdFs w w.heap.size A1 l) (h2 : RdFs w w.heap.size A2 l) :
    Calls Tryz.prog 13 #[.slice A1 n c1, .slice A2 n c2] w fun e w' => e = .returned (.bool true) ∧ Below w.heap.size w w' := by
  subst hn
  have h := SameList_any l l A1 A2 c1 c2 w h1 h2 hs.1 hs.1 hs.2 hs.2
  rwa [show eqMs l l = true from by simp [eqMs]] at h
theorem rvStore_lit (N : Nat) (E : Int) (m : Mem) (x : Lea) (tick : Int) (A : Option Addr) (c : Nat) (w : World) (hN : (stoM m x tick).length = N) (hE : stoE m x tick = E) (hA : RdB w w.heap.size A m.2) (hc : m.2.length ≤ c) :
    Calls Tryz.prog 6 #[.agg #[.int .i64 m.1, .slice A m.2.length c], .agg #[.int .i64 x.n, .int .i64 x.c, .int .i64 x.a, .int .i64 x.f, .int .i64 x.t], .int .i64 tick] w fun e w' => ∃ A c, e = .returned (.tuple #[.slice A N c, .int .i64 E]) ∧ N ≤ c ∧ RdFs w' w'.heap.size A (stoM m x tick) ∧ Below w.heap.size w w' := by
  subst hN; subst hE; exact rvStore_any m x tick A c w hA hc
theorem rvLoad_n (N : Nat) (L : List Lea) (E : Int) (m : Mem) (A : Option Addr) (c : Nat) (w : World) (hN : L.length = N) (hL : loadL m = L) (hE : loadE m = E) (hA : RdB w w.heap.size A m.2) (hc : m.2.length ≤ c) :
    Calls Tryz.prog 8 #[.agg #[.int .i64 m.1, .slice A m.2.length c]] w fun e w' => ∃ A c, e = .returned (.tuple #[.slice A N c, .int .i64 E]) ∧ N ≤ c ∧ RdL w' w'.heap.size A L ∧ Below w.heap.size w w' := by
  subst hN; exact rvLoad_lit L E m A c w hL hE hA hc
theorem rNext_lit (N E : Int) (m : Mem) (A : Option Addr) (c : Nat) (w : World) (hN : nextN m = N) (hE : nextE m = E) (hA : RdB w w.heap.size A m.2) (hc : m.2.length ≤ c) :
    Calls Tryz.prog 10 #[.agg #[.int .i64 m.1, .slice A m.2.length c]] w fun e w' => e = .returned (.tuple #[.int .i64 N, .int .i64 E]) ∧ Below w.heap.size w w' := by
  subst hN; subst hE; exact rNext_any m A c w hA hc
theorem rvFormat_lit (M : Mem) (E : Int) (w : World) (hM : fmtM 512 4 = M) (hE : fmtE 512 4 = E) :
    Calls Tryz.prog 12 #[] w fun e w' => ∃ A c, e = .returned (.tuple #[.agg #[.int .i64 M.1, .slice A M.2.length c], .int .i64 E]) ∧ M.2.length ≤ c ∧ RdB w' w'.heap.size A M.2 ∧ Below w.heap.size w w' := by
  subst hM; subst hE; exact rvFormat_any w
set_option maxHeartbeats 4000000 in
theorem VaultMatchesReference_walk (m : Mem) (x : Lea) (tick : Int) (A : Option Addr) (c : Nat) (w : World) (hW : Wd w) (hA : RdB w w.heap.size A m.2) (hc : m.2.length ≤ c) :
    Calls Tryz.prog 3 #[.agg #[.int .i64 m.1, .slice A m.2.length c], .agg #[.int .i64 x.n, .int .i64 x.c, .int .i64 x.a, .int .i64 x.f, .int .i64 x.t], .int .i64 tick] w fun e w' => e = .returned (.bool true) ∧ Below w.heap.size w w' := by
  have F_W := Lib.hid hW
  have F_m := Lib.hid hA
  have HB := Lib.hid (Below.refl w.heap.size w)
  clear hW hA
  obtain ⟨M0, hM0⟩ : ∃ z, fmtM 512 4 = z := ⟨_, rfl⟩
  have HM0 := Lib.hid hM0
  obtain ⟨E0, hE0⟩ : ∃ z, fmtE 512 4 = z := ⟨_, rfl⟩
  have HE0 := Lib.hid hE0
  obtain ⟨N1, hN1⟩ : ∃ z, (stoM m x tick).length = z := ⟨_, rfl⟩
  have HN1 := Lib.hid hN1
  obtain ⟨E1, hE1⟩ : ∃ z, stoE m x tick = z := ⟨_, rfl⟩
  have HE1 := Lib.hid hE1
  obtain ⟨LL, hLL⟩ : ∃ z, loadL m = z := ⟨_, rfl⟩
  have HLL := Lib.hid hLL
  obtain ⟨E2, hE2⟩ : ∃ z, loadE m = z := ⟨_, rfl⟩
  have HE2 := Lib.hid hE2
  obtain ⟨N3, hN3⟩ : ∃ z, nextN m = z := ⟨_, rfl⟩
  have HN3 := Lib.hid hN3
  obtain ⟨E3, hE3⟩ : ∃ z, nextE m = z := ⟨_, rfl⟩
  have HE3 := Lib.hid hE3
  have hMl := fmt_small
  rw [hM0] at hMl
  have HML := Lib.hid hMl
  have hll : LL.length ≤ 64 := by rw [← hLL]; exact load_len64 m
  clear hMl hM0 hE0 hN1 hE1 hLL hE2 hN3 hE3
  go_enter Tryz.func3, Tryz.ntmps3
  go_wp2_with fail
  refine (head_any _ (F_W.out.next (al2 _ _ _))).mono ?_
  rintro e V1 ⟨rfl, hb⟩
  have hB := bt hb (al2 w _ _)
  have K_f : Hid (Bk V1 (w.heap.size) 24 #[.int .i64 m.1, .slice A m.2.length c]) := Bk.next (by first | exact Bk.new _ _ _ | exact (Bk.new _ _ _).alloc _ | exact ((Bk.new _ _ _).alloc _).alloc _ | exact bkOf (by simp [at?_alloc])) hb
  have K_x : Hid (Bk V1 (w.heap.size + 1) 26 #[.int .i64 x.n, .int .i64 x.c, .int .i64 x.a, .int .i64 x.f, .int .i64 x.t]) := Bk.next (by first | exact Bk.new _ _ _ | exact (Bk.new _ _ _).alloc _ | exact ((Bk.new _ _ _).alloc _).alloc _ | exact bkOf (by simp [at?_alloc])) hb
  replace F_W := Lib.hid (F_W.out.next hB)
  replace F_m := Lib.hid (F_m.out.next hB)
  replace HB := Lib.hid (bt hB HB.out)
  clear hb hB
  by_cases hbig : 2048 < m.2.length
  · have q0 : (2048 : Int) < (m.2.length : Int) := by omega
    obtain ⟨c_f0, c_f1⟩ := box2 K_f.out
    have l_f := K_f.out.lt
    obtain ⟨c_x0, c_x1, c_x2, c_x3, c_x4⟩ := box5 K_x.out
    have l_x := K_x.out.lt
    go_wp2
    go_ret
    exact ⟨rfl, HB.out⟩
  · have q0 : ¬ (2048 : Int) < (m.2.length : Int) := by omega
    obtain ⟨c_f0, c_f1⟩ := box2 K_f.out
    have l_f := K_f.out.lt
    obtain ⟨c_x0, c_x1, c_x2, c_x3, c_x4⟩ := box5 K_x.out
    have l_x := K_x.out.lt
    go_wp2_with fail
    clear c_f0 c_f1 l_f
    clear c_x0 c_x1 c_x2 c_x3 c_x4 l_x
    refine (Store_lit N1 E1 m x tick A c _ HN1.out HE1.out F_m.out hc F_W.out).mono ?_
    rintro e V2 ⟨A1, c1, rfl, hc1, r1, hb⟩
    have hB := hb
    replace F_W := Lib.hid (F_W.out.next hB)
    replace F_m := Lib.hid (F_m.out.next hB)
    replace K_f := Lib.hid (K_f.out.next hB)
    replace K_x := Lib.hid (K_x.out.next hB)
    replace HB := Lib.hid (bt hB HB.out)
    clear hb hB
    have F_1 := Lib.hid (r1)
    clear r1
    obtain ⟨c_f0, c_f1⟩ := box2 K_f.out
    have l_f := K_f.out.lt
    obtain ⟨c_x0, c_x1, c_x2, c_x3, c_x4⟩ := box5 K_x.out
    have l_x := K_x.out.lt
    go_wp2_with fail
    clear c_f0 c_f1 l_f
    clear c_x0 c_x1 c_x2 c_x3 c_x4 l_x
    refine (rvStore_lit N1 E1 m x tick A c _ HN1.out HE1.out F_m.out hc).mono ?_
    rintro e V3 ⟨A2, c2, rfl, hc2, r2, hb⟩
    have hB := hb
    replace F_W := Lib.hid (F_W.out.next hB)
    replace F_m := Lib.hid (F_m.out.next hB)
    replace F_1 := Lib.hid (F_1.out.next hB)
    replace K_f := Lib.hid (K_f.out.next hB)
    replace K_x := Lib.hid (K_x.out.next hB)
    replace HB := Lib.hid (bt hB HB.out)
    clear hb hB
    have F_2 := Lib.hid (r2)
    clear r2
    obtain ⟨c_f0, c_f1⟩ := box2 K_f.out
    have l_f := K_f.out.lt
    obtain ⟨c_x0, c_x1, c_x2, c_x3, c_x4⟩ := box5 K_x.out
    have l_x := K_x.out.lt
    go_wp2_with fail
    clear c_f0 c_f1 l_f
    clear c_x0 c_x1 c_x2 c_x3 c_x4 l_x
    refine (Load_lit LL E2 m A c _ HLL.out HE2.out F_m.out hc F_W.out).mono ?_
    rintro e V4 ⟨A3, c3, rfl, hc3, r3, hb⟩
    have hB := hb
    replace F_W := Lib.hid (F_W.out.next hB)
    replace F_m := Lib.hid (F_m.out.next hB)
    replace F_1 := Lib.hid (F_1.out.next hB)
    replace F_2 := Lib.hid (F_2.out.next hB)
    replace K_f := Lib.hid (K_f.out.next hB)
    replace K_x := Lib.hid (K_x.out.next hB)
    replace HB := Lib.hid (bt hB HB.out)
    clear hb hB
    have F_3 := Lib.hid (r3)
    clear r3
    obtain ⟨c_f0, c_f1⟩ := box2 K_f.out
    have l_f := K_f.out.lt
    obtain ⟨c_x0, c_x1, c_x2, c_x3, c_x4⟩ := box5 K_x.out
    have l_x := K_x.out.lt
    go_wp2_with fail
    clear c_f0 c_f1 l_f
    clear c_x0 c_x1 c_x2 c_x3 c_x4 l_x
    refine (rvLoad_lit LL E2 m A c _ HLL.out HE2.out F_m.out hc).mono ?_
    rintro e V5 ⟨A4, c4, rfl, hc4, r4, hb⟩
    have hB := hb
    replace F_W := Lib.hid (F_W.out.next hB)
    replace F_m := Lib.hid (F_m.out.next hB)
    replace F_1 := Lib.hid (F_1.out.next hB)
    replace F_2 := Lib.hid (F_2.out.next hB)
    replace F_3 := Lib.hid (F_3.out.next hB)
    replace K_f := Lib.hid (K_f.out.next hB)
    replace K_x := Lib.hid (K_x.out.next hB)
    replace HB := Lib.hid (bt hB HB.out)
    clear hb hB
    have F_4 := Lib.hid (r4)
    clear r4
    obtain ⟨c_f0, c_f1⟩ := box2 K_f.out
    have l_f := K_f.out.lt
    obtain ⟨c_x0, c_x1, c_x2, c_x3, c_x4⟩ := box5 K_x.out
    have l_x := K_x.out.lt
    go_wp2_with fail
    clear c_f0 c_f1 l_f
    clear c_x0 c_x1 c_x2 c_x3 c_x4 l_x
    refine (Next_lit N3 E3 m A c _ HN3.out HE3.out F_m.out hc F_W.out).mono ?_
    rintro e V6 ⟨rfl, hb⟩
    have hB := hb
    replace F_W := Lib.hid (F_W.out.next hB)
    replace F_m := Lib.hid (F_m.out.next hB)
    replace F_1 := Lib.hid (F_1.out.next hB)
    replace F_2 := Lib.hid (F_2.out.next hB)
    replace F_3 := Lib.hid (F_3.out.next hB)
    replace F_4 := Lib.hid (F_4.out.next hB)
    replace K_f := Lib.hid (K_f.out.next hB)
    replace K_x := Lib.hid (K_x.out.next hB)
    replace HB := Lib.hid (bt hB HB.out)
    clear hb hB
    obtain ⟨c_f0, c_f1⟩ := box2 K_f.out
    have l_f := K_f.out.lt
    obtain ⟨c_x0, c_x1, c_x2, c_x3, c_x4⟩ := box5 K_x.out
    have l_x := K_x.out.lt
    go_wp2_with fail
    clear c_f0 c_f1 l_f
    clear c_x0 c_x1 c_x2 c_x3 c_x4 l_x
    refine (rNext_lit N3 E3 m A c _ HN3.out HE3.out F_m.out hc).mono ?_
    rintro e V7 ⟨rfl, hb⟩
    have hB := hb
    replace F_W := Lib.hid (F_W.out.next hB)
    replace F_m := Lib.hid (F_m.out.next hB)
    replace F_1 := Lib.hid (F_1.out.next hB)
    replace F_2 := Lib.hid (F_2.out.next hB)
    replace F_3 := Lib.hid (F_3.out.next hB)
    replace F_4 := Lib.hid (F_4.out.next hB)
    replace K_f := Lib.hid (K_f.out.next hB)
    replace K_x := Lib.hid (K_x.out.next hB)
    replace HB := Lib.hid (bt hB HB.out)
    clear hb hB
    obtain ⟨c_f0, c_f1⟩ := box2 K_f.out
    have l_f := K_f.out.lt
    obtain ⟨c_x0, c_x1, c_x2, c_x3, c_x4⟩ := box5 K_x.out
    have l_x := K_x.out.lt
    go_wp2_with fail
    clear c_f0 c_f1 l_f
    clear c_x0 c_x1 c_x2 c_x3 c_x4 l_x
    refine (vFormat_lit M0 E0 _ HM0.out HE0.out).mono ?_
    rintro e V8 ⟨A5, c5, rfl, hc5, r5, hb⟩
    have hB := hb
    replace F_W := Lib.hid (F_W.out.next hB)
    replace F_m := Lib.hid (F_m.out.next hB)
    replace F_1 := Lib.hid (F_1.out.next hB)
    replace F_2 := Lib.hid (F_2.out.next hB)
    replace F_3 := Lib.hid (F_3.out.next hB)
    replace F_4 := Lib.hid (F_4.out.next hB)
    replace K_f := Lib.hid (K_f.out.next hB)
    replace K_x := Lib.hid (K_x.out.next hB)
    replace HB := Lib.hid (bt hB HB.out)
    clear hb hB
    have F_5 := Lib.hid (r5)
    clear r5
    obtain ⟨c_f0, c_f1⟩ := box2 K_f.out
    have l_f := K_f.out.lt
    obtain ⟨c_x0, c_x1, c_x2, c_x3, c_x4⟩ := box5 K_x.out
    have l_x := K_x.out.lt
    go_wp2_with fail
    clear c_f0 c_f1 l_f
    clear c_x0 c_x1 c_x2 c_x3 c_x4 l_x
    refine (rvFormat_lit M0 E0 _ HM0.out HE0.out).mono ?_
    rintro e V9 ⟨A6, c6, rfl, hc6, r6, hb⟩
    have hB := bt hb (al1 V8 _)
    have K_p : Hid (Bk V9 (V8.heap.size) 24 #[.int .i64 M0.1, .slice A5 M0.2.length c5]) := Bk.next (by first | exact Bk.new _ _ _ | exact (Bk.new _ _ _).alloc _ | exact ((Bk.new _ _ _).alloc _).alloc _ | exact bkOf (by simp [at?_alloc])) hb
    replace F_W := Lib.hid (F_W.out.next hB)
    replace F_m := Lib.hid (F_m.out.next hB)
    replace F_1 := Lib.hid (F_1.out.next hB)
    replace F_2 := Lib.hid (F_2.out.next hB)
    replace F_3 := Lib.hid (F_3.out.next hB)
    replace F_4 := Lib.hid (F_4.out.next hB)
    replace F_5 := Lib.hid (F_5.out.next hB)
    replace K_f := Lib.hid (K_f.out.next hB)
    replace K_x := Lib.hid (K_x.out.next hB)
    replace HB := Lib.hid (bt hB HB.out)
    clear hb hB
    have F_6 := Lib.hid (r6)
    clear r6
    obtain ⟨c_f0, c_f1⟩ := box2 K_f.out
    have l_f := K_f.out.lt
    obtain ⟨c_x0, c_x1, c_x2, c_x3, c_x4⟩ := box5 K_x.out
    have l_x := K_x.out.lt
    obtain ⟨c_p0, c_p1⟩ := box2 K_p.out
    have l_p := K_p.out.lt
    go_wp2_with fail
    clear c_f0 c_f1 l_f
    clear c_x0 c_x1 c_x2 c_x3 c_x4 l_x
    clear c_p0 c_p1 l_p
    refine (SameList_2 (stoM m x tick) N1 HN1.out (sto_small m x tick) A1 A2 c1 c2 _ (F_1.out.next (al1 _ _)) (F_2.out.next (al1 _ _))).mono ?_
    rintro e V10 ⟨rfl, hb⟩
    have hB := bt hb (al1 V9 _)
    have K_q : Hid (Bk V10 (V9.heap.size) 24 #[.int .i64 M0.1, .slice A6 M0.2.length c6]) := Bk.next (by first | exact Bk.new _ _ _ | exact (Bk.new _ _ _).alloc _ | exact ((Bk.new _ _ _).alloc _).alloc _ | exact bkOf (by simp [at?_alloc])) hb
    replace F_W := Lib.hid (F_W.out.next hB)
    replace F_m := Lib.hid (F_m.out.next hB)
    replace F_1 := Lib.hid (F_1.out.next hB)
    replace F_2 := Lib.hid (F_2.out.next hB)
    replace F_3 := Lib.hid (F_3.out.next hB)
    replace F_4 := Lib.hid (F_4.out.next hB)
    replace F_5 := Lib.hid (F_5.out.next hB)
    replace F_6 := Lib.hid (F_6.out.next hB)
    replace K_f := Lib.hid (K_f.out.next hB)
    replace K_x := Lib.hid (K_x.out.next hB)
    replace K_p := Lib.hid (K_p.out.next hB)
    replace HB := Lib.hid (bt hB HB.out)
    clear hb hB
    obtain ⟨c_f0, c_f1⟩ := box2 K_f.out
    have l_f := K_f.out.lt
    obtain ⟨c_x0, c_x1, c_x2, c_x3, c_x4⟩ := box5 K_x.out
    have l_x := K_x.out.lt
    obtain ⟨c_p0, c_p1⟩ := box2 K_p.out
    have l_p := K_p.out.lt
    obtain ⟨c_q0, c_q1⟩ := box2 K_q.out
    have l_q := K_q.out.lt
    go_wp2_with fail
    clear c_f0 c_f1 l_f
    clear c_x0 c_x1 c_x2 c_x3 c_x4 l_x
    clear c_p0 c_p1 l_p
    clear c_q0 c_q1 l_q
    refine (Same_b true LL LL A3 A4 c3 c4 _ ((eqLs_iff _ _).2 rfl) F_3.out F_4.out (by omega) (by omega)).mono ?_
    rintro e V11 ⟨rfl, hb⟩
    have hB := hb
    replace F_W := Lib.hid (F_W.out.next hB)
    replace F_m := Lib.hid (F_m.out.next hB)
    replace F_1 := Lib.hid (F_1.out.next hB)
    replace F_2 := Lib.hid (F_2.out.next hB)
    replace F_3 := Lib.hid (F_3.out.next hB)
    replace F_4 := Lib.hid (F_4.out.next hB)
    replace F_5 := Lib.hid (F_5.out.next hB)
    replace F_6 := Lib.hid (F_6.out.next hB)
    replace K_f := Lib.hid (K_f.out.next hB)
    replace K_x := Lib.hid (K_x.out.next hB)
    replace K_p := Lib.hid (K_p.out.next hB)
    replace K_q := Lib.hid (K_q.out.next hB)
    replace HB := Lib.hid (bt hB HB.out)
    clear hb hB
    obtain ⟨c_f0, c_f1⟩ := box2 K_f.out
    have l_f := K_f.out.lt
    obtain ⟨c_x0, c_x1, c_x2, c_x3, c_x4⟩ := box5 K_x.out
    have l_x := K_x.out.lt
    obtain ⟨c_p0, c_p1⟩ := box2 K_p.out
    have l_p := K_p.out.lt
    obtain ⟨c_q0, c_q1⟩ := box2 K_q.out
    have l_q := K_q.out.lt
    go_wp2_with fail
    clear c_f0 c_f1 l_f
    clear c_x0 c_x1 c_x2 c_x3 c_x4 l_x
    clear c_p0 c_p1 l_p
    clear c_q0 c_q1 l_q
    refine (Same_2 M0 A5 A6 c5 c6 _ HML.out F_5.out F_6.out).mono ?_
    rintro e V12 ⟨rfl, hb⟩
    have hB := hb
    replace F_W := Lib.hid (F_W.out.next hB)
    replace F_m := Lib.hid (F_m.out.next hB)
    replace F_1 := Lib.hid (F_1.out.next hB)
    replace F_2 := Lib.hid (F_2.out.next hB)
    replace F_3 := Lib.hid (F_3.out.next hB)
    replace F_4 := Lib.hid (F_4.out.next hB)
    replace F_5 := Lib.hid (F_5.out.next hB)
    replace F_6 := Lib.hid (F_6.out.next hB)
    replace K_f := Lib.hid (K_f.out.next hB)
    replace K_x := Lib.hid (K_x.out.next hB)
    replace K_p := Lib.hid (K_p.out.next hB)
    replace K_q := Lib.hid (K_q.out.next hB)
    replace HB := Lib.hid (bt hB HB.out)
    clear hb hB
    obtain ⟨c_f0, c_f1⟩ := box2 K_f.out
    have l_f := K_f.out.lt
    obtain ⟨c_x0, c_x1, c_x2, c_x3, c_x4⟩ := box5 K_x.out
    have l_x := K_x.out.lt
    obtain ⟨c_p0, c_p1⟩ := box2 K_p.out
    have l_p := K_p.out.lt
    obtain ⟨c_q0, c_q1⟩ := box2 K_q.out
    have l_q := K_q.out.lt
    go_wp2
    go_ret
    exact ⟨rfl, HB.out⟩
end Go.Proofs.YthebojaminploaaGreatDoor
