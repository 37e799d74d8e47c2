/- The reference's Memory, Half, Generation, Area. -/
import Derived.Test.YthebojaminploaaGreatDoorKJN
set_option maxRecDepth 100000
set_option linter.unusedVariables false
set_option linter.unusedSimpArgs false
namespace Go.Proofs.YthebojaminploaaGreatDoor
open Go.RowKit Go.Sort Go.Shelf

theorem Half_any (s : Int) (A : Option Addr) (n c : Nat) (w : World) (hn : n ≤ 1000000) :
    Calls Tryz.prog 49 #[.agg #[.int .i64 s, .slice A n c]] w fun e w' => e = .returned (.int .i64 ((n / 2 : Nat) : Int)) ∧ Below w.heap.size w w' := by
  have h2 : ((n / 2 : Nat) : Int) = (n : Int) / 2 := by omega
  go_enter Tryz.func49, Tryz.ntmps49
  go_wp2
  go_ret
  exact ⟨by rw [h2]; rfl, al1 _ _⟩
theorem Memory_any (s : Int) (A : Option Addr) (n c : Nat) (w : World) :
    Calls Tryz.prog 58 #[.agg #[.int .i64 s, .slice A n c]] w fun e w' => e = .returned (.bool (jvB s n)) ∧ Below w.heap.size w w' := by
  by_cases hv : validB s n = true
  · obtain ⟨v1, v2, v3, v4, v5⟩ := (valid_iff s n).1 hv
    have hdv : (n : Int) / s ≤ 4096 := Int.le_trans (Int.ediv_le_self _ (by omega)) (by omega)
    have hd0 : 0 ≤ (n : Int) / s := Int.ediv_nonneg (by omega) (by omega)
    by_cases h2 : (n : Int) / s % 2 = 0
    · by_cases h3 : 32 ≤ (n : Int)
      · have h2' : ((n : Int) / s % 2 == 0) = true := by simp [h2]
        have hj : jvB s n = true := by simp [jvB, hv, h2, h3]
        rw [hj]
        clear hj
        go_enter Tryz.func58, Tryz.ntmps58
        go_wp2_with fail
        refine (rValid_any s A n c _).mono ?_
        rintro e V ⟨rfl, hb⟩
        rw [hv]
        have K := Bk.next (Bk.new w 24 #[.int .i64 s, .slice A n c]) hb
        have hB := bt hb (al1 w _)
        obtain ⟨c0, c1⟩ := box2 K
        have HB := Lib.hid hB
        clear K hb hB
        go_wp2
        go_ret
        refine ⟨?_, HB.out⟩
        first | rfl | exact ret_bool (by simp; omega)
      · have h2' : ((n : Int) / s % 2 == 0) = true := by simp [h2]
        have hj : jvB s n = false := by simp [jvB, hv]; omega
        rw [hj]
        clear hj
        go_enter Tryz.func58, Tryz.ntmps58
        go_wp2_with fail
        refine (rValid_any s A n c _).mono ?_
        rintro e V ⟨rfl, hb⟩
        rw [hv]
        have K := Bk.next (Bk.new w 24 #[.int .i64 s, .slice A n c]) hb
        have hB := bt hb (al1 w _)
        obtain ⟨c0, c1⟩ := box2 K
        have HB := Lib.hid hB
        clear K hb hB
        go_wp2
        go_ret
        refine ⟨?_, HB.out⟩
        first | rfl | exact ret_bool (by simp; omega)
    · have h2' : ((n : Int) / s % 2 == 0) = false := by simp [h2]
      have hj : jvB s n = false := by simp [jvB, hv, h2]
      rw [hj]
      clear hj
      go_enter Tryz.func58, Tryz.ntmps58
      go_wp2_with fail
      refine (rValid_any s A n c _).mono ?_
      rintro e V ⟨rfl, hb⟩
      rw [hv]
      have K := Bk.next (Bk.new w 24 #[.int .i64 s, .slice A n c]) hb
      have hB := bt hb (al1 w _)
      obtain ⟨c0, c1⟩ := box2 K
      have HB := Lib.hid hB
      clear K hb hB
      go_wp2
      go_ret
      refine ⟨?_, HB.out⟩
      first | rfl | exact ret_bool (by simp; omega)
  · have hv : validB s n = false := by simpa using hv
    have hj : jvB s n = false := by simp [jvB, hv]
    rw [hj]
    clear hj
    go_enter Tryz.func58, Tryz.ntmps58
    go_wp2_with fail
    refine (rValid_any s A n c _).mono ?_
    rintro e V ⟨rfl, hb⟩
    rw [hv]
    have K := Bk.next (Bk.new w 24 #[.int .i64 s, .slice A n c]) hb
    have hB := bt hb (al1 w _)
    obtain ⟨c0, c1⟩ := box2 K
    have HB := Lib.hid hB
    clear K hb hB
    go_wp2
    go_ret
    refine ⟨?_, HB.out⟩
    first | rfl | exact ret_bool (by simp; omega)

def gN (b : List UInt8) : Nat → Nat
  | 0 => 0
  | i + 1 => 256 * gN b i + (b.getD (i + 1) 0).toNat
theorem gN_gen (b : List UInt8) : gN b 4 = genB b := by simp only [gN, genB, num4, Nat.zero_add, Nat.reduceAdd]; omega
theorem gN_lt (b : List UInt8) : ∀ i, i ≤ 3 → gN b i < 16777216 := by
  have h1 := (b.getD 1 0).toNat_lt
  have h2 := (b.getD 2 0).toNat_lt
  have h3 := (b.getD 3 0).toNat_lt
  intro i hi
  match i, hi with
  | 0, _ => simp [gN]
  | 1, _ => simp only [gN, Nat.zero_add, Nat.reduceAdd]; omega
  | 2, _ => simp only [gN, Nat.zero_add, Nat.reduceAdd]; omega
  | 3, _ => simp only [gN, Nat.zero_add, Nat.reduceAdd]; omega
theorem area_getD' (m : Mem) {a j : Nat} (hj : j < hf m) : (areaB m a).getD j 0 = m.2.getD (a * hf m + j) 0 := by
  unfold areaB
  exact getD_drop_take m.2 (a * hf m) (hf m) j hj
set_option maxHeartbeats 800000 in
theorem Generation_any (m : Mem) (a b o c : Nat) (w : World) (ha : a ≤ 1) (h32 : 32 ≤ m.2.length) (h4k : m.2.length ≤ 4096) (hc : m.2.length ≤ c) (hA : RdB w w.heap.size (some ⟨b, o, none⟩) m.2) :
    Calls Tryz.prog 55 #[.agg #[.int .i64 m.1, .slice (some ⟨b, o, none⟩) m.2.length c], .int .i64 (a : Int)] w fun e w' => e = .returned (.int .i64 (genB (areaB m a) : Int)) ∧ Below w.heap.size w w' := by
  have HA := Lib.hid hA
  clear hA
  go_enter Tryz.func55, Tryz.ntmps55
  go_wp2
  go_loopw [5, 6] (fun v i wr => ∃ k : Nat, v = .int .i64 (gN (areaB m a) k : Int) ∧ i = .int .i64 ((k : Int) + 1) ∧ k ≤ 4 ∧ Below (w.alloc (.cells #[.int .i64 m.1, .slice (some ⟨b, o, none⟩) m.2.length c] 24)).heap.size (w.alloc (.cells #[.int .i64 m.1, .slice (some ⟨b, o, none⟩) m.2.length c] 24)) wr) (fun _ i _ => 5 - (intOf i).toNat)
  case atStart => exact ⟨0, rfl, rfl, by omega, Below.refl _ _⟩
  case round =>
    obtain ⟨k, rfl, rfl, hk, hb⟩ := hrel
    have HB := Lib.hid hb
    clear hb
    by_cases hlt : k < 4
    · have hin : a * (m.2.length / 2) + (k + 1) < m.2.length := by
        have : a = 0 ∨ a = 1 := by omega
        rcases this with h | h <;> rw [h] <;> omega
      obtain ⟨b1, o1, e1, hb1, z1⟩ := ((HA.out.next (al1 _ _)).next HB.out).at_ hin
      obtain ⟨rfl, rfl⟩ : b = b1 ∧ o = o1 := by simpa using e1
      obtain ⟨x, hx⟩ : ∃ x, x = m.2[a * (m.2.length / 2) + (k + 1)] := ⟨_, rfl⟩
      rw [← hx] at z1
      have K2 := (Bk.new w 24 #[.int .i64 m.1, .slice (some ⟨b, o, none⟩) m.2.length c]).next HB.out
      obtain ⟨c0, c1⟩ := box2 K2
      obtain ⟨q, hq⟩ : ∃ q, q = a * (m.2.length / 2) := ⟨_, rfl⟩
      have hqI : (a : Int) * ((m.2.length / 2 : Nat) : Int) = (q : Int) := by rw [hq]; simp
      obtain ⟨p, hp⟩ : ∃ p, p = q + (k + 1) := ⟨_, rfl⟩
      have hpI : (q : Int) + ((k : Int) + 1) = (p : Int) := by omega
      rw [← hq, ← hp] at z1 hin
      have g1 : gN (areaB m a) k < 16777216 := gN_lt _ k (by omega)
      obtain ⟨g, hg⟩ : ∃ g, g = gN (areaB m a) k := ⟨_, rfl⟩
      rw [← hg] at g1 ⊢
      have x1 := x.toNat_lt
      have HG : Hid (256 * (g : Int) + (x.toNat : Int) = (gN (areaB m a) (k + 1) : Int)) := by
        show _ = _
        have e9 : (areaB m a).getD (k + 1) 0 = x := by
          rw [area_getD' m (by unfold hf; omega), hx]
          unfold hf
          rw [List.getD_eq_getElem?_getD, List.getElem?_eq_getElem (by rw [← hq, ← hp]; exact hin)]
          rfl
        rw [gN, e9, ← hg]; omega
      have wa : IntKind.i64.wrap (256 * (g : Int)) = 256 * (g : Int) := IntWalk.i64_in _ (by omega)
      have wb : IntKind.i64.wrap (q : Int) = (q : Int) := IntWalk.i64_in _ (by omega)
      have wc : IntKind.i64.wrap (p : Int) = (p : Int) := IntWalk.i64_in _ (by omega)
      have wd : IntKind.i64.wrap (256 * (g : Int) + (x.toNat : Int)) = 256 * (g : Int) + (x.toNat : Int) := IntWalk.i64_in _ (by omega)
      have p1 : (0 : Int) ≤ (p : Int) := by omega
      have p2 : (p : Int) < (m.2.length : Int) := by omega
      have HHC : Hid (∀ W, Calls Tryz.prog 49 #[.agg #[.int .i64 m.1, .slice (some ⟨b, o, none⟩) m.2.length c]] W fun e w' => e = .returned (.int .i64 ((m.2.length / 2 : Nat) : Int)) ∧ Below W.heap.size W w') := fun W => Half_any m.1 _ m.2.length c W (by omega)
      obtain ⟨hh, hhh⟩ : ∃ hh : Nat, hh = m.2.length / 2 := ⟨_, rfl⟩
      rw [← hhh] at hqI HHC
      have HHH := Lib.hid hhh
      clear hx hq hp hg e1 K2 hhh hin
      go_wp2
      have Rc0 := cell_regrown c0
      have Rc1 := cell_regrown c1
      have Rz1 := cell_regrown z1
      have CH := fun (d : Nat) (os : Array Obj) => Calls.regrown_of (HHC.out (grow (redrawn wr d) os))
      refine wp_region_quiet_below (by kernel_rfl) (by kernel_rfl) ?_
      repeat (first | go_big_quiet_step (first | (with_reducible exact CH _ _)) | quiet_step (first | (with_reducible exact CH _ _)))
      refine wpQuiet_nil ?_
      intro _ hw'
      obtain ⟨⟨dq, osq⟩, hw''⟩ := hw'
      subst hw''
      obtain ⟨V, hV⟩ : ∃ V, V = grow (redrawn wr dq) osq := ⟨_, rfl⟩
      have hbV : Below wr.heap.size wr V := by rw [hV]; exact below_regrown _ _ _
      rw [← hV]
      clear hV
      clear Rc0
      clear Rc1
      clear Rz1
      clear CH
      have HV := Lib.hid (bt hbV HB.out)
      clear hbV c0 c1 z1 HHC
      go_wp2
      go_roundw
      case rel => exact ⟨k + 1, by rw [← HG.out], by go_num, by omega, HV.out⟩
      case measure => simp [intOf]; omega
    · obtain rfl : k = 4 := by omega
      have hge : gN (areaB m a) 4 = genB (areaB m a) := gN_gen _
      rw [hge]
      go_wp2
      go_ret
      exact ⟨rfl, bt HB.out (al1 _ _)⟩

def areaI (m : Mem) : Int := match curO m with
  | none => -1
  | some a => (a : Int)
set_option maxHeartbeats 800000 in
theorem Area_any (m : Mem) (b o c : Nat) (w : World) (h32 : 32 ≤ m.2.length) (h4k : m.2.length ≤ 4096) (hc : m.2.length ≤ c) (hA : RdB w w.heap.size (some ⟨b, o, none⟩) m.2) :
    Calls Tryz.prog 50 #[.agg #[.int .i64 m.1, .slice (some ⟨b, o, none⟩) m.2.length c]] w fun e w' => e = .returned (.int .i64 (areaI m)) ∧ Below w.heap.size w w' := by
  obtain ⟨H, hH⟩ : ∃ H, H = m.2.length / 2 := ⟨_, rfl⟩
  have hHb : H ≤ 2048 := by omega
  have zx := cell_of hA (i := 0) (by omega)
  have zy := cell_of hA (i := H) (by omega)
  rw [Nat.add_zero] at zx
  obtain ⟨x, hx⟩ : ∃ x, x = m.2.getD 0 0 := ⟨_, rfl⟩
  obtain ⟨y, hy⟩ : ∃ y, y = m.2.getD H 0 := ⟨_, rfl⟩
  rw [← hx] at zx
  rw [← hy] at zy
  have hbl : b < w.heap.size := by
    obtain ⟨b', o', e, h, _⟩ := hA.addr (by omega)
    obtain ⟨rfl, rfl⟩ : b = b' ∧ o = o' := by simpa using e
    exact h
  have hax : (areaB m 0).getD 0 0 = x := by rw [area_getD' m (by unfold hf; omega), hx]; simp
  have hay : (areaB m 1).getD 0 0 = y := by rw [area_getD' m (by unfold hf; omega), hy, hH]; unfold hf; simp
  have HA := Lib.hid hA
  have i1 : (0 : Int) < (m.2.length : Int) := by omega
  have i2 : (H : Int) < (m.2.length : Int) := by omega
  have i3 : (0 : Int) ≤ (H : Int) := by omega
  have HHC : Hid (∀ W, Calls Tryz.prog 49 #[.agg #[.int .i64 m.1, .slice (some ⟨b, o, none⟩) m.2.length c]] W fun e w' => e = .returned (.int .i64 (H : Int)) ∧ Below W.heap.size W w') := fun W => by rw [hH]; exact Half_any m.1 _ m.2.length c W (by omega)
  clear hA hx hy hH
  by_cases hx80 : x = 80
  · by_cases hy80 : y = 80
    · have h0 : (areaB m 0).getD 0 0 = 80 := by rw [hax]; exact hx80
      have h1 : (areaB m 1).getD 0 0 = 80 := by rw [hay]; exact hy80
      clear hax hay
      have e80 : ((x.toNat : Int) == 80) = true := byte80 hx80
      have e81 : ((y.toNat : Int) == 80) = true := byte80 hy80
      go_enter Tryz.func50, Tryz.ntmps50
      go_wp2
      obtain ⟨U, hU⟩ : ∃ Zz, Zz = w.alloc (.cells #[.int .i64 m.1, .slice (some ⟨b, o, none⟩) m.2.length c] 24) := ⟨_, rfl⟩
      have hbU : Below w.heap.size w U := by rw [hU]; exact al1 _ _
      have k1 : Bk U w.heap.size 24 #[.int .i64 m.1, .slice (some ⟨b, o, none⟩) m.2.length c] := by rw [hU]; exact Bk.new _ _ _
      rw [← hU]
      clear hU
      obtain ⟨c0, c1⟩ := box2 k1
      have z1 := (hbU.cell (p := ⟨b, o + H, none⟩) hbl).trans zy
      have Rc0 := cell_regrown c0
      have Rc1 := cell_regrown c1
      have Rz1 := cell_regrown z1
      have CH := fun (d : Nat) (os : Array Obj) => Calls.regrown_of (HHC.out (grow (redrawn U d) os))
      refine wp_region_quiet_below (by kernel_rfl) (by kernel_rfl) ?_
      repeat (first | go_big_quiet_step (first | (with_reducible exact CH _ _)) | quiet_step (first | (with_reducible exact CH _ _)))
      refine wpQuiet_nil ?_
      intro _ hw'
      obtain ⟨⟨dq, osq⟩, hw''⟩ := hw'
      subst hw''
      obtain ⟨Vq, hVq⟩ : ∃ V, V = grow (redrawn U dq) osq := ⟨_, rfl⟩
      have hbVq : Below U.heap.size U Vq := by rw [hVq]; exact below_regrown _ _ _
      rw [← hVq]
      clear hVq
      clear Rc0
      clear Rc1
      clear Rz1
      clear CH
      have hB := bt hbVq hbU
      have K2 := Lib.hid (k1.next hbVq)
      have HB := Lib.hid hB
      clear hbVq hB hbU k1 c0 c1 z1
      obtain ⟨c0, c1⟩ := box2 K2.out
      have HG : Hid (∀ W, Below Vq.heap.size Vq W → ∀ a : Nat, a ≤ 1 → Calls Tryz.prog 55 #[.agg #[.int .i64 m.1, .slice (some ⟨b, o, none⟩) m.2.length c], .int .i64 (a : Int)] W fun e w' => e = .returned (.int .i64 (genB (areaB m a) : Int)) ∧ Below W.heap.size W w') := fun W hW a ha => Generation_any m a b o c W ha h32 h4k hc ((HA.out.next HB.out).next hW)
      obtain ⟨g0, hg0⟩ : ∃ g, g = genB (areaB m 0) := ⟨_, rfl⟩
      obtain ⟨g1, hg1⟩ : ∃ g, g = genB (areaB m 1) := ⟨_, rfl⟩
      have HG0 : Hid (∀ W, Below Vq.heap.size Vq W → Calls Tryz.prog 55 #[.agg #[.int .i64 m.1, .slice (some ⟨b, o, none⟩) m.2.length c], .int .i64 0] W fun e w' => e = .returned (.int .i64 (g0 : Int)) ∧ Below W.heap.size W w') := fun W hW => by rw [hg0]; exact HG.out W hW 0 (by omega)
      have HG1 : Hid (∀ W, Below Vq.heap.size Vq W → Calls Tryz.prog 55 #[.agg #[.int .i64 m.1, .slice (some ⟨b, o, none⟩) m.2.length c], .int .i64 1] W fun e w' => e = .returned (.int .i64 (g1 : Int)) ∧ Below W.heap.size W w') := fun W hW => by rw [hg1]; exact HG.out W hW 1 (by omega)
      have HGG : Hid (areaI m = if g0 < g1 then 1 else 0) := by
        show _ = _
        unfold areaI curO
        rw [if_pos h0, if_pos h1, hg0, hg1]
        by_cases h9 : genB (areaB m 0) < genB (areaB m 1)
        · rw [if_pos h9, if_pos h9]; rfl
        · rw [if_neg h9, if_neg h9]; rfl
      clear HG hg0 hg1
      go_wp2
      have Rc0 := cell_regrown c0
      have Rc1 := cell_regrown c1
      have CA := fun (d : Nat) (os : Array Obj) => Calls.regrown_of (HG0.out (grow (redrawn Vq d) os) (below_regrown Vq d os))
      have CB := fun (d : Nat) (os : Array Obj) => Calls.regrown_of (HG1.out (grow (redrawn Vq d) os) (below_regrown Vq d os))
      refine wp_region_quiet_below (by kernel_rfl) (by kernel_rfl) ?_
      repeat (first | go_big_quiet_step (first | (with_reducible exact CA _ _) | (with_reducible exact CB _ _)) | quiet_step (first | (with_reducible exact CA _ _) | (with_reducible exact CB _ _)))
      refine wpQuiet_nil ?_
      intro _ hw'
      obtain ⟨⟨dq, osq⟩, hw''⟩ := hw'
      subst hw''
      obtain ⟨V2, hV2⟩ : ∃ V, V = grow (redrawn Vq dq) osq := ⟨_, rfl⟩
      have hbV2 : Below Vq.heap.size Vq V2 := by rw [hV2]; exact below_regrown _ _ _
      rw [← hV2]
      clear hV2
      clear Rc0
      clear Rc1
      clear CA
      clear CB
      have HV2 := Lib.hid (bt hbV2 HB.out)
      clear hbV2 c0 c1 HG0 HG1
      by_cases hlt : g0 < g1
      · have q1 : (g0 : Int) < (g1 : Int) := by omega
        go_wp2
        go_ret
        exact ⟨by rw [HGG.out, if_pos hlt]; rfl, HV2.out⟩
      · have q1 : ¬ (g0 : Int) < (g1 : Int) := by omega
        go_wp2
        go_ret
        exact ⟨by rw [HGG.out, if_neg hlt]; rfl, HV2.out⟩
    · have h0 : (areaB m 0).getD 0 0 = 80 := by rw [hax]; exact hx80
      have h1 : ¬ (areaB m 1).getD 0 0 = 80 := by rw [hay]; exact hy80
      have H0 := Lib.hid h0
      have H1 := Lib.hid h1
      clear h0 h1 hax hay
      have e80 : ((x.toNat : Int) == 80) = true := byte80 hx80
      have e81 : ((y.toNat : Int) == 80) = false := byte80' hy80
      go_enter Tryz.func50, Tryz.ntmps50
      go_wp2
      obtain ⟨U, hU⟩ : ∃ Zz, Zz = w.alloc (.cells #[.int .i64 m.1, .slice (some ⟨b, o, none⟩) m.2.length c] 24) := ⟨_, rfl⟩
      have hbU : Below w.heap.size w U := by rw [hU]; exact al1 _ _
      have k1 : Bk U w.heap.size 24 #[.int .i64 m.1, .slice (some ⟨b, o, none⟩) m.2.length c] := by rw [hU]; exact Bk.new _ _ _
      rw [← hU]
      clear hU
      obtain ⟨c0, c1⟩ := box2 k1
      have z1 := (hbU.cell (p := ⟨b, o + H, none⟩) hbl).trans zy
      have Rc0 := cell_regrown c0
      have Rc1 := cell_regrown c1
      have Rz1 := cell_regrown z1
      have CH := fun (d : Nat) (os : Array Obj) => Calls.regrown_of (HHC.out (grow (redrawn U d) os))
      refine wp_region_quiet_below (by kernel_rfl) (by kernel_rfl) ?_
      repeat (first | go_big_quiet_step (first | (with_reducible exact CH _ _)) | quiet_step (first | (with_reducible exact CH _ _)))
      refine wpQuiet_nil ?_
      intro _ hw'
      obtain ⟨⟨dq, osq⟩, hw''⟩ := hw'
      subst hw''
      obtain ⟨Vq, hVq⟩ : ∃ V, V = grow (redrawn U dq) osq := ⟨_, rfl⟩
      have hbVq : Below U.heap.size U Vq := by rw [hVq]; exact below_regrown _ _ _
      rw [← hVq]
      clear hVq
      clear Rc0
      clear Rc1
      clear Rz1
      clear CH
      have hB := bt hbVq hbU
      have K2 := Lib.hid (k1.next hbVq)
      have HB := Lib.hid hB
      clear hbVq hB hbU k1 c0 c1 z1
      have HE : Hid (areaI m = 0) := by
        show _ = _
        unfold areaI curO
        rw [if_pos H0.out, if_neg H1.out]; rfl
      go_wp2
      go_ret
      exact ⟨by rw [HE.out]; rfl, HB.out⟩
  · by_cases hy80 : y = 80
    · have h0 : ¬ (areaB m 0).getD 0 0 = 80 := by rw [hax]; exact hx80
      have h1 : (areaB m 1).getD 0 0 = 80 := by rw [hay]; exact hy80
      have H0 := Lib.hid h0
      have H1 := Lib.hid h1
      clear h0 h1 hax hay
      have e80 : ((x.toNat : Int) == 80) = false := byte80' hx80
      have e81 : ((y.toNat : Int) == 80) = true := byte80 hy80
      go_enter Tryz.func50, Tryz.ntmps50
      go_wp2
      obtain ⟨U, hU⟩ : ∃ Zz, Zz = w.alloc (.cells #[.int .i64 m.1, .slice (some ⟨b, o, none⟩) m.2.length c] 24) := ⟨_, rfl⟩
      have hbU : Below w.heap.size w U := by rw [hU]; exact al1 _ _
      have k1 : Bk U w.heap.size 24 #[.int .i64 m.1, .slice (some ⟨b, o, none⟩) m.2.length c] := by rw [hU]; exact Bk.new _ _ _
      rw [← hU]
      clear hU
      obtain ⟨c0, c1⟩ := box2 k1
      have z1 := (hbU.cell (p := ⟨b, o + H, none⟩) hbl).trans zy
      have Rc0 := cell_regrown c0
      have Rc1 := cell_regrown c1
      have Rz1 := cell_regrown z1
      have CH := fun (d : Nat) (os : Array Obj) => Calls.regrown_of (HHC.out (grow (redrawn U d) os))
      refine wp_region_quiet_below (by kernel_rfl) (by kernel_rfl) ?_
      repeat (first | go_big_quiet_step (first | (with_reducible exact CH _ _)) | quiet_step (first | (with_reducible exact CH _ _)))
      refine wpQuiet_nil ?_
      intro _ hw'
      obtain ⟨⟨dq, osq⟩, hw''⟩ := hw'
      subst hw''
      obtain ⟨Vq, hVq⟩ : ∃ V, V = grow (redrawn U dq) osq := ⟨_, rfl⟩
      have hbVq : Below U.heap.size U Vq := by rw [hVq]; exact below_regrown _ _ _
      rw [← hVq]
      clear hVq
      clear Rc0
      clear Rc1
      clear Rz1
      clear CH
      have hB := bt hbVq hbU
      have K2 := Lib.hid (k1.next hbVq)
      have HB := Lib.hid hB
      clear hbVq hB hbU k1 c0 c1 z1
      have HE : Hid (areaI m = 1) := by
        show _ = _
        unfold areaI curO
        rw [if_neg H0.out, if_pos H1.out]; rfl
      go_wp2
      go_ret
      exact ⟨by rw [HE.out]; rfl, HB.out⟩
    · have h0 : ¬ (areaB m 0).getD 0 0 = 80 := by rw [hax]; exact hx80
      have h1 : ¬ (areaB m 1).getD 0 0 = 80 := by rw [hay]; exact hy80
      have H0 := Lib.hid h0
      have H1 := Lib.hid h1
      clear h0 h1 hax hay
      have e80 : ((x.toNat : Int) == 80) = false := byte80' hx80
      have e81 : ((y.toNat : Int) == 80) = false := byte80' hy80
      go_enter Tryz.func50, Tryz.ntmps50
      go_wp2
      obtain ⟨U, hU⟩ : ∃ Zz, Zz = w.alloc (.cells #[.int .i64 m.1, .slice (some ⟨b, o, none⟩) m.2.length c] 24) := ⟨_, rfl⟩
      have hbU : Below w.heap.size w U := by rw [hU]; exact al1 _ _
      have k1 : Bk U w.heap.size 24 #[.int .i64 m.1, .slice (some ⟨b, o, none⟩) m.2.length c] := by rw [hU]; exact Bk.new _ _ _
      rw [← hU]
      clear hU
      obtain ⟨c0, c1⟩ := box2 k1
      have z1 := (hbU.cell (p := ⟨b, o + H, none⟩) hbl).trans zy
      have Rc0 := cell_regrown c0
      have Rc1 := cell_regrown c1
      have Rz1 := cell_regrown z1
      have CH := fun (d : Nat) (os : Array Obj) => Calls.regrown_of (HHC.out (grow (redrawn U d) os))
      refine wp_region_quiet_below (by kernel_rfl) (by kernel_rfl) ?_
      repeat (first | go_big_quiet_step (first | (with_reducible exact CH _ _)) | quiet_step (first | (with_reducible exact CH _ _)))
      refine wpQuiet_nil ?_
      intro _ hw'
      obtain ⟨⟨dq, osq⟩, hw''⟩ := hw'
      subst hw''
      obtain ⟨Vq, hVq⟩ : ∃ V, V = grow (redrawn U dq) osq := ⟨_, rfl⟩
      have hbVq : Below U.heap.size U Vq := by rw [hVq]; exact below_regrown _ _ _
      rw [← hVq]
      clear hVq
      clear Rc0
      clear Rc1
      clear Rz1
      clear CH
      have hB := bt hbVq hbU
      have K2 := Lib.hid (k1.next hbVq)
      have HB := Lib.hid hB
      clear hbVq hB hbU k1 c0 c1 z1
      have HE : Hid (areaI m = -1) := by
        show _ = _
        unfold areaI curO
        rw [if_neg H0.out, if_neg H1.out]
      go_wp2
      go_ret
      exact ⟨by rw [HE.out]; rfl, HB.out⟩
end Go.Proofs.YthebojaminploaaGreatDoor
