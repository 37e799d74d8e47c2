/- The laws' head: fixed examples. -/
import Derived.Test.YthebojaminploaaGreatDoorKVg
import Derived.Test.YthebojaminploaaGreatDoorKCO
set_option maxRecDepth 100000
set_option linter.unusedVariables false
set_option linter.unusedSimpArgs false
namespace Go.Proofs.YthebojaminploaaGreatDoor
open Go.RowKit Go.Sort Go.Shelf

theorem zeros_u8s (n : Nat) : zeros n = (u8s (List.replicate n 0)).toArray := by simp [zeros, u8s, u8]
theorem hh6 : 0 < (stoM hv1 hy0 105).length := by rw [hh2.2.1]; omega
theorem rdL_x {W : World} {B g : Nat} {t : TypeId} (h : Bk W g t #[.int .i64 4, .int .i64 1, .int .i64 16, .int .i64 100, .int .i64 12]) (hg : g < B) : RdL W B (some ⟨g, 0, none⟩) [hx0] := RdL.of_bk (l := [hx0]) h hg
theorem rdL_xy {W : World} {B g : Nat} {t : TypeId} (h : Bk W g t #[.int .i64 4, .int .i64 1, .int .i64 16, .int .i64 100, .int .i64 12, .int .i64 9, .int .i64 2, .int .i64 32, .int .i64 105, .int .i64 12]) (hg : g < B) : RdL W B (some ⟨g, 0, none⟩) [hx0, hy0] := RdL.of_bk (l := [hx0, hy0]) h hg
set_option maxHeartbeats 4000000 in
theorem head_any (w : World) (hW : Wd w) : Calls Tryz.prog 4 #[] w fun e w' => e = .returned (.bool true) ∧ Below w.heap.size w w' := by
  have HB := Lib.hid (Below.refl w.heap.size w)
  have F_W := Lib.hid hW
  clear hW
  go_enter Tryz.func4, Tryz.ntmps4
  go_wp2_with fail
  refine (vFormat_lit hv0 0 _ rfl fmt_vault.1).mono ?_
  rintro e V1 ⟨Af, cf, rfl, hcf, rf, hb⟩
  have hB := hb
  replace F_W := Lib.hid (F_W.out.next hB)
  replace HB := Lib.hid (bt hB HB.out)
  clear hb hB
  have F_f := Lib.hid (rf)
  clear rf
  go_wp2_with fail
  refine (Store_lit 20 0 hv0 hx0 100 Af cf _ hh1.2.1 hh1.1 (F_f.out.next (al3 _ _ _ _)) hcf (F_W.out.next (al3 _ _ _ _))).mono ?_
  rintro e V2 ⟨Aa, ca, rfl, hca, ra, hb⟩
  have hB := bt hb (al3 V1 _ _ _)
  have K_f : Hid (Bk V2 (V1.heap.size) 24 #[.int .i64 hv0.1, .slice Af hv0.2.length cf]) := Bk.next (by first | exact Bk.new _ _ _ | exact (Bk.new _ _ _).alloc _ | exact ((Bk.new _ _ _).alloc _).alloc _ | exact bkOf (by simp [at?_alloc])) hb
  have K_x : Hid (Bk V2 (V1.heap.size + 1) 26 #[.int .i64 4, .int .i64 1, .int .i64 16, .int .i64 100, .int .i64 12]) := Bk.next (by first | exact Bk.new _ _ _ | exact (Bk.new _ _ _).alloc _ | exact ((Bk.new _ _ _).alloc _).alloc _ | exact bkOf (by simp [at?_alloc])) hb
  have K_y : Hid (Bk V2 (V1.heap.size + 2) 26 #[.int .i64 9, .int .i64 2, .int .i64 32, .int .i64 105, .int .i64 12]) := Bk.next (by first | exact Bk.new _ _ _ | exact (Bk.new _ _ _).alloc _ | exact ((Bk.new _ _ _).alloc _).alloc _ | exact bkOf (by simp [at?_alloc])) hb
  replace F_W := Lib.hid (F_W.out.next hB)
  replace F_f := Lib.hid (F_f.out.next hB)
  replace HB := Lib.hid (bt hB HB.out)
  clear hb hB
  have F_a := Lib.hid (ra)
  clear ra
  obtain ⟨c_f0, c_f1⟩ := box2 K_f.out
  have l_f := K_f.out.lt
  obtain ⟨c_x0, c_x1, c_x2, c_x3, c_x4⟩ := box5 K_x.out
  have l_x := K_x.out.lt
  obtain ⟨c_y0, c_y1, c_y2, c_y3, c_y4⟩ := box5 K_y.out
  have l_y := K_y.out.lt
  go_wp2_with fail
  clear c_f0 c_f1 l_f
  clear c_x0 c_x1 c_x2 c_x3 c_x4 l_x
  clear c_y0 c_y1 c_y2 c_y3 c_y4 l_y
  refine (last_lit hv1 20 hv0 (stoM hv0 hx0 100) 0 Af Aa cf ca _ rfl hh1.2.1 F_f.out hcf F_a.out (by rw [hh1.2.1]; omega)).mono ?_
  rintro e V3 ⟨A1, c1, rfl, hc1, r1, hb⟩
  have hB := hb
  replace F_W := Lib.hid (F_W.out.next hB)
  replace F_f := Lib.hid (F_f.out.next hB)
  replace F_a := Lib.hid (F_a.out.next hB)
  replace K_f := Lib.hid (K_f.out.next hB)
  replace K_x := Lib.hid (K_x.out.next hB)
  replace K_y := Lib.hid (K_y.out.next hB)
  replace HB := Lib.hid (bt hB HB.out)
  clear hb hB
  have F_1 := Lib.hid (r1)
  clear r1
  clear F_a
  obtain ⟨c_f0, c_f1⟩ := box2 K_f.out
  have l_f := K_f.out.lt
  obtain ⟨c_x0, c_x1, c_x2, c_x3, c_x4⟩ := box5 K_x.out
  have l_x := K_x.out.lt
  obtain ⟨c_y0, c_y1, c_y2, c_y3, c_y4⟩ := box5 K_y.out
  have l_y := K_y.out.lt
  go_wp2_with fail
  clear c_f0 c_f1 l_f
  clear c_x0 c_x1 c_x2 c_x3 c_x4 l_x
  clear c_y0 c_y1 c_y2 c_y3 c_y4 l_y
  refine (Store_lit 20 0 hv1 hy0 105 A1 c1 _ hh2.2.1 hh2.1 (F_1.out.next (al1 _ _)) hc1 (F_W.out.next (al1 _ _))).mono ?_
  rintro e V4 ⟨Ab, cb, rfl, hcb, rb, hb⟩
  have hB := bt hb (al1 V3 _)
  have K_1 : Hid (Bk V4 (V3.heap.size) 24 #[.int .i64 hv1.1, .slice A1 hv1.2.length c1]) := Bk.next (by first | exact Bk.new _ _ _ | exact (Bk.new _ _ _).alloc _ | exact ((Bk.new _ _ _).alloc _).alloc _ | exact bkOf (by simp [at?_alloc])) hb
  replace F_W := Lib.hid (F_W.out.next hB)
  replace F_f := Lib.hid (F_f.out.next hB)
  replace F_1 := Lib.hid (F_1.out.next hB)
  replace K_f := Lib.hid (K_f.out.next hB)
  replace K_x := Lib.hid (K_x.out.next hB)
  replace K_y := Lib.hid (K_y.out.next hB)
  replace HB := Lib.hid (bt hB HB.out)
  clear hb hB
  have F_b := Lib.hid (rb)
  clear rb
  obtain ⟨b9, o9, rfl, hb9, hall⟩ := F_b.out hh6
  obtain ⟨A2, c2, z0, z1, hc2, r2⟩ := hall 19 hv2 hh2.2.2.1
  obtain ⟨t, ht, ht1, ht2⟩ := hh2.2.2.2.1
  obtain ⟨A7, c7, u0, u1, hc7, r7⟩ := hall 7 t ht
  have HT1 := Lib.hid ht1
  have HT2 := Lib.hid ht2
  rw [show 19 * 2 = 38 from rfl] at z0 z1
  rw [show 7 * 2 = 14 from rfl] at u0 u1
  rw [show o9 + 38 + 1 = o9 + 39 from rfl] at z1
  rw [show o9 + 14 + 1 = o9 + 15 from rfl] at u1
  clear ht ht1 ht2 hall
  have F_2 := Lib.hid (r2)
  have F_t := Lib.hid (r7)
  clear r2 r7
  obtain ⟨c_f0, c_f1⟩ := box2 K_f.out
  have l_f := K_f.out.lt
  obtain ⟨c_x0, c_x1, c_x2, c_x3, c_x4⟩ := box5 K_x.out
  have l_x := K_x.out.lt
  obtain ⟨c_y0, c_y1, c_y2, c_y3, c_y4⟩ := box5 K_y.out
  have l_y := K_y.out.lt
  obtain ⟨c_10, c_11⟩ := box2 K_1.out
  have l_1 := K_1.out.lt
  go_wp2
  clear c_f0 c_f1 l_f
  clear c_x0 c_x1 c_x2 c_x3 c_x4 l_x
  clear c_y0 c_y1 c_y2 c_y3 c_y4 l_y
  clear c_10 c_11 l_1
  have hKS : ∀ w', Below V4.heap.size V4 w' → (w'.cell? ⟨b9, o9 + 38, none⟩ = some (.int .i64 hv2.1) ∧ w'.cell? ⟨b9, o9 + 39, none⟩ = some (.slice A2 hv2.2.length c2) ∧ w'.cell? ⟨b9, o9 + 14, none⟩ = some (.int .i64 t.1) ∧ w'.cell? ⟨b9, o9 + 15, none⟩ = some (.slice A7 t.2.length c7)) := fun w' hW => ⟨(hW.cell (p := ⟨b9, o9 + 38, none⟩) hb9).trans z0, (hW.cell (p := ⟨b9, o9 + 39, none⟩) hb9).trans z1, (hW.cell (p := ⟨b9, o9 + 14, none⟩) hb9).trans u0, (hW.cell (p := ⟨b9, o9 + 15, none⟩) hb9).trans u1⟩
  have HKS := Lib.hid hKS
  clear hKS z0 z1 u0 u1
  refine region_S (fun w' => w'.cell? ⟨b9, o9 + 38, none⟩ = some (.int .i64 hv2.1) ∧ w'.cell? ⟨b9, o9 + 39, none⟩ = some (.slice A2 hv2.2.length c2) ∧ w'.cell? ⟨b9, o9 + 14, none⟩ = some (.int .i64 t.1) ∧ w'.cell? ⟨b9, o9 + 15, none⟩ = some (.slice A7 t.2.length c7)) 9 (by kernel_rfl) ?_
  obtain ⟨W0, hW0⟩ : ∃ Zz, Zz = V4.drew := ⟨_, rfl⟩
  have hb0 : Below V4.heap.size V4 W0 := by rw [hW0]; exact (Below.refl _ V4).drew
  rw [← hW0]
  clear hW0
  have HS0 := HKS.out _ hb0
  refine anyS_take (i := 0) rfl (by kernel_rfl) (by kernel_rfl) (by kernel_rfl) (by kernel_rfl) (fun _ _ _ h => h) (Or.inl ⟨by rfl, fun w' hS' => (by obtain ⟨s1, s2, s3, s4⟩ := hS'; go_simp; try with_reducible rfl)⟩) HS0 ?_
  refine anyS_take (i := 1) rfl (by kernel_rfl) (by kernel_rfl) (by kernel_rfl) (by kernel_rfl) (fun _ _ _ h => h) (Or.inl ⟨by rfl, fun w' hS' => (by obtain ⟨s1, s2, s3, s4⟩ := hS'; go_simp; try with_reducible rfl)⟩) HS0 ?_
  refine anyS_take (i := 2) rfl (by kernel_rfl) (by kernel_rfl) (by kernel_rfl) (by kernel_rfl) (fun _ _ _ h => h) (Or.inl ⟨by rfl, fun w' hS' => (by obtain ⟨s1, s2, s3, s4⟩ := hS'; go_simp; try with_reducible rfl)⟩) HS0 ?_
  refine anyS_take (i := 3) rfl (by kernel_rfl) (by kernel_rfl) (by kernel_rfl) (by kernel_rfl) (fun _ _ _ h => h) (Or.inl ⟨by rfl, fun w' hS' => (by obtain ⟨s1, s2, s3, s4⟩ := hS'; go_simp; try with_reducible rfl)⟩) HS0 ?_
  refine anyS_take (i := 4) rfl (by kernel_rfl) (by kernel_rfl) (by kernel_rfl) (by kernel_rfl) (fun _ _ _ h => h) (Or.inl ⟨by rfl, fun w' hS' => (by obtain ⟨s1, s2, s3, s4⟩ := hS'; go_simp; try with_reducible rfl)⟩) HS0 ?_
  refine anyS_take (i := 5) rfl (by kernel_rfl) (by kernel_rfl) (by kernel_rfl) (by kernel_rfl) (fun _ _ _ h => h) (Or.inl ⟨by rfl, fun w' hS' => (by obtain ⟨s1, s2, s3, s4⟩ := hS'; go_simp; try with_reducible rfl)⟩) HS0 ?_
  clear HS0
  refine anyS_two (i := 6) (j := 7) (by kernel_rfl) rfl rfl rfl rfl (fun K hK => ?_) (fun K hK => ?_)
  · go_simp
    obtain ⟨W1, hW1⟩ : ∃ Zz, Zz = W0.alloc (.cells #[.int .i64 0, .slice none 0 0] 24) := ⟨_, rfl⟩
    have hx : Below W0.heap.size W0 W1 := by rw [hW1]; exact al1 _ _
    have kp : Bk W1 W0.heap.size 24 #[.int .i64 0, .slice none 0 0] := by rw [hW1]; exact Bk.new _ _ _
    rw [← hW1]
    clear hW1
    obtain ⟨p, hp⟩ : ∃ p, p = W0.heap.size := ⟨_, rfl⟩
    rw [← hp] at kp ⊢
    have hb1 := bt hx hb0
    have lp : V4.heap.size ≤ p := by rw [hp]; exact hb0.size
    refine hK _ _ (fun _ => HKS.out _ hb1) ?_
    clear hK K hp
    refine anyS_one (i := 7) (by kernel_rfl) rfl rfl (fun K hK => ?_)
    go_simp
    obtain ⟨W2, hW2⟩ : ∃ Zz, Zz = W1.alloc (.cells #[.int .i64 0, .slice none 0 0] 24) := ⟨_, rfl⟩
    have hx2 : Below W1.heap.size W1 W2 := by rw [hW2]; exact al1 _ _
    have kq : Bk W2 W1.heap.size 24 #[.int .i64 0, .slice none 0 0] := by rw [hW2]; exact Bk.new _ _ _
    rw [← hW2]
    clear hW2
    obtain ⟨q, hq⟩ : ∃ q, q = W1.heap.size := ⟨_, rfl⟩
    rw [← hq] at kq ⊢
    have hb2 := bt hx2 hb1
    have lq : V4.heap.size ≤ q := by rw [hq]; exact hb1.size
    have hne : p ≠ q := by have := kp.lt; omega
    replace kp := kp.next hx2
    refine hK _ _ (fun _ => HKS.out _ hb2) ?_
    clear hK K hq hx hx2 hb1
    obtain ⟨a0, a1⟩ := box2 kp
    have f0 := kp.frozen 0
    have f1 := kp.frozen 1
    have lp := kp.lt
    refine anyS_one (i := 8) (by kernel_rfl) rfl rfl (fun K hK => ?_)
    go_simp
    clear a0 a1 f0 f1 lp
    obtain ⟨W3, hW3⟩ : ∃ Zz, Zz = (W2.setCell ⟨p, 0, none⟩ (.int .i64 hv2.1)).setCell ⟨p, 1, none⟩ (.slice A2 hv2.2.length c2) := ⟨_, rfl⟩
    have hb3 : Below V4.heap.size V4 W3 := by rw [hW3]; exact (hb2.setCell (p := ⟨p, 0, none⟩) lp _).setCell (p := ⟨p, 1, none⟩) lp _
    have mp : Bk W3 p 24 #[.int .i64 hv2.1, .slice A2 hv2.2.length c2] := by rw [hW3]; exact (by simpa using (kp.set 0 (.int .i64 hv2.1)).set 1 (.slice A2 hv2.2.length c2))
    have mq : Bk W3 q 24 #[.int .i64 0, .slice none 0 0] := by rw [hW3]; exact ((kq.far (p := ⟨p, 0, none⟩) (Ne.symm hne) _).far (p := ⟨p, 1, none⟩) (Ne.symm hne) _)
    rw [← hW3]
    clear hW3
    refine hK _ _ (fun _ => HKS.out _ hb3) ?_
    clear hK K kp kq hb2
    have kp := mp
    have kq := mq
    clear mp mq
    obtain ⟨a0, a1⟩ := box2 kq
    have f0 := kq.frozen 0
    have f1 := kq.frozen 1
    have lp := kq.lt
    refine anyS_one (i := 9) (by kernel_rfl) rfl rfl (fun K hK => ?_)
    go_simp
    clear a0 a1 f0 f1 lp
    obtain ⟨W4, hW4⟩ : ∃ Zz, Zz = (W3.setCell ⟨q, 0, none⟩ (.int .i64 t.1)).setCell ⟨q, 1, none⟩ (.slice A7 t.2.length c7) := ⟨_, rfl⟩
    have hb4 : Below V4.heap.size V4 W4 := by rw [hW4]; exact (hb3.setCell (p := ⟨q, 0, none⟩) lq _).setCell (p := ⟨q, 1, none⟩) lq _
    have mq : Bk W4 q 24 #[.int .i64 t.1, .slice A7 t.2.length c7] := by rw [hW4]; exact (by simpa using (kq.set 0 (.int .i64 t.1)).set 1 (.slice A7 t.2.length c7))
    have mp : Bk W4 p 24 #[.int .i64 hv2.1, .slice A2 hv2.2.length c2] := by rw [hW4]; exact ((kp.far (p := ⟨q, 0, none⟩) (hne) _).far (p := ⟨q, 1, none⟩) (hne) _)
    rw [← hW4]
    clear hW4
    refine hK _ _ (fun h => absurd rfl h) ?_
    clear hK K hb3 kp kq
    refine anyS_done (by kernel_rfl) ?_ _
    simp only [normPost]
    clear HKS hb0
    replace F_W := Lib.hid (F_W.out.next hb4)
    replace F_f := Lib.hid (F_f.out.next hb4)
    replace F_1 := Lib.hid (F_1.out.next hb4)
    replace F_b := Lib.hid (F_b.out.next hb4)
    replace F_2 := Lib.hid (F_2.out.next hb4)
    replace F_t := Lib.hid (F_t.out.next hb4)
    replace K_f := Lib.hid (K_f.out.next hb4)
    replace K_x := Lib.hid (K_x.out.next hb4)
    replace K_y := Lib.hid (K_y.out.next hb4)
    replace K_1 := Lib.hid (K_1.out.next hb4)
    replace HB := Lib.hid (bt hb4 HB.out)
    clear hb4
    have K_2 := Lib.hid (mp)
    have K_t := Lib.hid (mq)
    clear mp mq hne lp lq
    obtain ⟨c_f0, c_f1⟩ := box2 K_f.out
    have l_f := K_f.out.lt
    obtain ⟨c_x0, c_x1, c_x2, c_x3, c_x4⟩ := box5 K_x.out
    have l_x := K_x.out.lt
    obtain ⟨c_y0, c_y1, c_y2, c_y3, c_y4⟩ := box5 K_y.out
    have l_y := K_y.out.lt
    obtain ⟨c_10, c_11⟩ := box2 K_1.out
    have l_1 := K_1.out.lt
    obtain ⟨c_20, c_21⟩ := box2 K_2.out
    have l_2 := K_2.out.lt
    obtain ⟨c_t0, c_t1⟩ := box2 K_t.out
    have l_t := K_t.out.lt
    go_wp2_with fail
    clear c_f0 c_f1 l_f
    clear c_x0 c_x1 c_x2 c_x3 c_x4 l_x
    clear c_y0 c_y1 c_y2 c_y3 c_y4 l_y
    clear c_10 c_11 l_1
    clear c_20 c_21 l_2
    clear c_t0 c_t1 l_t
    refine (Load_n hv2.2.length hv2.1 2 [hx0, hy0] 0 hv2 A2 c2 _ rfl rfl rfl hh2.2.2.2.2.2 hh2.2.2.2.2.1 F_2.out hc2 F_W.out).mono ?_
    rintro e V5 ⟨Am, cm, rfl, hcm, rm, hb⟩
    have hB := hb
    replace F_W := Lib.hid (F_W.out.next hB)
    replace F_f := Lib.hid (F_f.out.next hB)
    replace F_1 := Lib.hid (F_1.out.next hB)
    replace F_b := Lib.hid (F_b.out.next hB)
    replace F_2 := Lib.hid (F_2.out.next hB)
    replace F_t := Lib.hid (F_t.out.next hB)
    replace K_f := Lib.hid (K_f.out.next hB)
    replace K_x := Lib.hid (K_x.out.next hB)
    replace K_y := Lib.hid (K_y.out.next hB)
    replace K_1 := Lib.hid (K_1.out.next hB)
    replace K_2 := Lib.hid (K_2.out.next hB)
    replace K_t := Lib.hid (K_t.out.next hB)
    replace HB := Lib.hid (bt hB HB.out)
    clear hb hB
    have F_m := Lib.hid (rm)
    clear rm
    obtain ⟨c_f0, c_f1⟩ := box2 K_f.out
    have l_f := K_f.out.lt
    obtain ⟨c_x0, c_x1, c_x2, c_x3, c_x4⟩ := box5 K_x.out
    have l_x := K_x.out.lt
    obtain ⟨c_y0, c_y1, c_y2, c_y3, c_y4⟩ := box5 K_y.out
    have l_y := K_y.out.lt
    obtain ⟨c_10, c_11⟩ := box2 K_1.out
    have l_1 := K_1.out.lt
    obtain ⟨c_20, c_21⟩ := box2 K_2.out
    have l_2 := K_2.out.lt
    obtain ⟨c_t0, c_t1⟩ := box2 K_t.out
    have l_t := K_t.out.lt
    go_wp2_with fail
    clear c_f0 c_f1 l_f
    clear c_x0 c_x1 c_x2 c_x3 c_x4 l_x
    clear c_y0 c_y1 c_y2 c_y3 c_y4 l_y
    clear c_10 c_11 l_1
    clear c_20 c_21 l_2
    clear c_t0 c_t1 l_t
    refine (Load_n t.2.length t.1 1 [hx0] 0 t A7 c7 _ rfl rfl rfl HT2.out HT1.out F_t.out hc7 F_W.out).mono ?_
    rintro e V6 ⟨An, cn, rfl, hcn, rn, hb⟩
    have hB := hb
    replace F_W := Lib.hid (F_W.out.next hB)
    replace F_f := Lib.hid (F_f.out.next hB)
    replace F_1 := Lib.hid (F_1.out.next hB)
    replace F_b := Lib.hid (F_b.out.next hB)
    replace F_2 := Lib.hid (F_2.out.next hB)
    replace F_t := Lib.hid (F_t.out.next hB)
    replace F_m := Lib.hid (F_m.out.next hB)
    replace K_f := Lib.hid (K_f.out.next hB)
    replace K_x := Lib.hid (K_x.out.next hB)
    replace K_y := Lib.hid (K_y.out.next hB)
    replace K_1 := Lib.hid (K_1.out.next hB)
    replace K_2 := Lib.hid (K_2.out.next hB)
    replace K_t := Lib.hid (K_t.out.next hB)
    replace HB := Lib.hid (bt hB HB.out)
    clear hb hB
    have F_n := Lib.hid (rn)
    clear rn
    obtain ⟨c_f0, c_f1⟩ := box2 K_f.out
    have l_f := K_f.out.lt
    obtain ⟨c_x0, c_x1, c_x2, c_x3, c_x4⟩ := box5 K_x.out
    have l_x := K_x.out.lt
    obtain ⟨c_y0, c_y1, c_y2, c_y3, c_y4⟩ := box5 K_y.out
    have l_y := K_y.out.lt
    obtain ⟨c_10, c_11⟩ := box2 K_1.out
    have l_1 := K_1.out.lt
    obtain ⟨c_20, c_21⟩ := box2 K_2.out
    have l_2 := K_2.out.lt
    obtain ⟨c_t0, c_t1⟩ := box2 K_t.out
    have l_t := K_t.out.lt
    go_wp2_with fail
    clear c_f0 c_f1 l_f
    clear c_x0 c_x1 c_x2 c_x3 c_x4 l_x
    clear c_y0 c_y1 c_y2 c_y3 c_y4 l_y
    clear c_10 c_11 l_1
    clear c_20 c_21 l_2
    clear c_t0 c_t1 l_t
    refine (Next_lit 10 0 hv2 A2 c2 _ hh3.2.1 hh3.1 F_2.out hc2 F_W.out).mono ?_
    rintro e V7 ⟨rfl, hb⟩
    have hB := hb
    replace F_W := Lib.hid (F_W.out.next hB)
    replace F_f := Lib.hid (F_f.out.next hB)
    replace F_1 := Lib.hid (F_1.out.next hB)
    replace F_b := Lib.hid (F_b.out.next hB)
    replace F_2 := Lib.hid (F_2.out.next hB)
    replace F_t := Lib.hid (F_t.out.next hB)
    replace F_m := Lib.hid (F_m.out.next hB)
    replace F_n := Lib.hid (F_n.out.next hB)
    replace K_f := Lib.hid (K_f.out.next hB)
    replace K_x := Lib.hid (K_x.out.next hB)
    replace K_y := Lib.hid (K_y.out.next hB)
    replace K_1 := Lib.hid (K_1.out.next hB)
    replace K_2 := Lib.hid (K_2.out.next hB)
    replace K_t := Lib.hid (K_t.out.next hB)
    replace HB := Lib.hid (bt hB HB.out)
    clear hb hB
    obtain ⟨c_f0, c_f1⟩ := box2 K_f.out
    have l_f := K_f.out.lt
    obtain ⟨c_x0, c_x1, c_x2, c_x3, c_x4⟩ := box5 K_x.out
    have l_x := K_x.out.lt
    obtain ⟨c_y0, c_y1, c_y2, c_y3, c_y4⟩ := box5 K_y.out
    have l_y := K_y.out.lt
    obtain ⟨c_10, c_11⟩ := box2 K_1.out
    have l_1 := K_1.out.lt
    obtain ⟨c_20, c_21⟩ := box2 K_2.out
    have l_2 := K_2.out.lt
    obtain ⟨c_t0, c_t1⟩ := box2 K_t.out
    have l_t := K_t.out.lt
    go_wp2_with fail
    clear c_f0 c_f1 l_f
    clear c_x0 c_x1 c_x2 c_x3 c_x4 l_x
    clear c_y0 c_y1 c_y2 c_y3 c_y4 l_y
    clear c_10 c_11 l_1
    clear c_20 c_21 l_2
    clear c_t0 c_t1 l_t
    refine (Next_lit 1 0 hv0 Af cf _ hh3.2.2.2.1 hh3.2.2.1 F_f.out hcf F_W.out).mono ?_
    rintro e V8 ⟨rfl, hb⟩
    have hB := hb
    replace F_W := Lib.hid (F_W.out.next hB)
    replace F_f := Lib.hid (F_f.out.next hB)
    replace F_1 := Lib.hid (F_1.out.next hB)
    replace F_b := Lib.hid (F_b.out.next hB)
    replace F_2 := Lib.hid (F_2.out.next hB)
    replace F_t := Lib.hid (F_t.out.next hB)
    replace F_m := Lib.hid (F_m.out.next hB)
    replace F_n := Lib.hid (F_n.out.next hB)
    replace K_f := Lib.hid (K_f.out.next hB)
    replace K_x := Lib.hid (K_x.out.next hB)
    replace K_y := Lib.hid (K_y.out.next hB)
    replace K_1 := Lib.hid (K_1.out.next hB)
    replace K_2 := Lib.hid (K_2.out.next hB)
    replace K_t := Lib.hid (K_t.out.next hB)
    replace HB := Lib.hid (bt hB HB.out)
    clear hb hB
    obtain ⟨c_f0, c_f1⟩ := box2 K_f.out
    have l_f := K_f.out.lt
    obtain ⟨c_x0, c_x1, c_x2, c_x3, c_x4⟩ := box5 K_x.out
    have l_x := K_x.out.lt
    obtain ⟨c_y0, c_y1, c_y2, c_y3, c_y4⟩ := box5 K_y.out
    have l_y := K_y.out.lt
    obtain ⟨c_10, c_11⟩ := box2 K_1.out
    have l_1 := K_1.out.lt
    obtain ⟨c_20, c_21⟩ := box2 K_2.out
    have l_2 := K_2.out.lt
    obtain ⟨c_t0, c_t1⟩ := box2 K_t.out
    have l_t := K_t.out.lt
    go_wp2_with fail
    clear c_f0 c_f1 l_f
    clear c_x0 c_x1 c_x2 c_x3 c_x4 l_x
    clear c_y0 c_y1 c_y2 c_y3 c_y4 l_y
    clear c_10 c_11 l_1
    clear c_20 c_21 l_2
    clear c_t0 c_t1 l_t
    refine (Store_lit 0 12 hv2 hy0 105 A2 c2 _ hh3.2.2.2.2.2 hh3.2.2.2.2.1 F_2.out hc2 F_W.out).mono ?_
    rintro e V9 ⟨Ao, co, rfl, hco, ro, hb⟩
    have hB := hb
    replace F_W := Lib.hid (F_W.out.next hB)
    replace F_f := Lib.hid (F_f.out.next hB)
    replace F_1 := Lib.hid (F_1.out.next hB)
    replace F_b := Lib.hid (F_b.out.next hB)
    replace F_2 := Lib.hid (F_2.out.next hB)
    replace F_t := Lib.hid (F_t.out.next hB)
    replace F_m := Lib.hid (F_m.out.next hB)
    replace F_n := Lib.hid (F_n.out.next hB)
    replace K_f := Lib.hid (K_f.out.next hB)
    replace K_x := Lib.hid (K_x.out.next hB)
    replace K_y := Lib.hid (K_y.out.next hB)
    replace K_1 := Lib.hid (K_1.out.next hB)
    replace K_2 := Lib.hid (K_2.out.next hB)
    replace K_t := Lib.hid (K_t.out.next hB)
    replace HB := Lib.hid (bt hB HB.out)
    clear hb hB
    clear ro
    have hmk : ∀ w, (Instr.makeSlice 22 (.int .i64 1024) (.int .i64 1024)).run Tryz.prog w = .ok (.slice (some ⟨w.heap.size, 0, none⟩) 1024 1024) (w.alloc (.cells (u8s (List.replicate 1024 0)).toArray 5)) := fun w => by rw [← zeros_u8s]; exact run_make_u8 1024 (by omega) w
    obtain ⟨c_f0, c_f1⟩ := box2 K_f.out
    have l_f := K_f.out.lt
    obtain ⟨c_x0, c_x1, c_x2, c_x3, c_x4⟩ := box5 K_x.out
    have l_x := K_x.out.lt
    obtain ⟨c_y0, c_y1, c_y2, c_y3, c_y4⟩ := box5 K_y.out
    have l_y := K_y.out.lt
    obtain ⟨c_10, c_11⟩ := box2 K_1.out
    have l_1 := K_1.out.lt
    obtain ⟨c_20, c_21⟩ := box2 K_2.out
    have l_2 := K_2.out.lt
    obtain ⟨c_t0, c_t1⟩ := box2 K_t.out
    have l_t := K_t.out.lt
    go_wp2_with fail
    clear c_f0 c_f1 l_f
    clear c_x0 c_x1 c_x2 c_x3 c_x4 l_x
    clear c_y0 c_y1 c_y2 c_y3 c_y4 l_y
    clear c_10 c_11 l_1
    clear c_20 c_21 l_2
    clear c_t0 c_t1 l_t
    refine (Load_n 1024 512 0 [] 1 (512, List.replicate 1024 0) (some ⟨V9.heap.size, 0, none⟩) 1024 _ rfl (by simp) rfl hh4.2 hh4.1 (RdB.of_bk (Bk.new _ _ _) (by simp)) (by simp) (F_W.out.next (al1 _ _))).mono ?_
    rintro e V10 ⟨Az, cz, rfl, hcz, rz, hb⟩
    have hB := bt hb (al1 V9 _)
    replace F_W := Lib.hid (F_W.out.next hB)
    replace F_f := Lib.hid (F_f.out.next hB)
    replace F_1 := Lib.hid (F_1.out.next hB)
    replace F_b := Lib.hid (F_b.out.next hB)
    replace F_2 := Lib.hid (F_2.out.next hB)
    replace F_t := Lib.hid (F_t.out.next hB)
    replace F_m := Lib.hid (F_m.out.next hB)
    replace F_n := Lib.hid (F_n.out.next hB)
    replace K_f := Lib.hid (K_f.out.next hB)
    replace K_x := Lib.hid (K_x.out.next hB)
    replace K_y := Lib.hid (K_y.out.next hB)
    replace K_1 := Lib.hid (K_1.out.next hB)
    replace K_2 := Lib.hid (K_2.out.next hB)
    replace K_t := Lib.hid (K_t.out.next hB)
    replace HB := Lib.hid (bt hB HB.out)
    clear hb hB
    clear rz hmk
    obtain ⟨c_f0, c_f1⟩ := box2 K_f.out
    have l_f := K_f.out.lt
    obtain ⟨c_x0, c_x1, c_x2, c_x3, c_x4⟩ := box5 K_x.out
    have l_x := K_x.out.lt
    obtain ⟨c_y0, c_y1, c_y2, c_y3, c_y4⟩ := box5 K_y.out
    have l_y := K_y.out.lt
    obtain ⟨c_10, c_11⟩ := box2 K_1.out
    have l_1 := K_1.out.lt
    obtain ⟨c_20, c_21⟩ := box2 K_2.out
    have l_2 := K_2.out.lt
    obtain ⟨c_t0, c_t1⟩ := box2 K_t.out
    have l_t := K_t.out.lt
    go_wp2_with fail
    clear c_f0 c_f1 l_f
    clear c_x0 c_x1 c_x2 c_x3 c_x4 l_x
    clear c_y0 c_y1 c_y2 c_y3 c_y4 l_y
    clear c_10 c_11 l_1
    clear c_20 c_21 l_2
    clear c_t0 c_t1 l_t
    refine (Same_lit 2 2 [hx0, hy0] [hx0, hy0] Am (some ⟨V10.heap.size, 0, none⟩) cm 2 _ rfl rfl rfl (F_m.out.next (al1 _ _)) (rdL_xy (t := 26) (Bk.new _ _ _) (by simp)) (by simp)).mono ?_
    rintro e V11 ⟨rfl, hb⟩
    have hB := bt hb (al1 V10 _)
    replace F_W := Lib.hid (F_W.out.next hB)
    replace F_f := Lib.hid (F_f.out.next hB)
    replace F_1 := Lib.hid (F_1.out.next hB)
    replace F_b := Lib.hid (F_b.out.next hB)
    replace F_2 := Lib.hid (F_2.out.next hB)
    replace F_t := Lib.hid (F_t.out.next hB)
    replace F_m := Lib.hid (F_m.out.next hB)
    replace F_n := Lib.hid (F_n.out.next hB)
    replace K_f := Lib.hid (K_f.out.next hB)
    replace K_x := Lib.hid (K_x.out.next hB)
    replace K_y := Lib.hid (K_y.out.next hB)
    replace K_1 := Lib.hid (K_1.out.next hB)
    replace K_2 := Lib.hid (K_2.out.next hB)
    replace K_t := Lib.hid (K_t.out.next hB)
    replace HB := Lib.hid (bt hB HB.out)
    clear hb hB
    obtain ⟨c_f0, c_f1⟩ := box2 K_f.out
    have l_f := K_f.out.lt
    obtain ⟨c_x0, c_x1, c_x2, c_x3, c_x4⟩ := box5 K_x.out
    have l_x := K_x.out.lt
    obtain ⟨c_y0, c_y1, c_y2, c_y3, c_y4⟩ := box5 K_y.out
    have l_y := K_y.out.lt
    obtain ⟨c_10, c_11⟩ := box2 K_1.out
    have l_1 := K_1.out.lt
    obtain ⟨c_20, c_21⟩ := box2 K_2.out
    have l_2 := K_2.out.lt
    obtain ⟨c_t0, c_t1⟩ := box2 K_t.out
    have l_t := K_t.out.lt
    go_wp2_with fail
    clear c_f0 c_f1 l_f
    clear c_x0 c_x1 c_x2 c_x3 c_x4 l_x
    clear c_y0 c_y1 c_y2 c_y3 c_y4 l_y
    clear c_10 c_11 l_1
    clear c_20 c_21 l_2
    clear c_t0 c_t1 l_t
    refine (Same_lit 1 1 [hx0] [hx0] An (some ⟨V11.heap.size, 0, none⟩) cn 1 _ rfl rfl rfl (F_n.out.next (al1 _ _)) (rdL_x (t := 26) (Bk.new _ _ _) (by simp)) (by simp)).mono ?_
    rintro e V12 ⟨rfl, hb⟩
    have hB := bt hb (al1 V11 _)
    replace F_W := Lib.hid (F_W.out.next hB)
    replace F_f := Lib.hid (F_f.out.next hB)
    replace F_1 := Lib.hid (F_1.out.next hB)
    replace F_b := Lib.hid (F_b.out.next hB)
    replace F_2 := Lib.hid (F_2.out.next hB)
    replace F_t := Lib.hid (F_t.out.next hB)
    replace F_m := Lib.hid (F_m.out.next hB)
    replace F_n := Lib.hid (F_n.out.next hB)
    replace K_f := Lib.hid (K_f.out.next hB)
    replace K_x := Lib.hid (K_x.out.next hB)
    replace K_y := Lib.hid (K_y.out.next hB)
    replace K_1 := Lib.hid (K_1.out.next hB)
    replace K_2 := Lib.hid (K_2.out.next hB)
    replace K_t := Lib.hid (K_t.out.next hB)
    replace HB := Lib.hid (bt hB HB.out)
    clear hb hB
    go_wp2
    go_ret
    exact ⟨rfl, HB.out⟩
  · go_simp
    obtain ⟨W1, hW1⟩ : ∃ Zz, Zz = W0.alloc (.cells #[.int .i64 0, .slice none 0 0] 24) := ⟨_, rfl⟩
    have hx : Below W0.heap.size W0 W1 := by rw [hW1]; exact al1 _ _
    have kq : Bk W1 W0.heap.size 24 #[.int .i64 0, .slice none 0 0] := by rw [hW1]; exact Bk.new _ _ _
    rw [← hW1]
    clear hW1
    obtain ⟨q, hq⟩ : ∃ p, p = W0.heap.size := ⟨_, rfl⟩
    rw [← hq] at kq ⊢
    have hb1 := bt hx hb0
    have lq : V4.heap.size ≤ q := by rw [hq]; exact hb0.size
    refine hK _ _ (fun _ => HKS.out _ hb1) ?_
    clear hK K hq
    refine anyS_one (i := 6) (by kernel_rfl) rfl rfl (fun K hK => ?_)
    go_simp
    obtain ⟨W2, hW2⟩ : ∃ Zz, Zz = W1.alloc (.cells #[.int .i64 0, .slice none 0 0] 24) := ⟨_, rfl⟩
    have hx2 : Below W1.heap.size W1 W2 := by rw [hW2]; exact al1 _ _
    have kp : Bk W2 W1.heap.size 24 #[.int .i64 0, .slice none 0 0] := by rw [hW2]; exact Bk.new _ _ _
    rw [← hW2]
    clear hW2
    obtain ⟨p, hp⟩ : ∃ q, q = W1.heap.size := ⟨_, rfl⟩
    rw [← hp] at kp ⊢
    have hb2 := bt hx2 hb1
    have lp : V4.heap.size ≤ p := by rw [hp]; exact hb1.size
    have hne : p ≠ q := by have := kq.lt; omega
    replace kq := kq.next hx2
    refine hK _ _ (fun _ => HKS.out _ hb2) ?_
    clear hK K hp hx hx2 hb1
    obtain ⟨a0, a1⟩ := box2 kp
    have f0 := kp.frozen 0
    have f1 := kp.frozen 1
    have lp := kp.lt
    refine anyS_one (i := 8) (by kernel_rfl) rfl rfl (fun K hK => ?_)
    go_simp
    clear a0 a1 f0 f1 lp
    obtain ⟨W3, hW3⟩ : ∃ Zz, Zz = (W2.setCell ⟨p, 0, none⟩ (.int .i64 hv2.1)).setCell ⟨p, 1, none⟩ (.slice A2 hv2.2.length c2) := ⟨_, rfl⟩
    have hb3 : Below V4.heap.size V4 W3 := by rw [hW3]; exact (hb2.setCell (p := ⟨p, 0, none⟩) lp _).setCell (p := ⟨p, 1, none⟩) lp _
    have mp : Bk W3 p 24 #[.int .i64 hv2.1, .slice A2 hv2.2.length c2] := by rw [hW3]; exact (by simpa using (kp.set 0 (.int .i64 hv2.1)).set 1 (.slice A2 hv2.2.length c2))
    have mq : Bk W3 q 24 #[.int .i64 0, .slice none 0 0] := by rw [hW3]; exact ((kq.far (p := ⟨p, 0, none⟩) (Ne.symm hne) _).far (p := ⟨p, 1, none⟩) (Ne.symm hne) _)
    rw [← hW3]
    clear hW3
    refine hK _ _ (fun _ => HKS.out _ hb3) ?_
    clear hK K kp kq hb2
    have kp := mp
    have kq := mq
    clear mp mq
    obtain ⟨a0, a1⟩ := box2 kq
    have f0 := kq.frozen 0
    have f1 := kq.frozen 1
    have lp := kq.lt
    refine anyS_one (i := 9) (by kernel_rfl) rfl rfl (fun K hK => ?_)
    go_simp
    clear a0 a1 f0 f1 lp
    obtain ⟨W4, hW4⟩ : ∃ Zz, Zz = (W3.setCell ⟨q, 0, none⟩ (.int .i64 t.1)).setCell ⟨q, 1, none⟩ (.slice A7 t.2.length c7) := ⟨_, rfl⟩
    have hb4 : Below V4.heap.size V4 W4 := by rw [hW4]; exact (hb3.setCell (p := ⟨q, 0, none⟩) lq _).setCell (p := ⟨q, 1, none⟩) lq _
    have mq : Bk W4 q 24 #[.int .i64 t.1, .slice A7 t.2.length c7] := by rw [hW4]; exact (by simpa using (kq.set 0 (.int .i64 t.1)).set 1 (.slice A7 t.2.length c7))
    have mp : Bk W4 p 24 #[.int .i64 hv2.1, .slice A2 hv2.2.length c2] := by rw [hW4]; exact ((kp.far (p := ⟨q, 0, none⟩) (hne) _).far (p := ⟨q, 1, none⟩) (hne) _)
    rw [← hW4]
    clear hW4
    refine hK _ _ (fun h => absurd rfl h) ?_
    clear hK K hb3 kp kq
    refine anyS_done (by kernel_rfl) ?_ _
    simp only [normPost]
    clear HKS hb0
    replace F_W := Lib.hid (F_W.out.next hb4)
    replace F_f := Lib.hid (F_f.out.next hb4)
    replace F_1 := Lib.hid (F_1.out.next hb4)
    replace F_b := Lib.hid (F_b.out.next hb4)
    replace F_2 := Lib.hid (F_2.out.next hb4)
    replace F_t := Lib.hid (F_t.out.next hb4)
    replace K_f := Lib.hid (K_f.out.next hb4)
    replace K_x := Lib.hid (K_x.out.next hb4)
    replace K_y := Lib.hid (K_y.out.next hb4)
    replace K_1 := Lib.hid (K_1.out.next hb4)
    replace HB := Lib.hid (bt hb4 HB.out)
    clear hb4
    have K_2 := Lib.hid (mp)
    have K_t := Lib.hid (mq)
    clear mp mq hne lp lq
    obtain ⟨c_f0, c_f1⟩ := box2 K_f.out
    have l_f := K_f.out.lt
    obtain ⟨c_x0, c_x1, c_x2, c_x3, c_x4⟩ := box5 K_x.out
    have l_x := K_x.out.lt
    obtain ⟨c_y0, c_y1, c_y2, c_y3, c_y4⟩ := box5 K_y.out
    have l_y := K_y.out.lt
    obtain ⟨c_10, c_11⟩ := box2 K_1.out
    have l_1 := K_1.out.lt
    obtain ⟨c_20, c_21⟩ := box2 K_2.out
    have l_2 := K_2.out.lt
    obtain ⟨c_t0, c_t1⟩ := box2 K_t.out
    have l_t := K_t.out.lt
    go_wp2_with fail
    clear c_f0 c_f1 l_f
    clear c_x0 c_x1 c_x2 c_x3 c_x4 l_x
    clear c_y0 c_y1 c_y2 c_y3 c_y4 l_y
    clear c_10 c_11 l_1
    clear c_20 c_21 l_2
    clear c_t0 c_t1 l_t
    refine (Load_n hv2.2.length hv2.1 2 [hx0, hy0] 0 hv2 A2 c2 _ rfl rfl rfl hh2.2.2.2.2.2 hh2.2.2.2.2.1 F_2.out hc2 F_W.out).mono ?_
    rintro e V5 ⟨Am, cm, rfl, hcm, rm, hb⟩
    have hB := hb
    replace F_W := Lib.hid (F_W.out.next hB)
    replace F_f := Lib.hid (F_f.out.next hB)
    replace F_1 := Lib.hid (F_1.out.next hB)
    replace F_b := Lib.hid (F_b.out.next hB)
    replace F_2 := Lib.hid (F_2.out.next hB)
    replace F_t := Lib.hid (F_t.out.next hB)
    replace K_f := Lib.hid (K_f.out.next hB)
    replace K_x := Lib.hid (K_x.out.next hB)
    replace K_y := Lib.hid (K_y.out.next hB)
    replace K_1 := Lib.hid (K_1.out.next hB)
    replace K_2 := Lib.hid (K_2.out.next hB)
    replace K_t := Lib.hid (K_t.out.next hB)
    replace HB := Lib.hid (bt hB HB.out)
    clear hb hB
    have F_m := Lib.hid (rm)
    clear rm
    obtain ⟨c_f0, c_f1⟩ := box2 K_f.out
    have l_f := K_f.out.lt
    obtain ⟨c_x0, c_x1, c_x2, c_x3, c_x4⟩ := box5 K_x.out
    have l_x := K_x.out.lt
    obtain ⟨c_y0, c_y1, c_y2, c_y3, c_y4⟩ := box5 K_y.out
    have l_y := K_y.out.lt
    obtain ⟨c_10, c_11⟩ := box2 K_1.out
    have l_1 := K_1.out.lt
    obtain ⟨c_20, c_21⟩ := box2 K_2.out
    have l_2 := K_2.out.lt
    obtain ⟨c_t0, c_t1⟩ := box2 K_t.out
    have l_t := K_t.out.lt
    go_wp2_with fail
    clear c_f0 c_f1 l_f
    clear c_x0 c_x1 c_x2 c_x3 c_x4 l_x
    clear c_y0 c_y1 c_y2 c_y3 c_y4 l_y
    clear c_10 c_11 l_1
    clear c_20 c_21 l_2
    clear c_t0 c_t1 l_t
    refine (Load_n t.2.length t.1 1 [hx0] 0 t A7 c7 _ rfl rfl rfl HT2.out HT1.out F_t.out hc7 F_W.out).mono ?_
    rintro e V6 ⟨An, cn, rfl, hcn, rn, hb⟩
    have hB := hb
    replace F_W := Lib.hid (F_W.out.next hB)
    replace F_f := Lib.hid (F_f.out.next hB)
    replace F_1 := Lib.hid (F_1.out.next hB)
    replace F_b := Lib.hid (F_b.out.next hB)
    replace F_2 := Lib.hid (F_2.out.next hB)
    replace F_t := Lib.hid (F_t.out.next hB)
    replace F_m := Lib.hid (F_m.out.next hB)
    replace K_f := Lib.hid (K_f.out.next hB)
    replace K_x := Lib.hid (K_x.out.next hB)
    replace K_y := Lib.hid (K_y.out.next hB)
    replace K_1 := Lib.hid (K_1.out.next hB)
    replace K_2 := Lib.hid (K_2.out.next hB)
    replace K_t := Lib.hid (K_t.out.next hB)
    replace HB := Lib.hid (bt hB HB.out)
    clear hb hB
    have F_n := Lib.hid (rn)
    clear rn
    obtain ⟨c_f0, c_f1⟩ := box2 K_f.out
    have l_f := K_f.out.lt
    obtain ⟨c_x0, c_x1, c_x2, c_x3, c_x4⟩ := box5 K_x.out
    have l_x := K_x.out.lt
    obtain ⟨c_y0, c_y1, c_y2, c_y3, c_y4⟩ := box5 K_y.out
    have l_y := K_y.out.lt
    obtain ⟨c_10, c_11⟩ := box2 K_1.out
    have l_1 := K_1.out.lt
    obtain ⟨c_20, c_21⟩ := box2 K_2.out
    have l_2 := K_2.out.lt
    obtain ⟨c_t0, c_t1⟩ := box2 K_t.out
    have l_t := K_t.out.lt
    go_wp2_with fail
    clear c_f0 c_f1 l_f
    clear c_x0 c_x1 c_x2 c_x3 c_x4 l_x
    clear c_y0 c_y1 c_y2 c_y3 c_y4 l_y
    clear c_10 c_11 l_1
    clear c_20 c_21 l_2
    clear c_t0 c_t1 l_t
    refine (Next_lit 10 0 hv2 A2 c2 _ hh3.2.1 hh3.1 F_2.out hc2 F_W.out).mono ?_
    rintro e V7 ⟨rfl, hb⟩
    have hB := hb
    replace F_W := Lib.hid (F_W.out.next hB)
    replace F_f := Lib.hid (F_f.out.next hB)
    replace F_1 := Lib.hid (F_1.out.next hB)
    replace F_b := Lib.hid (F_b.out.next hB)
    replace F_2 := Lib.hid (F_2.out.next hB)
    replace F_t := Lib.hid (F_t.out.next hB)
    replace F_m := Lib.hid (F_m.out.next hB)
    replace F_n := Lib.hid (F_n.out.next hB)
    replace K_f := Lib.hid (K_f.out.next hB)
    replace K_x := Lib.hid (K_x.out.next hB)
    replace K_y := Lib.hid (K_y.out.next hB)
    replace K_1 := Lib.hid (K_1.out.next hB)
    replace K_2 := Lib.hid (K_2.out.next hB)
    replace K_t := Lib.hid (K_t.out.next hB)
    replace HB := Lib.hid (bt hB HB.out)
    clear hb hB
    obtain ⟨c_f0, c_f1⟩ := box2 K_f.out
    have l_f := K_f.out.lt
    obtain ⟨c_x0, c_x1, c_x2, c_x3, c_x4⟩ := box5 K_x.out
    have l_x := K_x.out.lt
    obtain ⟨c_y0, c_y1, c_y2, c_y3, c_y4⟩ := box5 K_y.out
    have l_y := K_y.out.lt
    obtain ⟨c_10, c_11⟩ := box2 K_1.out
    have l_1 := K_1.out.lt
    obtain ⟨c_20, c_21⟩ := box2 K_2.out
    have l_2 := K_2.out.lt
    obtain ⟨c_t0, c_t1⟩ := box2 K_t.out
    have l_t := K_t.out.lt
    go_wp2_with fail
    clear c_f0 c_f1 l_f
    clear c_x0 c_x1 c_x2 c_x3 c_x4 l_x
    clear c_y0 c_y1 c_y2 c_y3 c_y4 l_y
    clear c_10 c_11 l_1
    clear c_20 c_21 l_2
    clear c_t0 c_t1 l_t
    refine (Next_lit 1 0 hv0 Af cf _ hh3.2.2.2.1 hh3.2.2.1 F_f.out hcf F_W.out).mono ?_
    rintro e V8 ⟨rfl, hb⟩
    have hB := hb
    replace F_W := Lib.hid (F_W.out.next hB)
    replace F_f := Lib.hid (F_f.out.next hB)
    replace F_1 := Lib.hid (F_1.out.next hB)
    replace F_b := Lib.hid (F_b.out.next hB)
    replace F_2 := Lib.hid (F_2.out.next hB)
    replace F_t := Lib.hid (F_t.out.next hB)
    replace F_m := Lib.hid (F_m.out.next hB)
    replace F_n := Lib.hid (F_n.out.next hB)
    replace K_f := Lib.hid (K_f.out.next hB)
    replace K_x := Lib.hid (K_x.out.next hB)
    replace K_y := Lib.hid (K_y.out.next hB)
    replace K_1 := Lib.hid (K_1.out.next hB)
    replace K_2 := Lib.hid (K_2.out.next hB)
    replace K_t := Lib.hid (K_t.out.next hB)
    replace HB := Lib.hid (bt hB HB.out)
    clear hb hB
    obtain ⟨c_f0, c_f1⟩ := box2 K_f.out
    have l_f := K_f.out.lt
    obtain ⟨c_x0, c_x1, c_x2, c_x3, c_x4⟩ := box5 K_x.out
    have l_x := K_x.out.lt
    obtain ⟨c_y0, c_y1, c_y2, c_y3, c_y4⟩ := box5 K_y.out
    have l_y := K_y.out.lt
    obtain ⟨c_10, c_11⟩ := box2 K_1.out
    have l_1 := K_1.out.lt
    obtain ⟨c_20, c_21⟩ := box2 K_2.out
    have l_2 := K_2.out.lt
    obtain ⟨c_t0, c_t1⟩ := box2 K_t.out
    have l_t := K_t.out.lt
    go_wp2_with fail
    clear c_f0 c_f1 l_f
    clear c_x0 c_x1 c_x2 c_x3 c_x4 l_x
    clear c_y0 c_y1 c_y2 c_y3 c_y4 l_y
    clear c_10 c_11 l_1
    clear c_20 c_21 l_2
    clear c_t0 c_t1 l_t
    refine (Store_lit 0 12 hv2 hy0 105 A2 c2 _ hh3.2.2.2.2.2 hh3.2.2.2.2.1 F_2.out hc2 F_W.out).mono ?_
    rintro e V9 ⟨Ao, co, rfl, hco, ro, hb⟩
    have hB := hb
    replace F_W := Lib.hid (F_W.out.next hB)
    replace F_f := Lib.hid (F_f.out.next hB)
    replace F_1 := Lib.hid (F_1.out.next hB)
    replace F_b := Lib.hid (F_b.out.next hB)
    replace F_2 := Lib.hid (F_2.out.next hB)
    replace F_t := Lib.hid (F_t.out.next hB)
    replace F_m := Lib.hid (F_m.out.next hB)
    replace F_n := Lib.hid (F_n.out.next hB)
    replace K_f := Lib.hid (K_f.out.next hB)
    replace K_x := Lib.hid (K_x.out.next hB)
    replace K_y := Lib.hid (K_y.out.next hB)
    replace K_1 := Lib.hid (K_1.out.next hB)
    replace K_2 := Lib.hid (K_2.out.next hB)
    replace K_t := Lib.hid (K_t.out.next hB)
    replace HB := Lib.hid (bt hB HB.out)
    clear hb hB
    clear ro
    have hmk : ∀ w, (Instr.makeSlice 22 (.int .i64 1024) (.int .i64 1024)).run Tryz.prog w = .ok (.slice (some ⟨w.heap.size, 0, none⟩) 1024 1024) (w.alloc (.cells (u8s (List.replicate 1024 0)).toArray 5)) := fun w => by rw [← zeros_u8s]; exact run_make_u8 1024 (by omega) w
    obtain ⟨c_f0, c_f1⟩ := box2 K_f.out
    have l_f := K_f.out.lt
    obtain ⟨c_x0, c_x1, c_x2, c_x3, c_x4⟩ := box5 K_x.out
    have l_x := K_x.out.lt
    obtain ⟨c_y0, c_y1, c_y2, c_y3, c_y4⟩ := box5 K_y.out
    have l_y := K_y.out.lt
    obtain ⟨c_10, c_11⟩ := box2 K_1.out
    have l_1 := K_1.out.lt
    obtain ⟨c_20, c_21⟩ := box2 K_2.out
    have l_2 := K_2.out.lt
    obtain ⟨c_t0, c_t1⟩ := box2 K_t.out
    have l_t := K_t.out.lt
    go_wp2_with fail
    clear c_f0 c_f1 l_f
    clear c_x0 c_x1 c_x2 c_x3 c_x4 l_x
    clear c_y0 c_y1 c_y2 c_y3 c_y4 l_y
    clear c_10 c_11 l_1
    clear c_20 c_21 l_2
    clear c_t0 c_t1 l_t
    refine (Load_n 1024 512 0 [] 1 (512, List.replicate 1024 0) (some ⟨V9.heap.size, 0, none⟩) 1024 _ rfl (by simp) rfl hh4.2 hh4.1 (RdB.of_bk (Bk.new _ _ _) (by simp)) (by simp) (F_W.out.next (al1 _ _))).mono ?_
    rintro e V10 ⟨Az, cz, rfl, hcz, rz, hb⟩
    have hB := bt hb (al1 V9 _)
    replace F_W := Lib.hid (F_W.out.next hB)
    replace F_f := Lib.hid (F_f.out.next hB)
    replace F_1 := Lib.hid (F_1.out.next hB)
    replace F_b := Lib.hid (F_b.out.next hB)
    replace F_2 := Lib.hid (F_2.out.next hB)
    replace F_t := Lib.hid (F_t.out.next hB)
    replace F_m := Lib.hid (F_m.out.next hB)
    replace F_n := Lib.hid (F_n.out.next hB)
    replace K_f := Lib.hid (K_f.out.next hB)
    replace K_x := Lib.hid (K_x.out.next hB)
    replace K_y := Lib.hid (K_y.out.next hB)
    replace K_1 := Lib.hid (K_1.out.next hB)
    replace K_2 := Lib.hid (K_2.out.next hB)
    replace K_t := Lib.hid (K_t.out.next hB)
    replace HB := Lib.hid (bt hB HB.out)
    clear hb hB
    clear rz hmk
    obtain ⟨c_f0, c_f1⟩ := box2 K_f.out
    have l_f := K_f.out.lt
    obtain ⟨c_x0, c_x1, c_x2, c_x3, c_x4⟩ := box5 K_x.out
    have l_x := K_x.out.lt
    obtain ⟨c_y0, c_y1, c_y2, c_y3, c_y4⟩ := box5 K_y.out
    have l_y := K_y.out.lt
    obtain ⟨c_10, c_11⟩ := box2 K_1.out
    have l_1 := K_1.out.lt
    obtain ⟨c_20, c_21⟩ := box2 K_2.out
    have l_2 := K_2.out.lt
    obtain ⟨c_t0, c_t1⟩ := box2 K_t.out
    have l_t := K_t.out.lt
    go_wp2_with fail
    clear c_f0 c_f1 l_f
    clear c_x0 c_x1 c_x2 c_x3 c_x4 l_x
    clear c_y0 c_y1 c_y2 c_y3 c_y4 l_y
    clear c_10 c_11 l_1
    clear c_20 c_21 l_2
    clear c_t0 c_t1 l_t
    refine (Same_lit 2 2 [hx0, hy0] [hx0, hy0] Am (some ⟨V10.heap.size, 0, none⟩) cm 2 _ rfl rfl rfl (F_m.out.next (al1 _ _)) (rdL_xy (t := 26) (Bk.new _ _ _) (by simp)) (by simp)).mono ?_
    rintro e V11 ⟨rfl, hb⟩
    have hB := bt hb (al1 V10 _)
    replace F_W := Lib.hid (F_W.out.next hB)
    replace F_f := Lib.hid (F_f.out.next hB)
    replace F_1 := Lib.hid (F_1.out.next hB)
    replace F_b := Lib.hid (F_b.out.next hB)
    replace F_2 := Lib.hid (F_2.out.next hB)
    replace F_t := Lib.hid (F_t.out.next hB)
    replace F_m := Lib.hid (F_m.out.next hB)
    replace F_n := Lib.hid (F_n.out.next hB)
    replace K_f := Lib.hid (K_f.out.next hB)
    replace K_x := Lib.hid (K_x.out.next hB)
    replace K_y := Lib.hid (K_y.out.next hB)
    replace K_1 := Lib.hid (K_1.out.next hB)
    replace K_2 := Lib.hid (K_2.out.next hB)
    replace K_t := Lib.hid (K_t.out.next hB)
    replace HB := Lib.hid (bt hB HB.out)
    clear hb hB
    obtain ⟨c_f0, c_f1⟩ := box2 K_f.out
    have l_f := K_f.out.lt
    obtain ⟨c_x0, c_x1, c_x2, c_x3, c_x4⟩ := box5 K_x.out
    have l_x := K_x.out.lt
    obtain ⟨c_y0, c_y1, c_y2, c_y3, c_y4⟩ := box5 K_y.out
    have l_y := K_y.out.lt
    obtain ⟨c_10, c_11⟩ := box2 K_1.out
    have l_1 := K_1.out.lt
    obtain ⟨c_20, c_21⟩ := box2 K_2.out
    have l_2 := K_2.out.lt
    obtain ⟨c_t0, c_t1⟩ := box2 K_t.out
    have l_t := K_t.out.lt
    go_wp2_with fail
    clear c_f0 c_f1 l_f
    clear c_x0 c_x1 c_x2 c_x3 c_x4 l_x
    clear c_y0 c_y1 c_y2 c_y3 c_y4 l_y
    clear c_10 c_11 l_1
    clear c_20 c_21 l_2
    clear c_t0 c_t1 l_t
    refine (Same_lit 1 1 [hx0] [hx0] An (some ⟨V11.heap.size, 0, none⟩) cn 1 _ rfl rfl rfl (F_n.out.next (al1 _ _)) (rdL_x (t := 26) (Bk.new _ _ _) (by simp)) (by simp)).mono ?_
    rintro e V12 ⟨rfl, hb⟩
    have hB := bt hb (al1 V11 _)
    replace F_W := Lib.hid (F_W.out.next hB)
    replace F_f := Lib.hid (F_f.out.next hB)
    replace F_1 := Lib.hid (F_1.out.next hB)
    replace F_b := Lib.hid (F_b.out.next hB)
    replace F_2 := Lib.hid (F_2.out.next hB)
    replace F_t := Lib.hid (F_t.out.next hB)
    replace F_m := Lib.hid (F_m.out.next hB)
    replace F_n := Lib.hid (F_n.out.next hB)
    replace K_f := Lib.hid (K_f.out.next hB)
    replace K_x := Lib.hid (K_x.out.next hB)
    replace K_y := Lib.hid (K_y.out.next hB)
    replace K_1 := Lib.hid (K_1.out.next hB)
    replace K_2 := Lib.hid (K_2.out.next hB)
    replace K_t := Lib.hid (K_t.out.next hB)
    replace HB := Lib.hid (bt hB HB.out)
    clear hb hB
    go_wp2
    go_ret
    exact ⟨rfl, HB.out⟩
end Go.Proofs.YthebojaminploaaGreatDoor
