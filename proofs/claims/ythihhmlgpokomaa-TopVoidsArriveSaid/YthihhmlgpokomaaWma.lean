/- hub: Receive: a message that waits, the box is there. -/
import Derived.Test.YthihhmlgpokomaaWm
import Derived.Test.YthihhmlgpokomaaWq
import Derived.Lib.QuietBelow
set_option maxRecDepth 100000
set_option linter.unusedVariables false
set_option linter.unusedSimpArgs false
namespace Go.Proofs.Ythihhmlgpokomaa
open Go.RowKit Go.Sort

set_option maxHeartbeats 4000000 in
theorem Receive_one_wait (n k b o c : Nat) (D : Option Addr) (d : Nat) (s : Ib) (w : World) (hx : Bx1 w b o D d s) (hs : Iv n s) (hn : n ≤ 64) (hc : 1 ≤ c) (hk : k < n) (hng : ¬ Gt s k) (hsk : s.1 < k) :
    Calls Try.prog 14 #[.slice (some ⟨b, o, none⟩) 1 c, .agg #[.int .i64 7, .int .i64 ((k : Int) + 1), .int .i64 (k : Int)]] w (RcvPost s k w) := by
  have hgk : ¬ k < s.1 := fun h => hng (.inl h)
  have HLT : Hid (s.2.length < 64) := Lib.hid (by have := hs.len_lt (by omega); omega)
  have HBQ : Hid (decide (k ∈ s.2) = false) := Lib.hid (decide_eq_false (fun h => hng (.inr h)))
  have hk64 : k < 64 := by omega
  have hs1 := hs.le
  have hs2 := hs.len
  obtain ⟨p, hp⟩ : ∃ p, plc s.2 k = p := ⟨_, rfl⟩
  obtain ⟨hpl, _, _⟩ := plc_spec k s.2 hs.inc
  rw [hp] at hpl
  have HP := Lib.hid hp
  have HS := Lib.hid hs
  have HB := Lib.hid (Below.refl w.heap.size w)
  clear hs hp
  have F_x := Lib.hid hx
  clear hx
  go_enter Try.func14, Try.ntmps14
  go_wp2_with fail
  refine (hValid_one n b o c D d s _ (F_x.out.next (al1 _ _)) HS.out hn hc).mono ?_
  rintro e V1 ⟨rfl, hb⟩
  have hB := bt hb (al1 w _)
  have K_m : Hid (Bk V1 (w.heap.size) 50 #[.int .i64 7, .int .i64 ((k : Int) + 1), .int .i64 (k : Int)]) := Bk.next (by first | exact Bk.new _ _ _ | exact (Bk.new _ _ _).alloc _ | exact ((Bk.new _ _ _).alloc _).alloc _ | exact bkOf (by simp [at?_alloc])) hb
  replace F_x := Lib.hid (F_x.out.next hB)
  replace HB := Lib.hid (bt hB HB.out)
  clear hb hB
  obtain ⟨c_m0, c_m1, c_m2⟩ := box3 K_m.out
  have l_m := K_m.out.lt
  go_wp2_with fail
  clear c_m0 c_m1 c_m2 l_m
  refine (validMessage_yes k _ hk64).mono ?_
  rintro e V2 ⟨rfl, hb⟩
  have hB := hb
  replace F_x := Lib.hid (F_x.out.next hB)
  replace K_m := Lib.hid (K_m.out.next hB)
  replace HB := Lib.hid (bt hB HB.out)
  clear hb hB
  obtain ⟨c_m0, c_m1, c_m2⟩ := box3 K_m.out
  have l_m := K_m.out.lt
  go_wp2_with fail
  clear c_m0 c_m1 c_m2 l_m
  refine (findB_one b o c D d s _ F_x.out hc).mono ?_
  rintro e V3 ⟨rfl, hb⟩
  have hB := hb
  replace F_x := Lib.hid (F_x.out.next hB)
  replace K_m := Lib.hid (K_m.out.next hB)
  replace HB := Lib.hid (bt hB HB.out)
  clear hb hB
  obtain ⟨lb, z0, z1, z2, hd, _⟩ := F_x.out
  obtain ⟨c_m0, c_m1, c_m2⟩ := box3 K_m.out
  have l_m := K_m.out.lt
  go_wp2_with fail
  clear c_m0 c_m1 c_m2 l_m
  refine (findM_any s.2 k p false D d _ HS.out.inc HP.out HBQ.out (by omega) (F_x.out.next (al1 _ _)).rd (by omega)).mono ?_
  rintro e V4 ⟨rfl, hb⟩
  have hB := bt hb (al1 V3 _)
  have K_b : Hid (Bk V4 (V3.heap.size) 69 #[.int .i64 7, .int .i64 ((s.1 : Int) + 1), .slice D s.2.length d]) := Bk.next (by first | exact Bk.new _ _ _ | exact (Bk.new _ _ _).alloc _ | exact ((Bk.new _ _ _).alloc _).alloc _ | exact bkOf (by simp [at?_alloc])) hb
  replace F_x := Lib.hid (F_x.out.next hB)
  replace K_m := Lib.hid (K_m.out.next hB)
  replace HB := Lib.hid (bt hB HB.out)
  clear hb hB
  clear lb z0 z1 z2
  obtain ⟨c_m0, c_m1, c_m2⟩ := box3 K_m.out
  have l_m := K_m.out.lt
  obtain ⟨c_b0, c_b1, c_b2⟩ := box3 K_b.out
  have l_b := K_b.out.lt
  go_wp2_with fail
  clear c_m0 c_m1 c_m2 l_m
  clear c_b0 c_b1 c_b2 l_b
  refine (check_one k n s D d b o c _ F_x.out hc (by omega) (by omega) HLT.out hgk).mono ?_
  rintro e V5 ⟨rfl, hb⟩
  have hB := hb
  replace F_x := Lib.hid (F_x.out.next hB)
  replace K_m := Lib.hid (K_m.out.next hB)
  replace K_b := Lib.hid (K_b.out.next hB)
  replace HB := Lib.hid (bt hB HB.out)
  clear hb hB
  obtain ⟨c_m0, c_m1, c_m2⟩ := box3 K_m.out
  have l_m := K_m.out.lt
  obtain ⟨c_b0, c_b1, c_b2⟩ := box3 K_b.out
  have l_b := K_b.out.lt
  go_wp2_with fail
  clear c_m0 c_m1 c_m2 l_m
  clear c_b0 c_b1 c_b2 l_b
  have HB0 := HB.out.size
  have hlm := K_m.out.lt
  refine (dup_one b o c D d s _ F_x.out hc (by omega)).mono ?_
  rintro e VV ⟨_, rfl, g, cap, D', d', rfl, hg, hbt, hcap, hown, hb⟩
  replace F_x := Lib.hid (F_x.out.next hb)
  replace K_m := Lib.hid (K_m.out.next hb)
  replace K_b := Lib.hid (K_b.out.next hb)
  replace HB := Lib.hid (bt hb HB.out)
  have hgw : V5.heap.size ≤ g := hg
  have HOW : Hid (VV.ownsRow w.heap.size 50 3 (.slice D' s.2.length d') s.2.length (encs msE s.2)) := Lib.hid (own_mono hown HB0)
  have HBT := Lib.hid hbt
  have hdd : s.2.length ≤ d' := by
    obtain ⟨A9, c9, e9, h9, _⟩ := own_read hown
    injection e9 with _ _ e9
    omega
  clear hbt hb hown
  have hgw0 := hgw
  have hws : w.heap.size ≤ g := Nat.le_trans HB0 hgw0
  have HKK : Hid (w.heap.size ≤ g) := Lib.hid hws
  have hgs : w.heap.size ≤ g := HKK.out
  obtain ⟨Bm, hBm⟩ : ∃ Bm, Bm = w.heap.size := ⟨_, rfl⟩
  rw [← hBm] at K_m ⊢
  have KM := K_m
  have hgm : Bm ≠ g := by have := hlm; omega
  clear K_m hBm hgw
  have l1 : (s.1 : Int) + 1 < (k : Int) + 1 := by omega
  have l2 : (s.1 : Int) < (k : Int) := by omega
  obtain ⟨m0, m1, m2⟩ := box3 KM.out
  have lm := KM.out.lt
  have g0 := HBT.out.cell (i := 0) rfl
  have g1 := HBT.out.cell (i := 1) rfl
  have g2 := HBT.out.cell (i := 2) rfl
  have lg := HBT.out.lt
  go_wp2
  have Rm0 := cell_regrown m0
  have Rm1 := cell_regrown m1
  have Rm2 := cell_regrown m2
  have Rg0 := cell_regrown g0
  have Rg1 := cell_regrown g1
  have Rg2 := cell_regrown g2
  refine wp_region_quiet_below (by kernel_rfl) (by kernel_rfl) ?_
  repeat (first | go_big_quiet_step (fail) | quiet_step (fail))
  refine wpQuiet_nil ?_
  intro _ hw'
  obtain ⟨⟨dq, osq⟩, hw''⟩ := hw'
  subst hw''
  obtain ⟨V9, hV9⟩ : ∃ V, V = grow (redrawn VV dq) osq := ⟨_, rfl⟩
  have hbV9 : Below VV.heap.size VV V9 := by rw [hV9]; exact below_regrown _ _ _
  rw [← hV9]
  clear hV9
  clear Rm0
  clear Rm1
  clear Rm2
  clear Rg0
  clear Rg1
  clear Rg2
  clear m0 m1 m2 lm g0 g1 g2 lg
  replace KM := Lib.hid (KM.out.next hbV9)
  replace HBT := Lib.hid (HBT.out.next hbV9)
  replace HOW := Lib.hid (own_on HOW.out hbV9)
  replace HB := Lib.hid (bt hbV9 HB.out)
  clear hbV9
  obtain ⟨m0, m1, m2⟩ := box3 KM.out
  have lm := KM.out.lt
  have g0 := HBT.out.cell (i := 0) rfl
  have g1 := HBT.out.cell (i := 1) rfl
  have g2 := HBT.out.cell (i := 2) rfl
  have lg := HBT.out.lt
  go_wp2
  refine region_S (fun w' => w'.cell? ⟨Bm, 0, none⟩ = some (.int .i64 7) ∧ w'.cell? ⟨Bm, 1, none⟩ = some (.int .i64 ((k : Int) + 1)) ∧ w'.cell? ⟨Bm, 2, none⟩ = some (.int .i64 (k : Int)) ∧ w'.cell? ⟨g, 2, none⟩ = some (.slice D' s.2.length d')) 10 (by kernel_rfl) ?_
  obtain ⟨X0, hX0⟩ : ∃ Zz, Zz = V9.drew := ⟨_, rfl⟩
  have hx0 : Below V9.heap.size V9 X0 := by rw [hX0]; exact (Below.refl _ _).drew
  rw [← hX0]
  clear hX0
  clear m0 m1 m2 lm g0 g1 g2 lg
  replace KM := Lib.hid (KM.out.next hx0)
  replace HBT := Lib.hid (HBT.out.next hx0)
  replace HOW := Lib.hid (own_on HOW.out hx0)
  replace HB := Lib.hid (bt hx0 HB.out)
  clear hx0
  have HKS : Hid (∀ w', Below X0.heap.size X0 w' → (w'.cell? ⟨Bm, 0, none⟩ = some (.int .i64 7) ∧ w'.cell? ⟨Bm, 1, none⟩ = some (.int .i64 ((k : Int) + 1)) ∧ w'.cell? ⟨Bm, 2, none⟩ = some (.int .i64 (k : Int)) ∧ w'.cell? ⟨g, 2, none⟩ = some (.slice D' s.2.length d'))) := Lib.hid (fun w' hW => ⟨(box3 (KM.out.next hW)).1, (box3 (KM.out.next hW)).2.1, (box3 (KM.out.next hW)).2.2, (HBT.out.next hW).cell (i := 2) rfl⟩)
  have HS0 := HKS.out _ (Below.refl _ _)
  refine anyS_take (i := 0) rfl (by kernel_rfl) (by kernel_rfl) (by kernel_rfl) (by kernel_rfl) (fun _ _ _ h => h) (Or.inl ⟨by rfl, fun w' hS' => (by obtain ⟨s1, s2, s3, s4⟩ := hS'; go_simp; try with_reducible rfl)⟩) HS0 ?_
  refine anyS_take (i := 1) rfl (by kernel_rfl) (by kernel_rfl) (by kernel_rfl) (by kernel_rfl) (fun _ _ _ h => h) (Or.inl ⟨by rfl, fun w' hS' => (by obtain ⟨s1, s2, s3, s4⟩ := hS'; go_simp; try with_reducible rfl)⟩) HS0 ?_
  refine anyS_take (i := 2) rfl (by kernel_rfl) (by kernel_rfl) (by kernel_rfl) (by kernel_rfl) (fun _ _ _ h => h) (Or.inl ⟨by rfl, fun w' hS' => (by obtain ⟨s1, s2, s3, s4⟩ := hS'; go_simp; try with_reducible rfl)⟩) HS0 ?_
  refine anyS_take (i := 3) rfl (by kernel_rfl) (by kernel_rfl) (by kernel_rfl) (by kernel_rfl) (fun _ _ _ h => h) (Or.inl ⟨by rfl, fun w' hS' => (by obtain ⟨s1, s2, s3, s4⟩ := hS'; go_simp; try with_reducible rfl)⟩) HS0 ?_
  refine anyS_take (i := 4) rfl (by kernel_rfl) (by kernel_rfl) (by kernel_rfl) (by kernel_rfl) (fun _ _ _ h => h) (Or.inl ⟨by rfl, fun w' hS' => (by obtain ⟨s1, s2, s3, s4⟩ := hS'; go_simp; try with_reducible rfl)⟩) HS0 ?_
  refine anyS_take (i := 5) rfl (by kernel_rfl) (by kernel_rfl) (by kernel_rfl) (by kernel_rfl) (fun _ _ _ h => h) (Or.inl ⟨by rfl, fun w' hS' => (by obtain ⟨s1, s2, s3, s4⟩ := hS'; go_simp; try with_reducible rfl)⟩) HS0 ?_
  refine anyS_take (i := 6) rfl (by kernel_rfl) (by kernel_rfl) (by kernel_rfl) (by kernel_rfl) (fun _ _ _ h => h) (Or.inl ⟨by rfl, fun w' hS' => (by obtain ⟨s1, s2, s3, s4⟩ := hS'; go_simp; try with_reducible rfl)⟩) HS0 ?_
  refine anyS_one (i := 7) (by kernel_rfl) rfl rfl (fun K_ hK => ?_)
  have HRM : Hid (RdM X0 X0.heap.size D' s.2) := Lib.hid (by obtain ⟨A9, c9, e9, _, hr9⟩ := own_read HOW.out; injection e9 with e9; subst e9; exact hr9)
  have HIN := Lib.hid (insertedM_any s.2 k p D' d' X0 hpl hdd (by omega) HRM.out)
  go_simp
  refine HIN.out.mono ?_
  rintro e X1 ⟨v, rfl, ho, hb⟩
  obtain ⟨A9, c9, rfl, hc9, hr9⟩ := own_read ho
  have HO := Lib.hid ho
  go_simp
  refine hK _ _ (fun _ => HKS.out _ hb) ?_
  clear hK K_ HS0
  refine anyS_one (i := 8) (by kernel_rfl) rfl rfl (fun K_ hK => ?_)
  go_simp
  refine hK _ _ (fun _ => HKS.out _ hb) ?_
  clear hK K_
  refine anyS_one (i := 9) (by kernel_rfl) rfl rfl (fun K_ hK => ?_)
  go_simp
  refine hK _ _ (fun _ => HKS.out _ hb) ?_
  clear hK K_
  replace HBT := Lib.hid (HBT.out.next hb)
  replace HB := Lib.hid (bt hb HB.out)
  have g2 := HBT.out.cell (i := 2) rfl
  have f2 := HBT.out.frozen 2
  have lg := HBT.out.lt
  refine anyS_one (i := 10) (by kernel_rfl) rfl rfl (fun K_ hK => ?_)
  go_simp
  obtain ⟨X, hX⟩ : ∃ Zz, Zz = X1.setCell ⟨g, 2, none⟩ (.slice A9 (s.2.length + 1) c9) := ⟨_, rfl⟩
  have kX : Bt X g 69 [.int .i64 7, .int .i64 ((s.1 : Int) + 1), .slice A9 (s.2.length + 1) c9] := by rw [hX]; exact (HBT.out.set 2 (.slice A9 (s.2.length + 1) c9))
  have oX : X.ownsRow X0.heap.size 50 3 (.slice A9 (s.2.length + 1) c9) (s.2.length + 1) (encs msE (s.2.take p ++ k :: s.2.drop p)) := by rw [hX]; exact own_set (base' := 0) HO.out HBT.out (by decide) 2 _
  have hbX : Below w.heap.size w X := by rw [hX]; exact (HB.out.setCell (p := ⟨g, 2, none⟩) hgs _)
  rw [← hX]
  clear hX
  refine hK _ _ (fun h => absurd rfl h) ?_
  clear hK K_
  refine anyS_done (by kernel_rfl) ?_ _
  simp only [normPost]
  have hrc : rcv s k = (s.1, s.2.take p ++ k :: s.2.drop p) := by unfold rcv; rw [if_neg hng, if_pos hsk, insL, HP.out]
  have hil : (s.2.take p ++ k :: s.2.drop p).length = s.2.length + 1 := by simp; omega
  have HFIN : Hid (RcvPost s k w (.returned (.tuple #[.slice (some ⟨g, 0, none⟩) 1 cap, .slice none 0 0, .int .i64 0])) X) := Lib.hid (by
    have hov : ovL s k = [] := by unfold ovL; rw [if_pos hsk]
    refine ⟨_, none, 0, by rw [hov]; rfl, .inr ⟨g, 0, cap, A9, c9, rfl, hcap, ?_⟩, by rw [hov]; exact Nat.le_refl _, by rw [hov]; exact RdX.nil, hbX⟩
    rw [hrc]
    refine ⟨kX.lt, kX.cell (i := 0) rfl, kX.cell (i := 1) rfl, ?_, ?_, ?_⟩
    · rw [hil]; exact kX.cell (i := 2) rfl
    · rw [hil]; exact hc9
    · obtain ⟨A8, c8, e8, _, hr8⟩ := own_read oX
      injection e8 with e8
      subst e8
      show RdS _ _ _ _ _ _
      rw [hil]; exact hr8)
  clear hb ho hr9 kX oX hbX g2 f2 lg HKS
  go_wp2
  go_ret3
  exact HFIN.out
end Go.Proofs.Ythihhmlgpokomaa
