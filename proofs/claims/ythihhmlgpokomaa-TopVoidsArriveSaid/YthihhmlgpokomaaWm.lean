/- hub: Receive: a message that is known, or that waits. -/
import Derived.Test.YthihhmlgpokomaaWk
import Derived.Test.YthihhmlgpokomaaWq
import Derived.Lib.QuietBelow
set_option maxRecDepth 100000
set_option linter.unusedVariables false
set_option linter.unusedSimpArgs false
namespace Go.Proofs.Ythihhmlgpokomaa
open Go.RowKit Go.Sort

theorem check_nil_lit (k : Nat) (w : World) (hk : k ≤ 1000) :
    Calls Try.prog 31 #[.slice none 0 0, .agg #[.int .i64 7, .int .i64 ((k : Int) + 1), .int .i64 (k : Int)], .agg #[.int .i64 7, .int .i64 1, .slice none 0 0], .bool false, .bool false] w fun e w' => e = .returned (.int .i64 0) ∧ Below w.heap.size w w' :=
  check_nil k 0 (0, []) none 0 w hk (by simp) (by simp)
set_option maxHeartbeats 2000000 in
theorem Receive_old (n k b o c : Nat) (D : Option Addr) (d : Nat) (s : Ib) (w : World) (hx : Bx1 w b o D d s) (hs : Iv n s) (hn : n ≤ 64) (hc : 1 ≤ c) (hk : k < n) (hg : Gt s k) :
    Calls Try.prog 14 #[.slice (some ⟨b, o, none⟩) 1 c, .agg #[.int .i64 7, .int .i64 ((k : Int) + 1), .int .i64 (k : Int)]] w fun e w' => e = .returned (.tuple #[.slice none 0 0, .slice none 0 0, .int .i64 12]) ∧ Below w.heap.size w w' := by
  obtain ⟨Bq, hBq⟩ : ∃ Bq, decide (k ∈ s.2) = Bq := ⟨_, rfl⟩
  have HOLD : Hid (k < s.1 ∨ Bq = true) := Lib.hid (by rcases hg with h | h; exact .inl h; exact .inr (by rw [← hBq]; exact decide_eq_true h))
  have HBQ := Lib.hid hBq
  clear hBq hg
  have hk64 : k < 64 := by omega
  have hs1 := hs.le
  have hs2 := hs.len
  obtain ⟨p, hp⟩ : ∃ p, plc s.2 k = p := ⟨_, rfl⟩
  obtain ⟨hpl, _, _⟩ := plc_spec k s.2 hs.inc
  rw [hp] at hpl
  have HP := Lib.hid hp
  have HS := Lib.hid hs
  have HB := Lib.hid (Below.refl w.heap.size w)
  clear hs hp
  have F_x := Lib.hid hx
  clear hx
  go_enter Try.func14, Try.ntmps14
  go_wp2_with fail
  refine (hValid_one n b o c D d s _ (F_x.out.next (al1 _ _)) HS.out hn hc).mono ?_
  rintro e V1 ⟨rfl, hb⟩
  have hB := bt hb (al1 w _)
  have K_m : Hid (Bk V1 (w.heap.size) 50 #[.int .i64 7, .int .i64 ((k : Int) + 1), .int .i64 (k : Int)]) := Bk.next (by first | exact Bk.new _ _ _ | exact (Bk.new _ _ _).alloc _ | exact ((Bk.new _ _ _).alloc _).alloc _ | exact bkOf (by simp [at?_alloc])) hb
  replace F_x := Lib.hid (F_x.out.next hB)
  replace HB := Lib.hid (bt hB HB.out)
  clear hb hB
  obtain ⟨c_m0, c_m1, c_m2⟩ := box3 K_m.out
  have l_m := K_m.out.lt
  go_wp2_with fail
  clear c_m0 c_m1 c_m2 l_m
  refine (validMessage_yes k _ hk64).mono ?_
  rintro e V2 ⟨rfl, hb⟩
  have hB := hb
  replace F_x := Lib.hid (F_x.out.next hB)
  replace K_m := Lib.hid (K_m.out.next hB)
  replace HB := Lib.hid (bt hB HB.out)
  clear hb hB
  obtain ⟨c_m0, c_m1, c_m2⟩ := box3 K_m.out
  have l_m := K_m.out.lt
  go_wp2_with fail
  clear c_m0 c_m1 c_m2 l_m
  refine (findB_one b o c D d s _ F_x.out hc).mono ?_
  rintro e V3 ⟨rfl, hb⟩
  have hB := hb
  replace F_x := Lib.hid (F_x.out.next hB)
  replace K_m := Lib.hid (K_m.out.next hB)
  replace HB := Lib.hid (bt hB HB.out)
  clear hb hB
  obtain ⟨lb, z0, z1, z2, hd, _⟩ := F_x.out
  obtain ⟨c_m0, c_m1, c_m2⟩ := box3 K_m.out
  have l_m := K_m.out.lt
  go_wp2_with fail
  clear c_m0 c_m1 c_m2 l_m
  refine (findM_any s.2 k p Bq D d _ HS.out.inc HP.out HBQ.out (by omega) (F_x.out.next (al1 _ _)).rd (by omega)).mono ?_
  rintro e V4 ⟨rfl, hb⟩
  have hB := bt hb (al1 V3 _)
  have K_b : Hid (Bk V4 (V3.heap.size) 69 #[.int .i64 7, .int .i64 ((s.1 : Int) + 1), .slice D s.2.length d]) := Bk.next (by first | exact Bk.new _ _ _ | exact (Bk.new _ _ _).alloc _ | exact ((Bk.new _ _ _).alloc _).alloc _ | exact bkOf (by simp [at?_alloc])) hb
  replace F_x := Lib.hid (F_x.out.next hB)
  replace K_m := Lib.hid (K_m.out.next hB)
  replace HB := Lib.hid (bt hB HB.out)
  clear hb hB
  clear lb z0 z1 z2
  obtain ⟨c_m0, c_m1, c_m2⟩ := box3 K_m.out
  have l_m := K_m.out.lt
  obtain ⟨c_b0, c_b1, c_b2⟩ := box3 K_b.out
  have l_b := K_b.out.lt
  go_wp2_with fail
  clear c_m0 c_m1 c_m2 l_m
  clear c_b0 c_b1 c_b2 l_b
  refine (check_old k n s D d (.slice (some ⟨b, o, none⟩) 1 c) true Bq _ (by omega) (by omega) HOLD.out).mono ?_
  rintro e V5 ⟨rfl, hb⟩
  have hB := hb
  replace F_x := Lib.hid (F_x.out.next hB)
  replace K_m := Lib.hid (K_m.out.next hB)
  replace K_b := Lib.hid (K_b.out.next hB)
  replace HB := Lib.hid (bt hB HB.out)
  clear hb hB
  obtain ⟨c_m0, c_m1, c_m2⟩ := box3 K_m.out
  have l_m := K_m.out.lt
  obtain ⟨c_b0, c_b1, c_b2⟩ := box3 K_b.out
  have l_b := K_b.out.lt
  go_wp2
  go_ret3
  exact ⟨rfl, HB.out⟩
end Go.Proofs.Ythihhmlgpokomaa
