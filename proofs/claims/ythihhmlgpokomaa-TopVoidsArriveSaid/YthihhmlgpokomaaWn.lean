/- hub: Receive: messages that are handed over, the box is there. -/
import Derived.Test.YthihhmlgpokomaaWm
import Derived.Test.YthihhmlgpokomaaWq
import Derived.Test.YthihhmlgpokomaaWs
import Derived.Shelf.Abstract
import Derived.Test.YthihhmlgpokomaaReg
import Derived.Test.YthihhmlgpokomaaRound
import Derived.StillTailTactics
import Derived.Lib.QuietBelow
import Derived.Laws.EntriesVeiled
set_option maxRecDepth 100000
set_option linter.unusedVariables false
set_option linter.unusedSimpArgs false
namespace Go.Proofs.Ythihhmlgpokomaa
open Go.RowKit Go.Sort Go.Shelf
attribute [local go_sem] Oper.semAt_some

theorem wr9 {a b : Nat} (ha : a ≤ 64) (hb : b ≤ 64) : IntKind.i64.wrap ((a : Int) + 1 + ((b : Int) + 1)) = ((a + 1 + b : Nat) : Int) + 1 := by
  have e : ((a : Int) + 1 + ((b : Int) + 1)) = ((a + 1 + b : Nat) : Int) + 1 := by omega
  rw [e]
  exact (Go.IntWalk.i64_left _).trans (Go.IntWalk.wrap64_in _ ⟨by omega, by omega⟩)
set_option maxHeartbeats 4000000 in
theorem Receive_one_over (n k b o c : Nat) (D : Option Addr) (d : Nat) (s : Ib) (w : World) (hx : Bx1 w b o D d s) (hs : Iv n s) (hn : n ≤ 64) (hc : 1 ≤ c) (hk : k < n) (hng : ¬ Gt s k) (hsk : ¬ s.1 < k) :
    Calls Try.prog 14 #[.slice (some ⟨b, o, none⟩) 1 c, .agg #[.int .i64 7, .int .i64 ((k : Int) + 1), .int .i64 (k : Int)]] w (RcvPost s k w) := by
  have hgk : ¬ k < s.1 := fun h => hng (.inl h)
  have HLT : Hid (s.2.length < 64) := Lib.hid (by have := hs.len_lt (by omega); omega)
  have HBQ : Hid (decide (k ∈ s.2) = false) := Lib.hid (decide_eq_false (fun h => hng (.inr h)))
  have hk64 : k < 64 := by omega
  have hs1 := hs.le
  have hs2 := hs.len
  obtain ⟨p, hp⟩ : ∃ p, plc s.2 k = p := ⟨_, rfl⟩
  obtain ⟨hpl, _, _⟩ := plc_spec k s.2 hs.inc
  rw [hp] at hpl
  have HP := Lib.hid hp
  have HS := Lib.hid hs
  have HB := Lib.hid (Below.refl w.heap.size w)
  clear hs hp
  have F_x := Lib.hid hx
  clear hx
  refine (callsIn_wide (n := 9)).1 ?_
  refine callsIn_of_wp_marks Try.func14 rfl trivial ?_ rfl
  simp only [Try.ntmps14, List.size_toArray, List.length_cons, List.length_nil, Nat.reduceAdd, Nat.reduceSub, Array.replicate_succ, Array.replicate_zero, List.push_toArray, List.append_toArray, List.nil_append, List.cons_append]
  refine wpIn_wide.2 ?_
  go_wp2_with fail
  refine (hValid_one n b o c D d s _ (F_x.out.next (al1 _ _)) HS.out hn hc).mono ?_
  rintro e V1 ⟨rfl, hb⟩
  have hB := bt hb (al1 w _)
  have K_m : Hid (Bk V1 (w.heap.size) 50 #[.int .i64 7, .int .i64 ((k : Int) + 1), .int .i64 (k : Int)]) := Bk.next (by first | exact Bk.new _ _ _ | exact (Bk.new _ _ _).alloc _ | exact ((Bk.new _ _ _).alloc _).alloc _ | exact bkOf (by simp [at?_alloc])) hb
  replace F_x := Lib.hid (F_x.out.next hB)
  replace HB := Lib.hid (bt hB HB.out)
  clear hb hB
  obtain ⟨c_m0, c_m1, c_m2⟩ := box3 K_m.out
  have l_m := K_m.out.lt
  go_wp2_with fail
  clear c_m0 c_m1 c_m2 l_m
  refine (validMessage_yes k _ hk64).mono ?_
  rintro e V2 ⟨rfl, hb⟩
  have hB := hb
  replace F_x := Lib.hid (F_x.out.next hB)
  replace K_m := Lib.hid (K_m.out.next hB)
  replace HB := Lib.hid (bt hB HB.out)
  clear hb hB
  obtain ⟨c_m0, c_m1, c_m2⟩ := box3 K_m.out
  have l_m := K_m.out.lt
  go_wp2_with fail
  clear c_m0 c_m1 c_m2 l_m
  refine (findB_one b o c D d s _ F_x.out hc).mono ?_
  rintro e V3 ⟨rfl, hb⟩
  have hB := hb
  replace F_x := Lib.hid (F_x.out.next hB)
  replace K_m := Lib.hid (K_m.out.next hB)
  replace HB := Lib.hid (bt hB HB.out)
  clear hb hB
  obtain ⟨lb, z0, z1, z2, hd, _⟩ := F_x.out
  obtain ⟨c_m0, c_m1, c_m2⟩ := box3 K_m.out
  have l_m := K_m.out.lt
  go_wp2_with fail
  clear c_m0 c_m1 c_m2 l_m
  refine (findM_any s.2 k p false D d _ HS.out.inc HP.out HBQ.out (by omega) (F_x.out.next (al1 _ _)).rd (by omega)).mono ?_
  rintro e V4 ⟨rfl, hb⟩
  have hB := bt hb (al1 V3 _)
  have K_b : Hid (Bk V4 (V3.heap.size) 69 #[.int .i64 7, .int .i64 ((s.1 : Int) + 1), .slice D s.2.length d]) := Bk.next (by first | exact Bk.new _ _ _ | exact (Bk.new _ _ _).alloc _ | exact ((Bk.new _ _ _).alloc _).alloc _ | exact bkOf (by simp [at?_alloc])) hb
  replace F_x := Lib.hid (F_x.out.next hB)
  replace K_m := Lib.hid (K_m.out.next hB)
  replace HB := Lib.hid (bt hB HB.out)
  clear hb hB
  clear lb z0 z1 z2
  obtain ⟨c_m0, c_m1, c_m2⟩ := box3 K_m.out
  have l_m := K_m.out.lt
  obtain ⟨c_b0, c_b1, c_b2⟩ := box3 K_b.out
  have l_b := K_b.out.lt
  go_wp2_with fail
  clear c_m0 c_m1 c_m2 l_m
  clear c_b0 c_b1 c_b2 l_b
  refine (check_one k n s D d b o c _ F_x.out hc (by omega) (by omega) HLT.out hgk).mono ?_
  rintro e V5 ⟨rfl, hb⟩
  have hB := hb
  replace F_x := Lib.hid (F_x.out.next hB)
  replace K_m := Lib.hid (K_m.out.next hB)
  replace K_b := Lib.hid (K_b.out.next hB)
  replace HB := Lib.hid (bt hB HB.out)
  clear hb hB
  obtain ⟨c_m0, c_m1, c_m2⟩ := box3 K_m.out
  have l_m := K_m.out.lt
  obtain ⟨c_b0, c_b1, c_b2⟩ := box3 K_b.out
  have l_b := K_b.out.lt
  go_wp2_with fail
  clear c_m0 c_m1 c_m2 l_m
  clear c_b0 c_b1 c_b2 l_b
  have HB0 := HB.out.size
  have hlm := K_m.out.lt
  refine (dup_one b o c D d s _ F_x.out hc (by omega)).mono ?_
  rintro e VV ⟨_, rfl, g, cap, D', d', rfl, hg, hbt, hcap, hown, hb⟩
  replace F_x := Lib.hid (F_x.out.next hb)
  replace K_m := Lib.hid (K_m.out.next hb)
  replace K_b := Lib.hid (K_b.out.next hb)
  replace HB := Lib.hid (bt hb HB.out)
  have hgw : V5.heap.size ≤ g := hg
  have HOW : Hid (VV.ownsRow w.heap.size 50 3 (.slice D' s.2.length d') s.2.length (encs msE s.2)) := Lib.hid (own_mono hown HB0)
  have HBT := Lib.hid hbt
  have hdd : s.2.length ≤ d' := by
    obtain ⟨A9, c9, e9, h9, _⟩ := own_read hown
    injection e9 with _ _ e9
    omega
  clear hbt hb hown
  have hgw0 := hgw
  have hws : w.heap.size ≤ g := Nat.le_trans HB0 hgw0
  have HKK : Hid (w.heap.size ≤ g) := Lib.hid hws
  have hgs : w.heap.size ≤ g := HKK.out
  obtain ⟨Bm, hBm⟩ : ∃ Bm, Bm = w.heap.size := ⟨_, rfl⟩
  rw [← hBm] at K_m ⊢
  have KM := K_m
  have hgm : Bm ≠ g := by have := hlm; omega
  clear K_m hBm hgw
  have l1 : decide ((s.1 : Int) + 1 < (k : Int) + 1) = false := decide_eq_false (by omega)
  have l2 : decide ((s.1 : Int) < (k : Int)) = false := decide_eq_false (by omega)
  have l3 : decide (s.1 < k) = false := decide_eq_false hsk
  have l4 : ¬ (s.1 : Int) + 1 < (k : Int) + 1 := by omega
  obtain ⟨m0, m1, m2⟩ := box3 KM.out
  have lm := KM.out.lt
  have g0 := HBT.out.cell (i := 0) rfl
  have g1 := HBT.out.cell (i := 1) rfl
  have g2 := HBT.out.cell (i := 2) rfl
  have lg := HBT.out.lt
  go_wp2
  have Rm0 := cell_regrown m0
  have Rm1 := cell_regrown m1
  have Rm2 := cell_regrown m2
  have Rg0 := cell_regrown g0
  have Rg1 := cell_regrown g1
  have Rg2 := cell_regrown g2
  refine wp_region_quiet_below (by kernel_rfl) (by kernel_rfl) ?_
  repeat (first | go_big_quiet_step (fail) | quiet_step (fail))
  refine wpQuiet_nil ?_
  intro _ hw'
  obtain ⟨⟨dq, osq⟩, hw''⟩ := hw'
  subst hw''
  obtain ⟨V9, hV9⟩ : ∃ V, V = grow (redrawn VV dq) osq := ⟨_, rfl⟩
  have hbV9 : Below VV.heap.size VV V9 := by rw [hV9]; exact below_regrown _ _ _
  rw [← hV9]
  clear hV9
  clear Rm0
  clear Rm1
  clear Rm2
  clear Rg0
  clear Rg1
  clear Rg2
  clear m0 m1 m2 lm g0 g1 g2 lg
  replace KM := Lib.hid (KM.out.next hbV9)
  replace HBT := Lib.hid (HBT.out.next hbV9)
  replace HOW := Lib.hid (own_on HOW.out hbV9)
  replace HB := Lib.hid (bt hbV9 HB.out)
  clear hbV9
  obtain ⟨m0, m1, m2⟩ := box3 KM.out
  have lm := KM.out.lt
  have g0 := HBT.out.cell (i := 0) rfl
  have g1 := HBT.out.cell (i := 1) rfl
  have g2 := HBT.out.cell (i := 2) rfl
  have lg := HBT.out.lt
  go_wp2
  obtain ⟨U1, hU1⟩ : ∃ Zz, Zz = V9.alloc (.cells #[.slice none 0 0] 46) := ⟨_, rfl⟩
  have hbU : Below V9.heap.size V9 U1 := by rw [hU1]; exact al1 _ _
  have kv : Bk U1 V9.heap.size 46 #[.slice none 0 0] := by rw [hU1]; exact Bk.new _ _ _
  rw [← hU1]
  clear hU1
  obtain ⟨Bo, hBo⟩ : ∃ Bo, Bo = V9.heap.size := ⟨_, rfl⟩
  rw [← hBo] at kv ⊢
  have hgB : g < Bo := by rw [hBo]; exact lg
  have hmB : Bm < Bo := by rw [hBo]; exact lm
  have HOB := Lib.hid (rd_own9 HOW.out hBo)
  have HV9 : Hid (Below Bo V9 U1) := Lib.hid (by rw [hBo]; exact hbU)
  have HDL : Hid (∀ b, (Value.slice D' s.2.length d').ownBlock = some b → b < Bo) := Lib.hid (fun b hb => by rw [hBo]; exact (own_lt HOW.out hb).2)
  clear m0 m1 m2 lm g0 g1 g2 lg
  replace KM := Lib.hid (KM.out.next hbU)
  replace HBT := Lib.hid (HBT.out.next hbU)
  replace HOW := Lib.hid (own_on HOW.out hbU)
  replace HB := Lib.hid (bt hbU HB.out)
  clear hbU
  refine region_tail 5 (by kernel_rfl) (by kernel_rfl) ?_
  simp only [List.take_succ_cons, List.take_zero, List.drop_succ_cons, List.drop_zero]
  obtain ⟨X0, hX0⟩ : ∃ Zz, Zz = U1.drew := ⟨_, rfl⟩
  have hx0 : Below U1.heap.size U1 X0 := by rw [hX0]; exact (Below.refl _ _).drew
  rw [← hX0]
  clear hX0
  replace KM := Lib.hid (KM.out.next hx0)
  replace HBT := Lib.hid (HBT.out.next hx0)
  replace HOW := Lib.hid (own_on HOW.out hx0)
  replace HB := Lib.hid (bt hx0 HB.out)
  have KV := Lib.hid (kv.next hx0)
  replace HV9 : Hid (Below Bo V9 X0) := Lib.hid (HV9.out.trans (hx0.mono (Nat.le_of_lt kv.lt)))
  clear hx0 kv hBo
  obtain ⟨m0, m1, m2⟩ := box3 KM.out
  have lm := KM.out.lt
  have g0 := HBT.out.cell (i := 0) rfl
  have g1 := HBT.out.cell (i := 1) rfl
  have g2 := HBT.out.cell (i := 2) rfl
  have lg := HBT.out.lt
  repeat still_step
  refine wpStill_nil ?_
  go_wp2_with fail
  refine (ready_any k D' s.2.length d' _).mono ?_
  rintro e R ⟨rfl, hR⟩
  have kl : Bk R X0.heap.size 50 #[.int .i64 7, .int .i64 ((k : Int) + 1), .int .i64 (k : Int)] := by rw [hR]; exact (Bk.new _ _ _).alloc _
  have kt : Bk R (X0.heap.size + 1) 46 #[.slice D' s.2.length d'] := by rw [hR]; exact bkOf (by simp [at?_alloc])
  have hbR : Below X0.heap.size X0 R := by rw [hR]; exact al2 _ _ _
  have hRs : R.heap.size = X0.heap.size + 2 := by rw [hR]; simp
  have hBX : Bo < X0.heap.size := KV.out.lt
  have KL := Lib.hid kl
  have KT := Lib.hid kt
  have HRS := Lib.hid hRs
  replace KV := Lib.hid (KV.out.next hbR)
  replace HV9 : Hid (Below Bo V9 R) := Lib.hid (HV9.out.trans (hbR.mono (Nat.le_of_lt hBX)))
  replace KM := Lib.hid (KM.out.next hbR)
  replace HBT := Lib.hid (HBT.out.next hbR)
  replace HOW := Lib.hid (own_on HOW.out hbR)
  replace HB := Lib.hid (bt hbR HB.out)
  clear hbR kl kt hRs hR m0 m1 m2 lm g0 g1 g2 lg
  go_wp2
  have HSX : Hid (k = s.1) := Lib.hid (by omega)
  have hboR : Bo < R.heap.size := by have := HRS.out; omega
  have HSEQ : Hid (SeqG Try.prog 48 #[.pointer (some ⟨X0.heap.size, 0, none⟩), .pointer (some ⟨X0.heap.size + 1, 0, none⟩)] encM (fun _ x _ => True) (fun xs => xs = s.1 :: s.2.take (ovT s)) (fun _ => True) (s.2.length + 2) (GB R Bo) R) := Lib.hid (by
    have h1 := KL.out
    rw [HSX.out] at h1
    exact ready_seq n s D' d' X0.heap.size (X0.heap.size + 1) R Bo (GB R Bo) h1 KT.out (RdX.below HOB.out HV9.out) (Nat.le_of_lt hboR) (by have := HRS.out; rintro (e | e) <;> omega) (by have := HRS.out; rintro (e | e) <;> omega) (by rintro k (e | e) <;> omega) HS.out hn)
  have HRD : Hid (RdM R Bo D' s.2) := Lib.hid (RdX.below HOB.out HV9.out)
  obtain ⟨i1, hj, hw0, hw1, hw2⟩ := info_parts info_ms
  refine (wpIn_wide (n := 9)).1 ?_
  refine wpIn_rangeFunc_G (gf := 48) (lb := #[.pointer (some ⟨X0.heap.size, 0, none⟩), .pointer (some ⟨X0.heap.size + 1, 0, none⟩)]) rfl (enters_of Try.func48 (by kernel_rfl) rfl) HSEQ.out
    (SameOut.refl _ _) (fun k h => .inr h) (fun _ => rfl) (fun _ _ _ _ h _ _ _ => h) (OvI R Bo) (fun _ _ _ _ => False) (OvI.steady R Bo) (fun _ _ _ _ _ _ h _ _ => h) ?h0
    (MidO R Bo (fun x q => #[.slice (some ⟨b, o, none⟩) 1 c, .agg #[.int .i64 7, .int .i64 ((k : Int) + 1), .int .i64 (k : Int)], undef, .pointer (some ⟨Bm, 0, none⟩), .slice none 0 0, .slice none 0 0, .int .i64 0, .int .i64 0, .bool true, .pointer (some ⟨V3.heap.size, 0, none⟩), .int .i64 (p : Int), .bool false, .int .i64 0, .slice (some ⟨g, 0, none⟩) 1 cap, .pointer (some ⟨g, 0, none⟩), .pointer (some ⟨Bo, 0, none⟩), q, undef, .slice (some ⟨b, o, none⟩) 1 c, .bool true, .bool false, .bool false, .agg #[.int .i64 7, .int .i64 ((k : Int) + 1), .int .i64 (k : Int)], .bool true, .bool false, .bool false, .tuple #[.int .i64 0, .bool true], .slice (some ⟨b, o, none⟩) 1 c, .pointer (some ⟨Bm, 0, none⟩), .int .i64 7, .tuple #[.int .i64 0, .bool true], .int .i64 0, .bool true, .pointer (some ⟨Bm, 0, none⟩), .int .i64 7, .agg #[.int .i64 7, .int .i64 1, .slice none 0 0], .bool true, .slice (some ⟨b, o, none⟩) 1 c, .int .i64 0, .pointer (some ⟨b, o, none⟩), .agg #[.int .i64 7, .int .i64 ((s.1 : Int) + 1), .slice D s.2.length d], .tuple #[.int .i64 (p : Int), .bool false], .pointer (some ⟨V3.heap.size, 2, none⟩), .slice D s.2.length d, .pointer (some ⟨Bm, 1, none⟩), .int .i64 ((k : Int) + 1), .tuple #[.int .i64 (p : Int), .bool false], .int .i64 (p : Int), .bool false, .slice (some ⟨b, o, none⟩) 1 c, .agg #[.int .i64 7, .int .i64 ((k : Int) + 1), .int .i64 (k : Int)], .agg #[.int .i64 7, .int .i64 ((s.1 : Int) + 1), .slice D s.2.length d], .bool true, .bool false, .int .i64 0, .int .i64 0, .bool false, undef, .slice (some ⟨b, o, none⟩) 1 c, .slice (some ⟨g, 0, none⟩) 1 cap, .bool true, .bool false, undef, undef, undef, undef, .slice (some ⟨g, 0, none⟩) 1 cap, .int .i64 0, .pointer (some ⟨g, 0, none⟩), .pointer (some ⟨Bm, 1, none⟩), .int .i64 ((k : Int) + 1), .pointer (some ⟨g, 0, none⟩), .pointer (some ⟨g, 0, none⟩), .pointer (some ⟨g, 1, none⟩), .int .i64 ((s.1 : Int) + 1), .bool false, undef, undef, undef, undef, undef, undef, undef, undef, undef, undef, undef, .agg #[.int .i64 7, .int .i64 ((k : Int) + 1), .int .i64 (k : Int)], .pointer (some ⟨g, 0, none⟩), .pointer (some ⟨g, 0, none⟩), .pointer (some ⟨g, 2, none⟩), .slice D' s.2.length d', .func (.func 48) #[] #[.pointer (some ⟨X0.heap.size, 0, none⟩), .pointer (some ⟨X0.heap.size + 1, 0, none⟩)], .agg #[.int .i64 7, .int .i64 ((x : Int) + 1), .int .i64 (x : Int)], undef, undef, undef, undef, undef, undef, undef, undef, undef, undef, undef, undef, undef, undef, undef, undef, undef, undef, undef, undef, undef, undef, undef, undef, undef, undef, undef, undef, undef, undef, undef, undef, undef, undef, undef, undef, undef])) (MidO.steady _ _ _) ?assign ?body ?done ?stop
  case h0 =>
    intro Pv hP
    refine ⟨.slice none 0 0, KV.out, World.ownsRow_nil _ _ _ _, ?_, ?_, SameOut.refl _ _, hP⟩
    · intro h; have := hP _ h; omega
    · intro b h; simp [Value.ownBlock] at h
  case assign =>
    intro lp Pv pre x W hi hok hPw hlen hsz
    have HI := Lib.hid hi
    have HP := Lib.hid hPw
    clear hi hok hPw
    dsimp only [encM]
    gi_wp2
    exact ⟨SameIn.alloc _ _ _, SameOut.alloc _ _ _, OvI.steady _ _ _ _ _ _ _ HI.out (SameOut.alloc _ _ _) (fun k h => .inl h), fun k h => by have := HP.out k h; simp; omega, W.heap.size, Bk.new _ _ _, fun h => by have := HP.out _ h; omega, rfl⟩
  case body =>
    rintro lp Pv pre x a₁ W ⟨⟨v, kv, hown, nBo, nv, hso, hPl⟩, hPw, Bx, kx, npx, rfl⟩ hlen hsz
    have HF := Lib.hid (⟨kv, nBo, nv, hso, hPl, hPw⟩ : _ ∧ _ ∧ _ ∧ _ ∧ _ ∧ _)
    have HOWN := Lib.hid hown
    have v0 := box1 kv
    have fv := kv.frozen 0
    obtain ⟨x0, x1, x2⟩ := box3 kx
    clear kv nBo nv hso hPl hPw hown kx npx
    gi_wp2_with (gi_at_builtin; refine wpListIn_append_own_at _ rfl _ _ 46 rfl R.heap.size 50 i1 _ 3 24 Try.underlying46 hj hw0 hw1 hw2 rfl (by decide) v pre.length (encs msE pre) rfl (HOWN.out.alloc _) ⟨W.heap.size, 0, none⟩ 1 1 [.int .i64 7, .int .i64 ((x : Int) + 1), .int .i64 (x : Int)] rfl rfl (news3 _ _ _ _ _) (by simp [Value.oneCell']) (by simp only [maxLen]; omega) (by omega) (by simp; omega) ?_; intro v' w1 hown' hgrow hnil hat; have kv1 := Lib.hid (Bk.grown (HF.out.1.alloc _) hgrow (fun e => by have := (own_lt HOWN.out e.symm).1; omega)); have HM := Lib.hid (OvI.more (x := x) HF.out.1 HOWN.out HF.out.2.1 HF.out.2.2.1 HF.out.2.2.2.1 HF.out.2.2.2.2.1 HF.out.2.2.2.2.2 hboR hown' hgrow hat); obtain ⟨A2, q2, rfl, hq2, _⟩ := own_read hown'; have e0 := box1 kv1.out; have fe := kv1.out.frozen 0; clear v0 fv x0 x1 x2 hown' hgrow hnil hat)
    exact HM.out
  case done =>
    rintro Dm Pv xs W hD hS hPD ⟨v, kv, hown, nBo, nv, hso, hPl⟩ hK
    subst hS
    obtain ⟨t, ht⟩ : ∃ t, ovT s = t := ⟨_, rfl⟩
    obtain ⟨ot1, _, _⟩ := ov_spec s
    rw [ht] at ot1
    rw [ht] at hown
    have hpl : (s.1 :: s.2.take t).length = t + 1 := by rw [List.length_cons, List.length_take]; omega
    rw [hpl] at hown
    obtain ⟨Ao, co, rfl, hco, hro⟩ := own_read hown
    have hng1 : ¬ GB R Bo g := by rintro (e | e) <;> omega
    have HBG := Lib.hid (HBT.out.out hso hng1)
    have HRW := Lib.hid (rdM_out HRD.out hso (Nat.le_of_lt hboR) (by rintro k (e | e) <;> omega))
    have HKV := Lib.hid kv
    have HOV := Lib.hid hown
    have HNV := Lib.hid nv
    have HSO := Lib.hid hso
    have HKD := Lib.hid hK
    have HTT := Lib.hid ht
    have HLE : Hid (s.2.length ≤ 64) := Lib.hid (by omega)
    have tt64 : t ≤ 64 := by omega
    have s64 : s.1 ≤ 64 := by omega
    clear kv hown nBo nv hso hPl hK hro ht hng1
    have v0 := box1 HKV.out
    go_wp2
    refine region_S (fun w' => w'.cell? ⟨g, 1, none⟩ = some (.int .i64 ((s.1 : Int) + 1)) ∧ w'.cell? ⟨Bo, 0, none⟩ = some (.slice Ao (t + 1) co)) 9 (by kernel_rfl) ?_
    obtain ⟨Y0, hY0⟩ : ∃ Zz, Zz = W.drew := ⟨_, rfl⟩
    have hy0 : SameOut (fun _ => False) W Y0 := by rw [hY0]; exact SameOut.drew _ _
    rw [← hY0]
    clear hY0
    have HBY := Lib.hid (HBG.out.out hy0 (fun h => h))
    have HKY := Lib.hid (bkS HKV.out hy0 (fun h => h))
    have HY0 := Lib.hid hy0
    clear hy0 v0
    have HS0 : Y0.cell? ⟨g, 1, none⟩ = some (.int .i64 ((s.1 : Int) + 1)) ∧ Y0.cell? ⟨Bo, 0, none⟩ = some (.slice Ao (t + 1) co) := ⟨HBY.out.cell (i := 1) rfl, box1 HKY.out⟩
    refine anyS_take (i := 0) rfl (by kernel_rfl) (by kernel_rfl) (by kernel_rfl) (by kernel_rfl) (fun _ _ _ h => h) (Or.inl ⟨by rfl, fun w' hS' => (by obtain ⟨s1, s2⟩ := hS'; go_simp; try with_reducible rfl)⟩) HS0 ?_
    refine anyS_take (i := 1) rfl (by kernel_rfl) (by kernel_rfl) (by kernel_rfl) (by kernel_rfl) (fun _ _ _ h => h) (Or.inl ⟨by rfl, fun w' hS' => (by obtain ⟨s1, s2⟩ := hS'; go_simp; try with_reducible rfl)⟩) HS0 ?_
    refine anyS_take (i := 2) rfl (by kernel_rfl) (by kernel_rfl) (by kernel_rfl) (by kernel_rfl) (fun _ _ _ h => h) (Or.inl ⟨by rfl, fun w' hS' => (by obtain ⟨s1, s2⟩ := hS'; go_simp; try with_reducible rfl)⟩) HS0 ?_
    refine anyS_take (i := 3) rfl (by kernel_rfl) (by kernel_rfl) (by kernel_rfl) (by kernel_rfl) (fun _ _ _ h => h) (Or.inl ⟨by rfl, fun w' hS' => (by obtain ⟨s1, s2⟩ := hS'; go_simp; try with_reducible rfl)⟩) HS0 ?_
    refine anyS_take (i := 4) rfl (by kernel_rfl) (by kernel_rfl) (by kernel_rfl) (by kernel_rfl) (fun _ _ _ h => h) (Or.inl ⟨by rfl, fun w' hS' => (by obtain ⟨s1, s2⟩ := hS'; go_simp; try with_reducible rfl)⟩) HS0 ?_
    refine anyS_take (i := 5) rfl (by kernel_rfl) (by kernel_rfl) (by kernel_rfl) (by kernel_rfl) (fun _ _ _ h => h) (Or.inl ⟨by rfl, fun w' hS' => (by obtain ⟨s1, s2⟩ := hS'; go_simp; try with_reducible rfl)⟩) HS0 ?_
    refine anyS_take (i := 6) rfl (by kernel_rfl) (by kernel_rfl) (by kernel_rfl) (by kernel_rfl) (fun _ _ _ h => h) (Or.inl ⟨by rfl, fun w' hS' => (by obtain ⟨s1, s2⟩ := hS'; go_simp; try with_reducible rfl)⟩) HS0 ?_
    refine anyS_one (i := 7) (by kernel_rfl) rfl rfl (fun K_ hK => ?_)
    go_simp
    refine hK _ _ (fun _ => HS0) ?_
    clear hK K_
    refine anyS_one (i := 8) (by kernel_rfl) rfl rfl (fun K_ hK => ?_)
    go_simp
    refine hK _ _ (fun _ => HS0) ?_
    clear hK K_
    have f1 := HBY.out.frozen 1
    have lg := HBY.out.lt
    refine anyS_one (i := 9) (by kernel_rfl) rfl rfl (fun K_ hK => ?_)
    obtain ⟨q1, q2⟩ := HS0
    go_simp
    have hw9 : IntKind.i64.wrap ((s.1 : Int) + 1 + ((t : Int) + 1)) = ((s.1 + 1 + t : Nat) : Int) + 1 := wr9 s64 tt64
    rw [hw9]
    obtain ⟨y, hy⟩ : ∃ y : Nat, y = s.1 + 1 + t := ⟨_, rfl⟩
    rw [← hy]
    have HYV := Lib.hid hy
    obtain ⟨Y1, hY1⟩ : ∃ Zz, Zz = Y0.setCell ⟨g, 1, none⟩ (.int .i64 ((y : Int) + 1)) := ⟨_, rfl⟩
    have kB1 : Bt Y1 g 69 [.int .i64 7, .int .i64 ((y : Int) + 1), .slice D' s.2.length d'] := by rw [hY1]; exact (HBY.out.set 1 _)
    have hy1 : SameOut (fun j => j = g) Y0 Y1 := by rw [hY1]; exact SameOut.setCell (Pv := fun j => j = g) _ (a := ⟨g, 1, none⟩) rfl _
    rw [← hY1]
    clear hY1
    have HB1 := Lib.hid kB1
    have HY1 := Lib.hid (HY0.out.more (Pv' := fun j => j = g) (fun _ h => h.elim) |>.trans hy1)
    clear hw9 hy kB1 hy1 q1 q2 f1 HBY HKY
    refine hK _ _ (fun h => absurd rfl h) ?_
    clear hK K_
    refine anyS_done (by kernel_rfl) ?_ _
    simp only [normPost]
    have b2 := HB1.out.cell (i := 2) rfl
    go_wp2
    clear b2
    refine region_S (fun w' => w'.cell? ⟨g, 2, none⟩ = some (.slice D' s.2.length d')) 19 (by kernel_rfl) ?_
    obtain ⟨Z0, hZ0⟩ : ∃ Zz, Zz = Y1.drew := ⟨_, rfl⟩
    have hz0 : SameOut (fun _ => False) Y1 Z0 := by rw [hZ0]; exact SameOut.drew _ _
    rw [← hZ0]
    clear hZ0
    have HBZ := Lib.hid (HB1.out.out hz0 (fun h => h))
    have HZ0 := Lib.hid (HY1.out.trans (hz0.more (Pv' := fun j => j = g) (fun _ h => h.elim)))
    clear hz0
    have HS0 : Z0.cell? ⟨g, 2, none⟩ = some (.slice D' s.2.length d') := HBZ.out.cell (i := 2) rfl
    refine anyS_take (i := 0) rfl (by kernel_rfl) (by kernel_rfl) (by kernel_rfl) (by kernel_rfl) (fun _ _ _ h => h) (Or.inl ⟨by rfl, fun w' hS' => (by obtain s1 := hS'; go_simp; try with_reducible rfl)⟩) HS0 ?_
    refine anyS_take (i := 1) rfl (by kernel_rfl) (by kernel_rfl) (by kernel_rfl) (by kernel_rfl) (fun _ _ _ h => h) (Or.inl ⟨by rfl, fun w' hS' => (by obtain s1 := hS'; go_simp; try with_reducible rfl)⟩) HS0 ?_
    refine anyS_take (i := 2) rfl (by kernel_rfl) (by kernel_rfl) (by kernel_rfl) (by kernel_rfl) (fun _ _ _ h => h) (Or.inl ⟨by rfl, fun w' hS' => (by obtain s1 := hS'; go_simp; try with_reducible rfl)⟩) HS0 ?_
    refine anyS_take (i := 3) rfl (by kernel_rfl) (by kernel_rfl) (by kernel_rfl) (by kernel_rfl) (fun _ _ _ h => h) (Or.inl ⟨by rfl, fun w' hS' => (by obtain s1 := hS'; go_simp; try with_reducible rfl)⟩) HS0 ?_
    refine anyS_take (i := 4) rfl (by kernel_rfl) (by kernel_rfl) (by kernel_rfl) (by kernel_rfl) (fun _ _ _ h => h) (Or.inl ⟨by rfl, fun w' hS' => (by obtain s1 := hS'; go_simp; try with_reducible rfl)⟩) HS0 ?_
    refine anyS_take (i := 5) rfl (by kernel_rfl) (by kernel_rfl) (by kernel_rfl) (by kernel_rfl) (fun _ _ _ h => h) (Or.inl ⟨by rfl, fun w' hS' => (by obtain s1 := hS'; go_simp; try with_reducible rfl)⟩) HS0 ?_
    refine anyS_take (i := 6) rfl (by kernel_rfl) (by kernel_rfl) (by kernel_rfl) (by kernel_rfl) (fun _ _ _ h => h) (Or.inl ⟨by rfl, fun w' hS' => (by obtain s1 := hS'; go_simp; try with_reducible rfl)⟩) HS0 ?_
    refine anyS_take (i := 7) rfl (by kernel_rfl) (by kernel_rfl) (by kernel_rfl) (by kernel_rfl) (fun _ _ _ h => h) (Or.inl ⟨by rfl, fun w' hS' => (by obtain s1 := hS'; go_simp; try with_reducible rfl)⟩) HS0 ?_
    refine anyS_take (i := 8) rfl (by kernel_rfl) (by kernel_rfl) (by kernel_rfl) (by kernel_rfl) (fun _ _ _ h => h) (Or.inl ⟨by rfl, fun w' hS' => (by obtain s1 := hS'; go_simp; try with_reducible rfl)⟩) HS0 ?_
    refine anyS_take (i := 9) rfl (by kernel_rfl) (by kernel_rfl) (by kernel_rfl) (by kernel_rfl) (fun _ _ _ h => h) (Or.inl ⟨by rfl, fun w' hS' => (by obtain s1 := hS'; go_simp; try with_reducible rfl)⟩) HS0 ?_
    refine anyS_take (i := 10) rfl (by kernel_rfl) (by kernel_rfl) (by kernel_rfl) (by kernel_rfl) (fun _ _ _ h => h) (Or.inl ⟨by rfl, fun w' hS' => (by obtain s1 := hS'; go_simp; try with_reducible rfl)⟩) HS0 ?_
    refine anyS_take (i := 11) rfl (by kernel_rfl) (by kernel_rfl) (by kernel_rfl) (by kernel_rfl) (fun _ _ _ h => h) (Or.inl ⟨by rfl, fun w' hS' => (by obtain s1 := hS'; go_simp; try with_reducible rfl)⟩) HS0 ?_
    refine anyS_take (i := 12) rfl (by kernel_rfl) (by kernel_rfl) (by kernel_rfl) (by kernel_rfl) (fun _ _ _ h => h) (Or.inl ⟨by rfl, fun w' hS' => (by obtain s1 := hS'; go_simp; try with_reducible rfl)⟩) HS0 ?_
    refine anyS_take (i := 13) rfl (by kernel_rfl) (by kernel_rfl) (by kernel_rfl) (by kernel_rfl) (fun _ _ _ h => h) (Or.inl ⟨by rfl, fun w' hS' => (by obtain s1 := hS'; go_simp; try with_reducible rfl)⟩) HS0 ?_
    refine anyS_take (i := 14) rfl (by kernel_rfl) (by kernel_rfl) (by kernel_rfl) (by kernel_rfl) (fun _ _ _ h => h) (Or.inl ⟨by rfl, fun w' hS' => (by obtain s1 := hS'; go_simp; try with_reducible rfl)⟩) HS0 ?_
    refine anyS_take (i := 15) rfl (by kernel_rfl) (by kernel_rfl) (by kernel_rfl) (by kernel_rfl) (fun _ _ _ h => h) (Or.inl ⟨by rfl, fun w' hS' => (by obtain s1 := hS'; go_simp; try with_reducible rfl)⟩) HS0 ?_
    have t0 : (0 : Int) ≤ (t : Int) := by omega
    have t1 : (t : Int) ≤ (s.2.length : Int) := by omega
    have t2 : (s.2.length : Int) ≤ (d' : Int) := by omega
    refine anyS_one (i := 16) (by kernel_rfl) rfl rfl (fun K_ hK => ?_)
    go_simp
    obtain ⟨Df, hDf⟩ : ∃ Df, Df = (if s.2.length = t then D' else Option.map (fun x => x.add (t * 3)) D') := ⟨_, rfl⟩
    rw [← hDf]
    obtain ⟨L, hL⟩ : ∃ L, L = s.2.length - t := ⟨_, rfl⟩
    rw [← hL]
    have HDF := Lib.hid hDf
    have HL := Lib.hid hL
    refine hK _ _ (fun _ => HS0) ?_
    clear hK K_ hDf hL t0 t1 t2
    refine anyS_one (i := 17) (by kernel_rfl) rfl rfl (fun K_ hK => ?_)
    go_simp
    refine hK _ _ (fun _ => HS0) ?_
    clear hK K_
    refine anyS_one (i := 18) (by kernel_rfl) rfl rfl (fun K_ hK => ?_)
    go_simp
    refine hK _ _ (fun _ => HS0) ?_
    clear hK K_
    have f1 := HBZ.out.frozen 2
    have lg2 := HBZ.out.lt
    refine anyS_one (i := 19) (by kernel_rfl) rfl rfl (fun K_ hK => ?_)
    have q1 := HS0
    go_simp
    obtain ⟨Z1, hZ1⟩ : ∃ Zz, Zz = Z0.setCell ⟨g, 2, none⟩ (.slice Df L L) := ⟨_, rfl⟩
    have kB1 : Bt Z1 g 69 [.int .i64 7, .int .i64 ((y : Int) + 1), .slice Df L L] := by rw [hZ1]; exact (HBZ.out.set 2 _)
    have hz1 : SameOut (fun j => j = g) Z0 Z1 := by rw [hZ1]; exact SameOut.setCell (Pv := fun j => j = g) _ (a := ⟨g, 2, none⟩) rfl _
    rw [← hZ1]
    clear hZ1
    have HB2 := Lib.hid kB1
    have HZ1 := Lib.hid (HZ0.out.trans hz1)
    clear kB1 hz1 q1 f1 HBZ HS0
    refine hK _ _ (fun h => absurd rfl h) ?_
    clear hK K_
    refine anyS_done (by kernel_rfl) ?_ _
    simp only [normPost]
    have HKZ := Lib.hid (bkS HKV.out HZ1.out (by omega))
    have v0 := box1 HKZ.out
    go_wp2
    have Rv0 := cell_regrown v0
    refine wp_region_quiet_below (by kernel_rfl) (by kernel_rfl) ?_
    repeat (first | go_big_quiet_step (fail) | quiet_step (fail))
    refine wpQuiet_nil ?_
    intro _ hw'
    obtain ⟨⟨dq, osq⟩, hw''⟩ := hw'
    subst hw''
    obtain ⟨Z2, hZ2⟩ : ∃ V, V = grow (redrawn Z1 dq) osq := ⟨_, rfl⟩
    have hbZ2 : Below Z1.heap.size Z1 Z2 := by rw [hZ2]; exact below_regrown _ _ _
    rw [← hZ2]
    clear hZ2
    clear Rv0
    have hso9 : SameOut (fun j => j = g) W Z2 := HZ1.out.trans (SameOut.of_below hbZ2)
    have hlt9 := (Array.getElem?_eq_some_iff.1 HKD.out).1
    have hK3 : Z2.heap[Dm]? = some (.deferred (some [])) := (hso9.block Dm hlt9 (by omega)).trans HKD.out
    have HK3 := Lib.hid hK3
    have HPOST := Lib.hid (over_post hng hsk HTT.out HL.out HDF.out HYV.out HB.out HSO.out hso9 (HB2.out.next hbZ2) HBG.out HOW.out HDL.out HOV.out HNV.out hPD hgs hgB hboR hD hcap hco)
    clear hso9 hbZ2 hK3 v0 hlt9
    go_wp2
    refine ⟨by simp, .inl ⟨_, _, rfl, run_takeDeferred HK3.out, ?_⟩⟩
    refine ⟨.tuple #[.slice (some ⟨g, 0, none⟩) 1 cap, .slice Ao (t + 1) co, .int .i64 0], by simp [results, Try.results14, go_sem], ?_⟩
    exact HPOST.out
  case stop =>
    intro D Pv cc pre W hD hSx hPD hf hK
    exact hf.elim
end Go.Proofs.Ythihhmlgpokomaa
