/- hub.ready and its iterator: what the closure yields. -/
import Derived.Test.YthihhmlgpokomaaWj
import Derived.Test.YthihhmlgpokomaaSeqG
import Derived.OwnWalkIn
import Derived.TacticsInMore
import Derived.LoopNIn
import Derived.LoopIn
import Derived.RangeFuncBox
import Derived.ControlIn
import Derived.WalkMore
set_option maxRecDepth 100000
set_option linter.unusedVariables false
set_option linter.unusedSimpArgs false
namespace Go.Proofs.Ythihhmlgpokomaa
open Go.RowKit
attribute [local go_sem] Oper.semAt_some

/-- what is yielded -/
def encM (x : Nat) : Array Value := #[.agg #[.int .i64 7, .int .i64 ((x : Int) + 1), .int .i64 (x : Int)]]
theorem bkS {Pv : Nat → Prop} {w w' : World} {g : Nat} {t : TypeId} {cs : Array Value} (h : Bk w g t cs) (hs : SameOut Pv w w') (hn : ¬ Pv g) : Bk w' g t cs := (hs.block g h.lt hn).trans h
theorem rdM_out {G : Nat → Prop} {w w' : World} {B : Nat} {A : Option Addr} {l : List Nat} (h : RdM w B A l) (hs : SameOut G w w') (hB : B ≤ w.heap.size) (hG : ∀ k, G k → B ≤ k) : RdM w' B A l :=
  RdS.keep h fun p hp => World.cell?_of_block (hs.block p.block (by omega) (fun e => by have := hG _ e; omega))
theorem ready_any (k : Nat) (A : Option Addr) (len c : Nat) (w : World) :
    Calls Try.prog 35 #[.agg #[.int .i64 7, .int .i64 ((k : Int) + 1), .int .i64 (k : Int)], .slice A len c] w fun e w' => e = .returned (.func (.func 48) #[] #[.pointer (some ⟨w.heap.size, 0, none⟩), .pointer (some ⟨w.heap.size + 1, 0, none⟩)]) ∧
      w' = (w.alloc (.cells #[.int .i64 7, .int .i64 ((k : Int) + 1), .int .i64 (k : Int)] 50)).alloc (.cells #[.slice A len c] 46) := by
  go_enter Try.func35, Try.ntmps35
  go_wp2
  go_ret
  exact ⟨rfl, rfl⟩
set_option maxHeartbeats 2000000 in
theorem ready_seq (n : Nat) (s : Ib) (D : Option Addr) (d Bm Bw : Nat) (w0 : World) (B : Nat) (G : Nat → Prop) (hm : Bk w0 Bm 50 #[.int .i64 7, .int .i64 ((s.1 : Int) + 1), .int .i64 (s.1 : Int)]) (hwt : Bk w0 Bw 46 #[.slice D s.2.length d]) (hr : RdM w0 B D s.2) (hB : B ≤ w0.heap.size) (hGm : ¬ G Bm) (hGw : ¬ G Bw) (hGA : ∀ k, G k → B ≤ k) (hv : Iv n s) (hn : n ≤ 64) :
    SeqG Try.prog 48 #[.pointer (some ⟨Bm, 0, none⟩), .pointer (some ⟨Bw, 0, none⟩)] encM (fun _ x _ => True) (fun xs => xs = s.1 :: s.2.take (ovT s)) (fun _ => True) (s.2.length + 2) G w0 := by
  intro lp m J Jx W hW hJ hJx hY h0
  have h64 := hv.len
  have HV := Lib.hid hv
  have HR := Lib.hid hr
  have HM := Lib.hid hm
  have HWt := Lib.hid hwt
  have HJ := Lib.hid hJ
  have HY := Lib.hid hY
  have H0 := Lib.hid h0
  have HW := Lib.hid hW
  obtain ⟨ov1, ov2, ov3⟩ := ov_spec s
  have HOV2 := Lib.hid ov2
  have HOV3 := Lib.hid ov3
  obtain ⟨b0, b1, b2⟩ := box3 (bkS hm hW hGm)
  have d0 := box1 (bkS hwt hW hGw)
  clear hv hr hm hwt hJ hY h0 hW ov2 ov3
  refine callsIn_of_wp Try.func48 rfl trivial ?_ rfl
  simp only [Try.ntmps48, List.size_toArray, List.length_cons, List.length_nil, Nat.reduceAdd, Nat.reduceSub, Array.replicate_succ, Array.replicate_zero, List.push_toArray, List.append_toArray, List.nil_append, List.cons_append]
  obtain ⟨fn, tmps, assign, body, hy, hR⟩ := HY.out (fun _ => False) [] s.1 W (H0.out _ (fun _ h => h.elim)) trivial (fun _ h => h.elim) (by simp)
  dsimp only [encM] at hy
  gi_wp2
  refine ⟨(fun h => by cases h), hR.mono ?_⟩
  clear hR hy b0 b1 b2 d0
  rintro e W7 (⟨rfl, hJ7, hs7, hb7⟩ | ⟨rfl, hJx7⟩)
  · have R1 : Hid (J (fun _ => False) [s.1] W7) := Lib.hid (by simpa using hJ7)
    have R2 : Hid (SameOut G w0 W7) := Lib.hid (HW.out.trans hb7)
    clear hJ7 hs7 hb7
    have d0 := box1 (bkS HWt.out R2.out hGw)
    gi_wp2
    clear d0
    gi_loopw [12] (fun i wr => ∃ k : Nat, i = .int .i64 (k : Int) ∧ k ≤ ovT s ∧ J (fun _ => False) (s.1 :: s.2.take k) wr ∧ SameOut G w0 wr) (fun i _ => s.2.length - (intOf i).toNat)
    case atStart => exact ⟨0, rfl, Nat.zero_le _, by simpa using R1.out, R2.out⟩
    case round =>
      obtain ⟨k, rfl, hk, hj, hb⟩ := hrel
      have HJR := Lib.hid hj
      have HB := Lib.hid hb
      clear hj hb
      by_cases hkt : k < ovT s
      · have hlt : k < s.2.length := by omega
        obtain ⟨b, o, rfl, hbb, x0, x1, x2⟩ := rdM_at (rdM_out HR.out HB.out hB hGA) hlt
        obtain ⟨x, hx⟩ : ∃ y, y = s.2[k] := ⟨_, rfl⟩
        rw [← hx] at x1 x2
        have HX := Lib.hid hx
        have k1 : (0 : Int) ≤ (k : Int) := by omega
        have k2 : (k : Int) < (s.2.length : Int) := by omega
        have hs1 := HV.out.le
        have hxn : x < n := by rw [hx]; exact HV.out.hi k hlt
        obtain ⟨m0, m1, m2⟩ := box3 (bkS HM.out HB.out hGm)
        obtain ⟨n0, n1, n2⟩ := box3 ((bkS HM.out HB.out hGm).alloc (.cells #[.int .i64 7, .int .i64 ((x : Int) + 1), .int .i64 (x : Int)] 50))
        have lm := (bkS HM.out HB.out hGm).lt
        have hxe : x = s.1 + 1 + k := by rw [hx]; exact HOV2.out k hlt hkt
        have HXE := Lib.hid hxe
        have q1 : (((x : Int) + 1) != ((s.1 : Int) + 1 + 1 + (k : Int))) = false := by rw [hxe]; simp; omega
        clear hx hxe
        gi_wp2
        obtain ⟨U, hU⟩ : ∃ Zz, Zz = wr.alloc (.cells #[.int .i64 7, .int .i64 ((x : Int) + 1), .int .i64 (x : Int)] 50) := ⟨_, rfl⟩
        have kx : Bk U wr.heap.size 50 #[.int .i64 7, .int .i64 ((x : Int) + 1), .int .i64 (x : Int)] := by rw [hU]; exact Bk.new _ _ _
        have hbU : Below wr.heap.size wr U := by rw [hU]; exact al1 _ _
        rw [← hU]
        clear hU
        have HJV := Lib.hid (HJ.out _ _ _ _ _ HJR.out (SameOut.of_below hbU) (fun k h => .inl h))
        have HW2 : Hid (SameOut G w0 U) := Lib.hid (HB.out.trans (SameOut.of_below hbU))
        obtain ⟨fn, tmps, assign, body, hy, hR⟩ := HY.out (fun _ => False) _ x U HJV.out trivial (fun _ h => h.elim) (by simp; omega)
        dsimp only [encM] at hy
        obtain ⟨y0, y1, y2⟩ := box3 kx
        gi_wp2
        simp only [hy]
        refine ⟨(fun h => by cases h), hR.mono ?_⟩
        clear hR hy y0 y1 y2 kx hbU x0 x1 x2 m0 m1 m2 n0 n1 n2 lm q1
        rintro e W9 (⟨rfl, hJ9, hs9, hb9⟩ | ⟨rfl, hJx7⟩)
        · have R3 : Hid (J (fun _ => False) (s.1 :: s.2.take (k + 1)) W9) := Lib.hid (by rw [List.take_succ_eq_append_getElem hlt, ← HX.out]; simpa using hJ9)
          have R4 : Hid (SameOut G w0 W9) := Lib.hid (HW2.out.trans hb9)
          clear hJ9 hs9 hb9
          gi_wp2
          go_roundw
          case rel => exact ⟨k + 1, by go_num, by omega, R3.out, R4.out⟩
          case measure => simp [intOf]; omega
        · gi_wp2
          (try simp only [Exit.noGoto_normal, Exit.noGoto_ret, Exit.noGoto_exit, Exit.inBlock, Exit.then])
          refine bodyPost_ret (results_none rfl _ _ _) rfl ?_
          exact ⟨⟨_, rfl⟩, .inr ⟨fun _ => False, _, trivial, hJx7⟩⟩
      · obtain rfl : k = ovT s := by omega
        have HJ2 := HJR
        by_cases hlt : ovT s < s.2.length
        · obtain ⟨b, o, rfl, hbb, x0, x1, x2⟩ := rdM_at (rdM_out HR.out HB.out hB hGA) hlt
          obtain ⟨x, hx⟩ : ∃ y, y = s.2[ovT s] := ⟨_, rfl⟩
          rw [← hx] at x1 x2
          have HX := Lib.hid hx
          have k1 : (0 : Int) ≤ (ovT s : Int) := by omega
          have k2 : (ovT s : Int) < (s.2.length : Int) := by omega
          have hs1 := HV.out.le
          have hxn : x < n := by rw [hx]; exact HV.out.hi (ovT s) hlt
          obtain ⟨m0, m1, m2⟩ := box3 (bkS HM.out HB.out hGm)
          obtain ⟨n0, n1, n2⟩ := box3 ((bkS HM.out HB.out hGm).alloc (.cells #[.int .i64 7, .int .i64 ((x : Int) + 1), .int .i64 (x : Int)] 50))
          have lm := (bkS HM.out HB.out hGm).lt
          have hxe : x ≠ s.1 + 1 + ovT s := by rw [hx]; exact HOV3.out hlt
          obtain ⟨k, hkk⟩ : ∃ k, k = ovT s := ⟨_, rfl⟩
          rw [← hkk] at x0 x1 x2 k1 k2 hxe HJ2 ⊢
          have HKK := Lib.hid hkk
          have q1 : (((x : Int) + 1) != ((s.1 : Int) + 1 + 1 + (k : Int))) = true := by rw [bne_iff_ne]; omega
          clear hx hxe hkk HJR hk hkt
          gi_wp2
          refine ⟨(fun f h => by cases h), ?_⟩
          gi_wp2
          (try simp only [Exit.noGoto_normal, Exit.noGoto_ret, Exit.noGoto_exit, Exit.inBlock, Exit.then])
          refine bodyPost_ret (results_none rfl _ _ _) rfl ?_
          exact ⟨⟨_, rfl⟩, .inl ⟨fun _ => False, _, by rw [← HKK.out], HJ.out _ _ _ _ _ HJ2.out (SameOut.alloc _ _ _) (fun k h => .inl h)⟩⟩
        · have hle : ovT s = s.2.length := by omega
          obtain ⟨k, hkk⟩ : ∃ k, k = ovT s := ⟨_, rfl⟩
          rw [← hkk] at HJ2 hle ⊢
          have HKK := Lib.hid hkk
          have kk : ¬ (k : Int) < (s.2.length : Int) := by omega
          have HLE := Lib.hid hle
          clear hle hkk HJR hlt hk hkt
          gi_wp2
          (try simp only [Exit.noGoto_normal, Exit.noGoto_ret, Exit.noGoto_exit, Exit.inBlock, Exit.then])
          go_end0
          exact ⟨⟨_, rfl⟩, .inl ⟨fun _ => False, by rw [← HKK.out]; exact HJ2.out⟩⟩
  · gi_wp2
    (try simp only [Exit.noGoto_normal, Exit.noGoto_ret, Exit.noGoto_exit, Exit.inBlock, Exit.then])
    refine bodyPost_ret (results_none rfl _ _ _) rfl ?_
    exact ⟨⟨_, rfl⟩, .inr ⟨fun _ => False, _, trivial, hJx7⟩⟩
end Go.Proofs.Ythihhmlgpokomaa
