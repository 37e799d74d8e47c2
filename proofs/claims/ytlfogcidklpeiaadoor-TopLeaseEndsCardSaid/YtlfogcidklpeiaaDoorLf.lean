/- lease.alive and its iterator: what the closure yields. -/
import Derived.Test.YtlfogcidklpeiaaDoorLe
import Derived.Test.YtlfogcidklpeiaaDoorSeqG
import Derived.Shelf.Abstract
import Derived.OwnWalkIn
import Derived.TacticsInMore
import Derived.LoopNIn
import Derived.LoopIn
import Derived.RangeFuncBox
import Derived.ControlIn
import Derived.WalkMore
set_option linter.unusedVariables false
set_option linter.unusedSimpArgs false
namespace Go.Proofs.YtlfogcidklpeiaaDoor
open Go.RowKit Go.Sort Go.Shelf
attribute [local go_sem] Oper.semAt_some

/-- what is yielded -/
def encL (x : Lea) : Array Value := #[.agg #[.int .i64 x.n, .int .i64 x.c, .int .i64 x.a, .int .i64 x.f, .int .i64 x.t]]
theorem filter_rest {l : List Lea} {k : Nat} {tick : Int} {x : Lea} (hv : vlB l = true) (hk : k < l.length) (hx : x = l[k]) (hf : tick < x.f) : l.filter (aliB tick) = (l.take k).filter (aliB tick) := by
  conv => lhs; rw [← List.take_append_drop k l, List.filter_append]
  rw [show (l.drop k).filter (aliB tick) = [] from ?_, List.append_nil]
  rw [List.filter_eq_nil_iff]
  intro y hy
  rw [aliB_iff]
  obtain ⟨i, hi, rfl⟩ := List.getElem_of_mem hy
  rw [List.length_drop] at hi
  rw [List.getElem_drop]
  have : x.f ≤ l[k + i].f := by
    by_cases e : i = 0
    · subst e; rw [hx]; exact Int.le_refl _
    · have h3 := ((vlB_iff l).1 hv).2.2
      rw [List.pairwise_iff_getElem] at h3
      rw [hx]
      exact ((folB_iff _ _).1 (h3 k (k + i) hk (by omega) (by omega))).2
  omega

theorem bkS {Pv : Nat → Prop} {w w' : World} {g : Nat} {t : TypeId} {cs : Array Value} (h : Bk w g t cs) (hs : SameOut Pv w w') (hn : ¬ Pv g) : Bk w' g t cs := (hs.block g h.lt hn).trans h
theorem rdL_out {G : Nat → Prop} {w w' : World} {B : Nat} {A : Option Addr} {l : List Lea} (h : RdL w B A l) (hs : SameOut G w w') (hB : B ≤ w.heap.size) (hG : ∀ k, G k → B ≤ k) : RdL w' B A l :=
  RdS.keep h fun p hp => World.cell?_of_block (hs.block p.block (by omega) (fun e => by have := hG _ e; omega))

set_option maxHeartbeats 4000000 in
set_option maxRecDepth 100000 in
theorem alive_seq (l : List Lea) (tick : Int) (A : Option Addr) (c Bl Bt : Nat) (w0 : World) (B : Nat) (G : Nat → Prop) (hl : Bk w0 Bl 36 #[.slice A l.length c]) (ht : Bk w0 Bt 3 #[.int .i64 tick]) (hA : RdL w0 B A l) (hB : B ≤ w0.heap.size) (hGl : ¬ G Bl) (hGt : ¬ G Bt) (hGA : ∀ k, G k → B ≤ k) (hv : vlB l = true) :
    SeqG Tryd.prog 24 #[.pointer (some ⟨Bl, 0, none⟩), .pointer (some ⟨Bt, 0, none⟩)] encL (fun _ x _ => x ∈ l) (fun xs => xs = l.filter (aliB tick)) (fun _ => True) (l.length + 1) G w0 := by
  intro lp m J Jx W hW hJ hJx hY h0
  have h64 := ((vlB_at l).1 hv).1
  have HV := Lib.hid hv
  have HA := Lib.hid hA
  have HL := Lib.hid hl
  have HT := Lib.hid ht
  have b0 := box1 (bkS hl hW hGl)
  have b1 := box1 (bkS ht hW hGt)
  have HJ := Lib.hid hJ
  have HY := Lib.hid hY
  have H0 := Lib.hid h0
  clear hv hA hl ht hJ hY h0
  refine callsIn_of_wp Tryd.func24 rfl trivial ?_ rfl
  simp only [Tryd.ntmps24, List.size_toArray, List.length_cons, List.length_nil, Nat.reduceAdd, Nat.reduceSub, Array.replicate_succ, Array.replicate_zero, List.push_toArray, List.append_toArray, List.nil_append, List.cons_append]
  gi_wp2
  refine wpIn_wide.2 (wp_scope_straight ((wpIn_wide (n := m)).1 (wpIn_seq (wpIn_label ?_))))
  simp only [Exit.then]
  gi_wp2
  gi_loopw [8] (fun i wr => ∃ k : Nat, i = .int .i64 (k : Int) ∧ k ≤ l.length ∧ J (fun _ => False) ((l.take k).filter (aliB tick)) wr ∧ SameOut G w0 wr) (fun i _ => l.length - (intOf i).toNat)
  case atStart => exact ⟨0, rfl, Nat.zero_le _, H0.out _ (fun _ h => h.elim), hW⟩
  case round =>
    obtain ⟨k, rfl, hk, hj, hb⟩ := hrel
    have HJR := Lib.hid hj
    have HB := Lib.hid hb
    clear hj hb b0 b1
    by_cases hlt : k < l.length
    · obtain ⟨b, o, rfl, hbb, x0, x1, x2, x3, x4⟩ := (rdL_out HA.out HB.out hB hGA).at_ hlt
      obtain ⟨x, hx⟩ : ∃ y, y = l[k] := ⟨_, rfl⟩
      have h1x := vlB_one HV.out (List.getElem_mem hlt)
      rw [← hx] at x0 x1 x2 x3 x4 h1x
      have HX := Lib.hid hx
      have H1X := Lib.hid h1x
      clear hx h1x
      have k1 : (0 : Int) ≤ (k : Int) := by omega
      have k2 : (k : Int) < (l.length : Int) := by omega
      have hf0 : ((l.take k).filter (aliB tick)).length ≤ k := filter_take_le
      have tb := World.new_ne wr _ (box1 (bkS HT.out HB.out hGt))
      have tb1 := (box1 (bkS HT.out HB.out hGt))
      have tb3 := box1 ((bkS HT.out HB.out hGt).alloc (.cells #[.int .i64 x.n, .int .i64 x.c, .int .i64 x.a, .int .i64 x.f, .int .i64 x.t] 30))
      by_cases hf : x.f ≤ tick
      · by_cases he : tick < endI x
        · have ha : aliB tick x = true := by rw [aliB_iff]; unfold endI at he; omega
          have HAL := Lib.hid ha
          clear ha
          gi_wp2
          obtain ⟨U, hU⟩ : ∃ U, U = wr.alloc (.cells #[.int .i64 x.n, .int .i64 x.c, .int .i64 x.a, .int .i64 x.f, .int .i64 x.t] 30) := ⟨_, rfl⟩
          have kx : Bk U wr.heap.size 30 #[.int .i64 x.n, .int .i64 x.c, .int .i64 x.a, .int .i64 x.f, .int .i64 x.t] := by rw [hU]; exact Bk.new _ _ _
          have hbU : Below wr.heap.size wr U := by rw [hU]; exact al1 _ _
          rw [← hU]
          clear hU
          obtain ⟨gx, hgx⟩ : ∃ g, g = wr.heap.size := ⟨_, rfl⟩
          rw [← hgx] at kx ⊢
          clear hgx
          obtain ⟨y0, y1, y2, y3, y4⟩ := box5 kx
          have tc := box1 ((bkS HT.out HB.out hGt).next hbU)
          refine wpIn_wide.2 ?_
          have Ry0 := cell_regrown y0
          have Ry1 := cell_regrown y1
          have Ry2 := cell_regrown y2
          have Ry3 := cell_regrown y3
          have Ry4 := cell_regrown y4
          have Rtc := cell_regrown tc
          have CE := fun (d : Nat) (os : Array Obj) => Calls.regrown_of (end_any x (grow (redrawn U d) os) H1X.out)
          refine wp_region_quiet_below (by kernel_rfl) (by kernel_rfl) ?_
          repeat (first | go_big_quiet_step (first | (with_reducible exact CE _ _)) | quiet_step (first | (with_reducible exact CE _ _)))
          refine wpQuiet_nil ?_
          intro _ hw'
          obtain ⟨⟨dq, osq⟩, hw''⟩ := hw'
          subst hw''
          obtain ⟨V, hV⟩ : ∃ V, V = grow (redrawn U dq) osq := ⟨_, rfl⟩
          have hbV : Below U.heap.size U V := by rw [hV]; exact below_regrown _ _ _
          rw [← hV]
          clear hV
          clear Ry0
          clear Ry1
          clear Ry2
          clear Ry3
          clear Ry4
          clear Rtc
          clear CE
          have HBV := Lib.hid (bt hbV hbU)
          have kx := kx.next hbV
          clear y0 y1 y2 y3 y4 tc hbU hbV tb tb1 tb3 x0 x1 x2 x3 x4
          obtain ⟨y0, y1, y2, y3, y4⟩ := box5 kx
          have hlx := kx.lt
          have HJV := Lib.hid (HJ.out _ _ _ _ _ HJR.out (SameOut.of_below HBV.out) (fun k h => .inl h))
          have HW : Hid (SameOut G w0 V) := HB.out.trans (SameOut.of_below HBV.out)
          clear kx
          obtain ⟨fn, tmps, assign, body, hy, hR⟩ := HY.out (fun _ => False) _ x V HJV.out (by rw [HX.out]; exact List.getElem_mem hlt) (fun _ h => h.elim) (by omega)
          dsimp only [encL] at hy
          gi_wp2
          refine ⟨(fun h => by cases h), hR.mono ?_⟩
          rintro e W7 (⟨rfl, hJ7, hs7, hb7⟩ | ⟨rfl, hJx7⟩)
          · have R1 : Hid (J (fun _ => False) ((l.take (k + 1)).filter (aliB tick)) W7) := by
              show J _ _ _
              rw [filter_take_pos hlt HX.out HAL.out]; exact hJ7
            have R2 : Hid (SameOut G w0 W7) := HW.out.trans hb7
            clear hR hy hJ7 hs7 hb7
            gi_wp2
            go_roundw
            case rel => exact ⟨k + 1, by go_num, by omega, R1.out, R2.out⟩
            case measure => simp [intOf]; omega
          · clear hR hy
            gi_wp2
            (try simp only [Exit.noGoto_normal, Exit.noGoto_ret, Exit.noGoto_exit, Exit.inBlock, Exit.then])
            refine bodyPost_ret (results_none rfl _ _ _) rfl ?_
            exact ⟨⟨_, rfl⟩, .inr ⟨fun _ => False, _, trivial, hJx7⟩⟩
        · have ha : aliB tick x = false := by rw [← Bool.not_eq_true, aliB_iff]; unfold endI at he; omega
          have HAL := Lib.hid ha
          clear ha
          gi_wp2
          obtain ⟨U, hU⟩ : ∃ U, U = wr.alloc (.cells #[.int .i64 x.n, .int .i64 x.c, .int .i64 x.a, .int .i64 x.f, .int .i64 x.t] 30) := ⟨_, rfl⟩
          have kx : Bk U wr.heap.size 30 #[.int .i64 x.n, .int .i64 x.c, .int .i64 x.a, .int .i64 x.f, .int .i64 x.t] := by rw [hU]; exact Bk.new _ _ _
          have hbU : Below wr.heap.size wr U := by rw [hU]; exact al1 _ _
          rw [← hU]
          clear hU
          obtain ⟨gx, hgx⟩ : ∃ g, g = wr.heap.size := ⟨_, rfl⟩
          rw [← hgx] at kx ⊢
          clear hgx
          obtain ⟨y0, y1, y2, y3, y4⟩ := box5 kx
          have tc := box1 ((bkS HT.out HB.out hGt).next hbU)
          refine wpIn_wide.2 ?_
          have Ry0 := cell_regrown y0
          have Ry1 := cell_regrown y1
          have Ry2 := cell_regrown y2
          have Ry3 := cell_regrown y3
          have Ry4 := cell_regrown y4
          have Rtc := cell_regrown tc
          have CE := fun (d : Nat) (os : Array Obj) => Calls.regrown_of (end_any x (grow (redrawn U d) os) H1X.out)
          refine wp_region_quiet_below (by kernel_rfl) (by kernel_rfl) ?_
          repeat (first | go_big_quiet_step (first | (with_reducible exact CE _ _)) | quiet_step (first | (with_reducible exact CE _ _)))
          refine wpQuiet_nil ?_
          intro _ hw'
          obtain ⟨⟨dq, osq⟩, hw''⟩ := hw'
          subst hw''
          obtain ⟨V, hV⟩ : ∃ V, V = grow (redrawn U dq) osq := ⟨_, rfl⟩
          have hbV : Below U.heap.size U V := by rw [hV]; exact below_regrown _ _ _
          rw [← hV]
          clear hV
          clear Ry0
          clear Ry1
          clear Ry2
          clear Ry3
          clear Ry4
          clear Rtc
          clear CE
          have HBV := Lib.hid (bt hbV hbU)
          have kx := kx.next hbV
          clear y0 y1 y2 y3 y4 tc hbU hbV tb tb1 tb3 x0 x1 x2 x3 x4
          obtain ⟨y0, y1, y2, y3, y4⟩ := box5 kx
          have hlx := kx.lt
          have HJV := Lib.hid (HJ.out _ _ _ _ _ HJR.out (SameOut.of_below HBV.out) (fun k h => .inl h))
          have HW : Hid (SameOut G w0 V) := HB.out.trans (SameOut.of_below HBV.out)
          clear kx
          gi_wp2
          go_roundw
          case rel => exact ⟨k + 1, by go_num, by omega, by rw [filter_take_neg hlt HX.out HAL.out]; exact HJV.out, HW.out⟩
          case measure => simp [intOf]; omega
      · have hf' : tick < x.f := by omega
        gi_wp2
        (try simp only [Exit.noGoto_normal, Exit.noGoto_ret, Exit.noGoto_exit, Exit.inBlock, Exit.then])
        go_end0
        exact ⟨⟨_, rfl⟩, .inl ⟨fun _ => False, _, (filter_rest HV.out hlt HX.out (by omega)).symm, HJ.out _ _ _ _ _ HJR.out (SameOut.alloc _ _ _) (fun k h => .inl h)⟩⟩
    · obtain rfl : k = l.length := by omega
      have hj := HJR.out
      rw [List.take_of_length_le (Nat.le_refl _)] at hj
      have HJ2 := Lib.hid hj
      clear hj
      gi_wp2
      (try simp only [Exit.noGoto_normal, Exit.noGoto_ret, Exit.noGoto_exit, Exit.inBlock, Exit.then])
      go_end0
      exact ⟨⟨_, rfl⟩, .inl ⟨fun _ => False, _, rfl, HJ2.out⟩⟩
end Go.Proofs.YtlfogcidklpeiaaDoor
