/- The reference's Format. -/
import Derived.Test.YthebojaminploaaGreatDoorKJX3
import Derived.Test.YthebojaminploaaGreatDoorKJG
import Derived.Test.YthebojaminploaaGreatDoorKFZ
import Derived.Test.YthebojaminploaaGreatDoorKJk
set_option maxRecDepth 100000
set_option linter.unusedVariables false
set_option linter.unusedSimpArgs false
namespace Go.Proofs.YthebojaminploaaGreatDoor
open Go.RowKit Go.Sort Go.Shelf

/-- the first bytes, as far as they are written -/
def fB (L : List UInt8) : Nat → List UInt8
  | 0 => L.set 0 80
  | j + 1 => (fB L j).set (j + 1) 0
theorem fB_length (L : List UInt8) : ∀ j, (fB L j).length = L.length
  | 0 => by simp [fB]
  | j + 1 => by simp [fB, fB_length L j]
theorem fB_end (L : List UInt8) (h : 5 ≤ L.length) : fB L 4 = [80, 0, 0, 0, 0] ++ L.drop 5 := by
  match L, h with
  | _ :: _ :: _ :: _ :: _ :: T, _ => simp [fB]
def Rf (M : Mem) (w : World) (g k c B j : Nat) (W : World) : Prop :=
  W.ownsRow B 5 1 (.slice (some ⟨g, 0, none⟩) (fB M.2 j).length c) (fB M.2 j).length (u8s (fB M.2 j)) ∧ Bk W k 24 #[.int .i64 M.1, .slice (some ⟨g, 0, none⟩) M.2.length c] ∧ Bk W w.heap.size 24 #[.int .i64 0, .slice none 0 0] ∧ Below w.heap.size w W
set_option maxHeartbeats 2000000 in
theorem rFormat_any (s k : Int) (w : World) (hs0 : -9223372036854775808 ≤ s) (hs1 : s ≤ 9223372036854775807) (hp0 : -9223372036854775808 ≤ k) (hp1 : k ≤ 9223372036854775807) :
    Calls Tryz.prog 33 #[.int .i64 s, .int .i64 k] w (fmtPost s k w) := by
  by_cases h0 : newE s k = 0
  · by_cases hj : jvB (newM s k).1 (newM s k).2.length = true
    · have hE : fmtE s k = 0 ∧ fmtM s k = ((newM s k).1, [80, 0, 0, 0, 0] ++ (newM s k).2.drop 5) := by
        have h1 : fmtE s k = 0 := by simp [fmtE, h0, hj]
        exact ⟨h1, by unfold fmtM; rw [if_pos h1]⟩
      go_enter Tryz.func33, Tryz.ntmps33
      go_wp2_with fail
      obtain ⟨U, hU⟩ : ∃ Zz, Zz = w.alloc (.cells #[.int .i64 0, .slice none 0 0] 24) := ⟨_, rfl⟩
      have hbU : Below w.heap.size w U := by rw [hU]; exact al1 _ _
      have k4 : Bk U w.heap.size 24 #[.int .i64 0, .slice none 0 0] := by rw [hU]; exact Bk.new _ _ _
      rw [← hU]
      clear hU
      have hku : w.heap.size < U.heap.size := k4.lt
      refine (rNew_any s k U hs0 hs1 hp0 hp1).mono ?_
      rintro e V ⟨A, c, rfl, hcl, hRd, hbV, hown⟩
      replace k4 := k4.next hbV
      have HB := Lib.hid (bt hbV hbU)
      obtain ⟨M, hM⟩ : ∃ M, M = newM s k := ⟨_, rfl⟩
      rw [← hM] at hcl hRd hown ⊢
      have e0 : (newE s k != 0) = false := by simp [h0]
      rw [h0]
      have HM := Lib.hid hM
      have h32 : 32 ≤ M.2.length := by rw [HM.out]; exact jv_len hj
      obtain ⟨g, rfl⟩ : ∃ g, A = some ⟨g, 0, none⟩ := by
        obtain ⟨g, cap, hv, _⟩ := hown.form (by omega)
        injection hv with hv; exact ⟨g, hv⟩
      have hgU := (own_lt hown rfl).1
      have lg := (own_lt hown rfl).2
      have HO := Lib.hid hown
      have lk := k4.lt
      have K4 := Lib.hid k4
      clear hM hcl hRd hbV hbU k4 e0 hown
      go_wp2_with fail
      obtain ⟨U2, hU2⟩ : ∃ Zz, Zz = V.alloc (.cells #[.int .i64 M.1, .slice (some ⟨g, 0, none⟩) M.2.length c] 24) := ⟨_, rfl⟩
      have hb2 : Below V.heap.size V U2 := by rw [hU2]; exact al1 _ _
      have k6 : Bk U2 V.heap.size 24 #[.int .i64 M.1, .slice (some ⟨g, 0, none⟩) M.2.length c] := by rw [hU2]; exact Bk.new _ _ _
      rw [← hU2]
      clear hU2
      refine (Memory_lit true M.1 _ M.2.length c (by rw [HM.out]; exact hj) U2).mono ?_
      rintro e V2 ⟨rfl, hb3⟩
      have hb4 := bt hb3 hb2
      replace k6 := k6.next hb3
      have K4 := Lib.hid (K4.out.next hb4)
      have HO := Lib.hid (own_next HO.out hb4)
      have HB := Lib.hid (bt hb4 HB.out)
      have lk6 := k6.lt
      have lv := hb4.size
      clear hb2 hb3 hb4
      have HW := Lib.hid (k6.next (Below.refl _ _))
      clear k6
      obtain ⟨c60, c61⟩ := box2 HW.out
      have h0n : 0 < M.2.length := by omega
      obtain ⟨o1, o2, o3, o4⟩ := own_parts HO.out h0n 80
      obtain ⟨x0, hx0⟩ : ∃ x, (V2.cell? ⟨g, 0, none⟩) = some x := ⟨_, HO.out.cells rfl 0 _ (by rw [List.getElem?_eq_getElem (by simp [u8s]; omega)])⟩
      have hgk : g ≠ V.heap.size := by omega
      have hgw : g ≠ w.heap.size := by omega
      obtain ⟨W0, hW0⟩ : ∃ Zz, Zz = V2.setCell ⟨g, 0, none⟩ (.int .u8 80) := ⟨_, rfl⟩
      have R0 : Rf M w g V.heap.size c U.heap.size 0 W0 := ⟨by rw [fB_length, hW0]; exact o4, by rw [hW0]; exact HW.out.far (p := ⟨g, 0, none⟩) (fun h => hgk h.symm) _, by rw [hW0]; exact K4.out.far (p := ⟨g, 0, none⟩) (fun h => hgw h.symm) _, by rw [hW0]; exact HB.out.setCell (p := ⟨g, 0, none⟩) (by show w.heap.size ≤ g; omega) _⟩
      clear o4
      go_wp2_with fail
      rw [← hW0]
      clear hW0 hx0 o3 c60 c61
      go_loopw [9] (fun i wr => ∃ j : Nat, i = .int .i64 ((j : Int) + 1) ∧ j ≤ 4 ∧ Rf M w g V.heap.size c U.heap.size j wr) (fun i _ => 5 - (intOf i).toNat)
      case atStart => exact ⟨0, rfl, by omega, R0⟩
      case round =>
        obtain ⟨j, rfl, hj4, hR⟩ := hrel
        obtain ⟨r1, r2, r3, r4⟩ := hR
        obtain ⟨c60, c61⟩ := box2 r2
        by_cases hlt : j < 4
        · have hin : j + 1 < (fB M.2 j).length := by rw [fB_length]; omega
          obtain ⟨o1, o2, o3, o4⟩ := own_parts r1 hin 0
          rw [fB_length] at o1 r1 o4
          obtain ⟨x0, hx0⟩ : ∃ x, (wr.cell? ⟨g, j + 1, none⟩) = some x := by
            have h9 := r1.cells rfl (j + 1) _ (List.getElem?_eq_getElem (by simp [u8s]; omega))
            rw [add_mk, Nat.zero_add] at h9
            exact ⟨_, h9⟩
          obtain ⟨p, hp⟩ : ∃ p, p = j + 1 := ⟨_, rfl⟩
          rw [← hp] at hx0 o3 o4
          have hpI : (j : Int) + 1 = (p : Int) := by omega
          rw [hpI]
          have p1 : (0 : Int) ≤ (p : Int) := by omega
          have p2 : (p : Int) < (M.2.length : Int) := by omega
          have p3 : (p : Int) < 5 := by omega
          have p6 : p < 5 := by omega
          have p7 : decide ((p : Int) < 5) = true := by simp; omega
          have p5 : IntKind.i64.wrap (p : Int) = (p : Int) := IntWalk.i64_in _ (by omega)
          have p4 : ((p : Int)).toNat = p := by omega
          have R1 : Rf M w g V.heap.size c U.heap.size (j + 1) (wr.setCell ⟨g, p, none⟩ (.int .u8 0)) := ⟨by
            rw [show (fB M.2 (j + 1)) = (fB M.2 j).set p 0 from by rw [hp]; rfl, List.length_set, fB_length]; exact o4, r2.far (p := ⟨g, p, none⟩) (fun h => hgk h.symm) _, r3.far (p := ⟨g, p, none⟩) (fun h => hgw h.symm) _, r4.setCell (p := ⟨g, p, none⟩) (by show w.heap.size ≤ g; omega) _⟩
          have HR1 := Lib.hid R1
          have HPI := Lib.hid hp
          clear hp hpI R1 o4 r1 r2 r3 r4 HO HW K4 HB
          go_wp2
          go_roundw
          case rel => exact ⟨j + 1, by have hp := HPI.out; rw [hp], by omega, HR1.out⟩
          case measure => simp [intOf]; omega
        · obtain rfl : j = 4 := by omega
          have HF : Hid (fB M.2 4 = [80, 0, 0, 0, 0] ++ M.2.drop 5) := fB_end M.2 (by omega)
          have j5 : ¬ (((4 : Nat) : Int) + 1 < 5) := by decide
          rw [HF.out] at r1
          have hlen : ([80, 0, 0, 0, 0] ++ M.2.drop 5).length = M.2.length := by simp; omega
          have HRR := Lib.hid r1
          obtain ⟨c40, c41⟩ := box2 r3
          have f40 := r3.frozen 0
          have f41 := r3.frozen 1
          have HLEN := Lib.hid hlen
          clear r1 hlen
          have K3 := Lib.hid r3
          have K5 := Lib.hid r2
          clear r2 r3 K4
          go_wp2
          obtain ⟨X, hX⟩ : ∃ Zz, Zz = (wr.setCell ⟨w.heap.size, 0, none⟩ (.int .i64 M.1)).setCell ⟨w.heap.size, 1, none⟩ (.slice (some ⟨g, 0, none⟩) M.2.length c) := ⟨_, rfl⟩
          have kX : Bk X w.heap.size 24 #[.int .i64 M.1, .slice (some ⟨g, 0, none⟩) M.2.length c] := by rw [hX]; simpa using (K3.out.set 0 (.int .i64 M.1)).set 1 (.slice (some ⟨g, 0, none⟩) M.2.length c)
          have hr := HRR.out
          rw [HLEN.out] at hr
          have hgX : X.ownsRow U.heap.size 5 1 (.slice (some ⟨g, 0, none⟩) M.2.length c) M.2.length (u8s ([80, 0, 0, 0, 0] ++ M.2.drop 5)) := by
            rw [hX]
            exact own_set_far (own_set_far hr (p := ⟨w.heap.size, 0, none⟩) (by simp [Value.ownBlock]; omega) _) (p := ⟨w.heap.size, 1, none⟩) (by simp [Value.ownBlock]; omega) _
          have hbX : Below w.heap.size w X := by rw [hX]; exact (r4.setCell (p := ⟨w.heap.size, 0, none⟩) (Nat.le_refl _) _).setCell (p := ⟨w.heap.size, 1, none⟩) (Nat.le_refl _) _
          rw [← hX]
          obtain ⟨u0, u1⟩ := box2 kX
          clear hX
          refine bodyPost_ret (v := .tuple #[.agg #[.int .i64 M.1, .slice (some ⟨g, 0, none⟩) M.2.length c], .int .i64 0]) (by simp [results, Tryz.results33, go_sem, u0, u1]) rfl ⟨some ⟨g, 0, none⟩, c, ?_, ?_, ?_, hbX⟩
          · rw [hE.1, hE.2, ← HM.out, HLEN.out]
          · rw [hE.2, ← HM.out, HLEN.out]; exact (own_parts HO.out h0n 80).1
          · rw [hE.2, ← HM.out]; show RdS _ _ _ _ _ _; rw [HLEN.out]; exact RdS.of_own hgX
    · have hj : jvB (newM s k).1 (newM s k).2.length = false := by simpa using hj
      have hE : fmtE s k = 1 ∧ fmtM s k = (0, []) := by simp [fmtE, fmtM, hj]
      go_enter Tryz.func33, Tryz.ntmps33
      go_wp2_with fail
      obtain ⟨U, hU⟩ : ∃ Zz, Zz = w.alloc (.cells #[.int .i64 0, .slice none 0 0] 24) := ⟨_, rfl⟩
      have hbU : Below w.heap.size w U := by rw [hU]; exact al1 _ _
      have k4 : Bk U w.heap.size 24 #[.int .i64 0, .slice none 0 0] := by rw [hU]; exact Bk.new _ _ _
      rw [← hU]
      clear hU
      have hku : w.heap.size < U.heap.size := k4.lt
      refine (rNew_any s k U hs0 hs1 hp0 hp1).mono ?_
      rintro e V ⟨A, c, rfl, hcl, hRd, hbV, hown⟩
      replace k4 := k4.next hbV
      have HB := Lib.hid (bt hbV hbU)
      obtain ⟨M, hM⟩ : ∃ M, M = newM s k := ⟨_, rfl⟩
      rw [← hM] at hcl hRd hown ⊢
      have e0 : (newE s k != 0) = false := by simp [h0]
      rw [h0]
      have HM := Lib.hid hM
      have lk := k4.lt
      have K4 := Lib.hid k4
      clear hM hcl hRd hbV hbU k4 e0 hown
      go_wp2_with fail
      obtain ⟨U2, hU2⟩ : ∃ Zz, Zz = V.alloc (.cells #[.int .i64 M.1, .slice A M.2.length c] 24) := ⟨_, rfl⟩
      have hb2 : Below V.heap.size V U2 := by rw [hU2]; exact al1 _ _
      have k6 : Bk U2 V.heap.size 24 #[.int .i64 M.1, .slice A M.2.length c] := by rw [hU2]; exact Bk.new _ _ _
      rw [← hU2]
      clear hU2
      refine (Memory_lit false M.1 _ M.2.length c (by rw [HM.out]; exact hj) U2).mono ?_
      rintro e V2 ⟨rfl, hb3⟩
      have hb4 := bt hb3 hb2
      replace k6 := k6.next hb3
      have K4 := Lib.hid (K4.out.next hb4)
      have HB := Lib.hid (bt hb4 HB.out)
      have lk6 := k6.lt
      have lv := hb4.size
      clear hb2 hb3 hb4
      obtain ⟨c60, c61⟩ := box2 k6
      obtain ⟨c40, c41⟩ := box2 K4.out
      have f40 := K4.out.frozen 0
      have f41 := K4.out.frozen 1
      clear k6
      go_wp2
      obtain ⟨X, hX⟩ : ∃ Zz, Zz = ((V2).setCell ⟨w.heap.size, 0, none⟩ (.int .i64 0)).setCell ⟨w.heap.size, 1, none⟩ (.slice none 0 0) := ⟨_, rfl⟩
      have kX : Bk X w.heap.size 24 #[.int .i64 0, .slice none 0 0] := by rw [hX]; exact (by simpa using (K4.out.set 0 (.int .i64 0)).set 1 (.slice none 0 0))
      have hbX : Below w.heap.size w X := by rw [hX]; exact (HB.out.setCell (p := ⟨w.heap.size, 0, none⟩) (Nat.le_refl _) _).setCell (p := ⟨w.heap.size, 1, none⟩) (Nat.le_refl _) _
      rw [← hX]
      obtain ⟨u0, u1⟩ := box2 kX
      clear hX
      refine bodyPost_ret (v := .tuple #[.agg #[.int .i64 0, .slice none 0 0], .int .i64 1]) (by simp [results, Tryz.results33, go_sem, u0, u1]) rfl ⟨none, 0, ?_, ?_, ?_, hbX⟩
      · rw [hE.1, hE.2]; rfl
      · rw [hE.2]; exact Nat.le_refl _
      · rw [hE.2]; exact RdS.nil
  · have hE : fmtE s k = 1 ∧ fmtM s k = (0, []) := by simp [fmtE, fmtM, h0]
    go_enter Tryz.func33, Tryz.ntmps33
    go_wp2_with fail
    obtain ⟨U, hU⟩ : ∃ Zz, Zz = w.alloc (.cells #[.int .i64 0, .slice none 0 0] 24) := ⟨_, rfl⟩
    have hbU : Below w.heap.size w U := by rw [hU]; exact al1 _ _
    have k4 : Bk U w.heap.size 24 #[.int .i64 0, .slice none 0 0] := by rw [hU]; exact Bk.new _ _ _
    rw [← hU]
    clear hU
    have hku : w.heap.size < U.heap.size := k4.lt
    refine (rNew_any s k U hs0 hs1 hp0 hp1).mono ?_
    rintro e V ⟨A, c, rfl, hcl, hRd, hbV, hown⟩
    replace k4 := k4.next hbV
    have HB := Lib.hid (bt hbV hbU)
    obtain ⟨M, hM⟩ : ∃ M, M = newM s k := ⟨_, rfl⟩
    rw [← hM] at hcl hRd hown ⊢
    have e0 : (newE s k != 0) = true := by simp [h0]
    obtain ⟨nn, hnn⟩ : ∃ nn, nn = newE s k := ⟨_, rfl⟩
    rw [← hnn] at e0 ⊢
    have HF := Lib.hid hnn
    obtain ⟨c40, c41⟩ := box2 k4
    have f40 := k4.frozen 0
    have f41 := k4.frozen 1
    have lk := k4.lt
    have K4 := Lib.hid k4
    clear hM hnn hown hcl hRd hbV hbU k4
    go_wp2
    obtain ⟨X, hX⟩ : ∃ Zz, Zz = (((V).setCell ⟨w.heap.size, 0, none⟩ (.int .i64 0)).setCell ⟨w.heap.size, 1, none⟩ (.slice none 0 0)).alloc (.cells #[.int .i64 M.1, .slice A M.2.length c] 24) := ⟨_, rfl⟩
    have kX : Bk X w.heap.size 24 #[.int .i64 0, .slice none 0 0] := by rw [hX]; exact Bk.alloc (by simpa using (K4.out.set 0 (.int .i64 0)).set 1 (.slice none 0 0)) _
    have hbX : Below w.heap.size w X := by rw [hX]; exact ((HB.out.setCell (p := ⟨w.heap.size, 0, none⟩) (Nat.le_refl _) _).setCell (p := ⟨w.heap.size, 1, none⟩) (Nat.le_refl _) _).alloc (by simp; omega) _
    rw [← hX]
    obtain ⟨u0, u1⟩ := box2 kX
    clear hX
    refine bodyPost_ret (v := .tuple #[.agg #[.int .i64 0, .slice none 0 0], .int .i64 1]) (by simp [results, Tryz.results33, go_sem, u0, u1]) rfl ⟨none, 0, ?_, ?_, ?_, hbX⟩
    · rw [hE.1, hE.2]; rfl
    · rw [hE.2]; exact Nat.le_refl _
    · rw [hE.2]; exact RdS.nil
end Go.Proofs.YthebojaminploaaGreatDoor

/- The reference's steps, as Append and Rewrite use them. -/
set_option maxRecDepth 100000
set_option linter.unusedVariables false
set_option linter.unusedSimpArgs false
namespace Go.Proofs.YthebojaminploaaGreatDoor
open Go.RowKit Go.Sort Go.Shelf

/-- what a step's list of n further memories is to its caller -/
def StepP (s : Int) (w : World) (ms : List (List UInt8)) (n : Nat) (e : Ending) (V : World) : Prop :=
  ∃ g2 o2 c2 z l, e = .returned (.tuple #[.slice (some ⟨g2, o2, none⟩) (n + 1) c2, .int .i64 0]) ∧ n + 1 ≤ c2 ∧ l.length = n ∧ l.map (fun x : Elt => x.2.2) = ms.drop 1 ∧ Lst s w.heap.size (z :: l) (.slice (some ⟨g2, o2, none⟩) (n + 1) c2) V ∧ RdS V V.heap.size 2 (some ⟨g2, o2 + 2, none⟩) n (cellsE s l) ∧ Nw w.heap.size (z :: l) ∧ Below w.heap.size w V
theorem step_of {s : Int} {w V : World} {ms : List (List UInt8)} {n : Nat} {e : Ending} (h : NwPost s w (ms.map fun b => (s, b)) 0 e V) (hm : ms.length = n + 1) (hn : 0 < n) : StepP s w ms n e V := by
  obtain ⟨⟨_, _, _, _, _, hb⟩, hnew⟩ := h
  obtain ⟨v2, its2, rfl, hl2, hm2, hn2⟩ := hnew rfl
  have hm3 : its2.map (·.2.2) = ms := by
    have := congrArg (List.map Prod.snd) hm2
    rw [List.map_map, List.map_map] at this
    rw [show (Prod.snd ∘ fun b : List UInt8 => ((s, b) : Mem)) = id from rfl, List.map_id] at this
    exact this
  obtain ⟨z, l, rfl⟩ : ∃ z l, its2 = z :: l := by
    cases its2 with
    | nil => rw [← hm3] at hm; simp at hm
    | cons z l => exact ⟨z, l, rfl⟩
  have hll : l.length = n := by rw [← hm3] at hm; simpa using hm
  have hown2 := hl2.1
  obtain ⟨A2, c2, rfl, hc2, hr2⟩ := own_read hown2
  obtain ⟨g2, o2, rfl, hg2, _⟩ := hr2.2 (by simp)
  simp only [List.length_cons] at hc2 hr2 hl2 ⊢
  have hcut := RdS.cut hr2 (k := 1) (cap := c2) (by omega) hc2
  have hne : ¬ c2 = 1 := by omega
  rw [if_neg hne] at hcut
  have hcut' : RdS V V.heap.size 2 (some ⟨g2, o2 + 2, none⟩) l.length (cellsE s l) := by
    have := hcut
    rw [show (1 * 2) = 2 from rfl, cellsE_drop] at this
    simpa [Addr.add] using this
  subst hll
  exact ⟨g2, o2, c2, z, l, rfl, hc2, rfl, by rw [← hm3]; simp, hl2, hcut', hn2, hb⟩
theorem rErase_t (s i : Nat) (bs : List UInt8) (A : Option Addr) (c : Nat) (w : World) (hA : RdB w w.heap.size A bs) (hcap : bs.length ≤ c) (hv : validB (s : Int) bs.length = true) (hi : (i + 1) * s ≤ bs.length) (h1 : 1 ≤ s) :
    Calls Tryz.prog 56 #[.agg #[.int .i64 (s : Int), .slice A bs.length c], .int .i64 (i : Int)] w (StepP (s : Int) w (memos eraF bs (i * s) s) s) := by
  obtain ⟨vx1, vx2, vx3, vx4, vx5⟩ := (valid_iff (s : Int) bs.length).1 hv
  have h2 : i + 1 ≤ bs.length / s := (Nat.le_div_iff_mul_le h1).2 hi
  have h3 : (i : Int) < (bs.length : Int) / (s : Int) := by rw [← Int.natCast_ediv]; omega
  have h4 : i ≤ bs.length := by
    have : i * 1 ≤ i * s := Nat.mul_le_mul_left _ h1
    rw [Nat.succ_mul] at hi; omega
  have e1 : eraE ((s : Int), bs) (i : Int) = 0 := by simp [eraE, hv, h3]
  have e2 : eraL ((s : Int), bs) (i : Int) = (memos eraF bs (i * s) s).map fun b => ((s : Int), b) := by
    unfold eraL
    rw [if_pos e1]
    dsimp only
    rw [← Int.natCast_mul, Int.toNat_natCast, Int.toNat_natCast]
  have h := rErase_new ((s : Int), bs) (i : Int) A c w hA hcap (by dsimp only; omega) (by omega) (by omega)
  rw [e1, e2] at h
  exact h.mono fun e V hp => step_of hp (by simp [memos_length]) h1
theorem addB_len {L : List (List UInt8)} {f : Nat → UInt8 → UInt8} {p n N : Nat} (h : ∀ b ∈ L, b.length = N) (hL : L ≠ []) : ∀ b ∈ addB L f p n, b.length = N := by
  intro b hb
  unfold addB at hb
  rcases List.mem_append.1 hb with hb | hb
  · exact h b hb
  · have := List.mem_of_mem_drop hb
    obtain ⟨r, _, hr⟩ := List.mem_map.1 this
    rw [← hr, memo_length]
    rw [List.getLastD_eq_getLast?, List.getLast?_eq_some_getLast hL]
    exact h _ (List.getLast_mem hL)
theorem map_last (L : List Elt) (y : Elt) : ((L ++ [y]).map (·.2.2)).getLastD [] = y.2.2 := by simp
def MoreP (base : Nat) (s : Int) (L : List (List UInt8)) (W : World) (e : Ending) (w' : World) : Prop :=
  ∃ A c its, e = .returned (.slice A its.length c) ∧ its.map (fun x : Elt => x.2.2) = L ∧ Lst s base its (.slice A its.length c) w' ∧ Below base W w'
theorem moreL (base N : Nat) (s : Int) (L : List (List UInt8)) (its : List Elt) (v : Value) (q : Nat) (ds : List UInt8) (n : Nat) (hdn : ds.length = n) (Ad : Option Addr) (cd : Nat) (W : World) (h : Lst s base its v W) (hL : its.map (·.2.2) = L) (hne : its ≠ []) (hlen : ∀ b ∈ L, b.length = N) (hbs : base ≤ W.heap.size) (hv : validB s N = true) (hAd : RdB W W.heap.size Ad ds) (hq : q + n ≤ N) (h0 : 0 < n) (hl : its.length ≤ 100000) :
    Calls Tryz.prog 52 #[v, .int .i64 (q : Int), .slice Ad n cd] W (MoreP base s (addB L (andF ds) q n) W) := by
  obtain ⟨pr, y, rfl⟩ : ∃ pr y, its = pr ++ [y] := ⟨its.dropLast, its.getLast hne, (List.dropLast_concat_getLast hne).symm⟩
  have hy : y.2.2.length = N := hlen _ (by rw [← hL]; simp)
  refine (more_any base s pr y v q ds n hdn Ad cd W h hbs (by rw [hy]; exact hv) hAd (by rw [hy]; exact hq) h0 (by simp at hl; omega)).mono ?_
  rintro e w' ⟨v', l, rfl, hm, hl', hb⟩
  obtain ⟨A, c, rfl, _, _⟩ := own_read hl'.1
  refine ⟨A, c, pr ++ [y] ++ l, rfl, ?_, hl', hb⟩
  unfold addB
  rw [← hL, map_last, List.map_append, hm]
end Go.Proofs.YthebojaminploaaGreatDoor
