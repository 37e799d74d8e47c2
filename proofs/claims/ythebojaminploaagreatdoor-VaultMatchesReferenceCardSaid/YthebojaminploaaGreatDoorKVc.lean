/- vault: Load, Next, Format. -/
import Derived.Test.YthebojaminploaaGreatDoorKVA
import Derived.Test.YthebojaminploaaGreatDoorKVL
import Derived.Test.YthebojaminploaaGreatDoorKJG
import Derived.Test.YthebojaminploaaGreatDoorKLZ
set_option maxRecDepth 100000
set_option linter.unusedVariables false
set_option linter.unusedSimpArgs false
namespace Go.Proofs.YthebojaminploaaGreatDoor
open Go.RowKit Go.Sort Go.Shelf

theorem load_far {m : Mem} (h : vmB m = false) : loadE m = 1 ∧ loadL m = [] := by
  have : loadE m = 1 := by unfold loadE; rw [h]; rfl
  exact ⟨this, by unfold loadL; rw [this]; rfl⟩
theorem load_look {m : Mem} (h : vmB m = true) (h0 : lookE m ≠ 0) : loadE m = lookE m ∧ loadL m = [] := by
  have : loadE m = lookE m := by unfold loadE; rw [if_pos h, if_neg h0]
  exact ⟨this, by unfold loadL; rw [this, if_neg h0]⟩
theorem load_kind {m : Mem} (h : vmB m = true) (h0 : lookE m = 0) (hb : (twB (lookC m).recs && vlB ((lookC m).recs.map unpL)) = false) : loadE m = 9 ∧ loadL m = [] := by
  have : loadE m = 9 := by unfold loadE; rw [if_pos h, if_pos h0, hb]; rfl
  exact ⟨this, by unfold loadL; rw [this]; rfl⟩
theorem load_good {m : Mem} (h : vmB m = true) (h0 : lookE m = 0) (h1 : twB (lookC m).recs = true) (h2 : vlB ((lookC m).recs.map unpL) = true) : loadE m = 0 ∧ loadL m = (lookC m).recs.map unpL := by
  have : loadE m = 0 := by unfold loadE; rw [if_pos h, if_pos h0, h1, h2]; rfl
  exact ⟨this, by unfold loadL; rw [if_pos this]⟩
theorem tw_false {rs : List Rec} {k : Nat} (hk : k < rs.length) (h : rs[k].length ≠ 12) : twB rs = false := by
  refine Bool.eq_false_iff.2 fun hh => h ?_
  have := List.all_eq_true.1 hh rs[k] (List.getElem_mem hk)
  simpa using this
theorem tw_true {rs : List Rec} (h : ∀ j (hj : j < rs.length), rs[j].length = 12) : twB rs = true := by
  rw [twB, List.all_eq_true]
  intro d hd
  obtain ⟨j, hj, rfl⟩ := List.getElem_of_mem hd
  simpa using h j hj
theorem news5s (W : World) (o : Obj) (t : TypeId) (a b c d e : Value) : ∀ j u, [a, b, c, d, e][j]? = some u → ((W.alloc o).alloc (.cells #[a, b, c, d, e] t)).cell? ((⟨W.heap.size + 1, 0, none⟩ : Addr).add j) = some u := by
  intro j u h
  have h1 := Ls.news5 (W.alloc o) t a b c d e j u h
  have hs : (W.alloc o).heap.size = W.heap.size + 1 := by simp
  rw [hs] at h1
  exact h1
theorem map_take_snoc {rs : List Rec} {k : Nat} (h : k < rs.length) : (rs.take (k + 1)).map unpL = (rs.take k).map unpL ++ [unpL rs[k]] := by
  rw [List.take_succ_eq_append_getElem h, List.map_append]; rfl
set_option maxHeartbeats 1000000 in
theorem vLoad_any (m : Mem) (A : Option Addr) (c : Nat) (w : World) (hA : RdB w w.heap.size A m.2) (hc : m.2.length ≤ c) (hW : Wd w) :
    Calls Tryz.prog 7 #[.agg #[.int .i64 m.1, .slice A m.2.length c]] w (Ls.LPost w (loadL m) (loadE m)) := by
  obtain ⟨i0, hi, hz0, hz1, hz2⟩ := info_parts Ls.info_lease
  have HA := Lib.hid hA
  have HW := Lib.hid hW
  clear hA hW
  by_cases hs : m.1 = 512
  · by_cases hn : m.2.length = 2048
    · by_cases h0 : lookE m = 0
      · have hvm : vmB m = true := decide_eq_true ⟨hs, hn⟩
        have q1 : (m.1 != 512) = false := by simpa using hs
        have q2 : ((m.2.length : Int) != 2048) = false := by rw [hn]; rfl
        clear hs hn
        have hsm := recs_small h0
        obtain ⟨hs1, hs2⟩ := hsm
        have q3 : (lookE m != 0) = false := by simp [h0]
        have HVM := Lib.hid hvm
        have H0 := Lib.hid h0
        clear hvm h0 hs2
        go_enter Tryz.func7, Tryz.ntmps7
        go_wp2_with fail
        have hb1 := al1 w (.cells #[.int .i64 m.1, .slice A m.2.length c] 24)
        refine (Read_any m A c _ (HA.out.next hb1) hc).mono ?_
        rintro e V1 ⟨Ar, cr, rfl, hcr, hr, hbV⟩
        have HR := Lib.hid hr
        have HB := Lib.hid (bt hbV hb1)
        clear hr hbV hb1
        have HBV := HB
        go_wp2
        go_loopw [6, 30] (fun v i wr => ∃ k : Nat, i = .int .i64 (k : Int) ∧ k ≤ (lookC m).recs.length ∧ (∀ j (hj : j < (lookC m).recs.length), j < k → (lookC m).recs[j].length = 12) ∧ wr.ownsRow V1.heap.size 26 5 v (((lookC m).recs.take k).map unpL).length (lsc (((lookC m).recs.take k).map unpL)) ∧ Below V1.heap.size V1 wr) (fun _ i _ => (lookC m).recs.length - (intOf i).toNat)
        case atStart => exact ⟨0, rfl, Nat.zero_le _, fun j _ h => absurd h (by omega), World.ownsRow_nil _ _ _ _, Below.refl _ _⟩
        case round =>
          obtain ⟨k, rfl, hk, htw, hown, hb⟩ := hrel
          have HO := Lib.hid hown
          have HB := Lib.hid hb
          have HT := Lib.hid htw
          have hbase := hb.size
          have hbase2 := HBV.out.size
          clear hown hb htw
          have HBR := HB
          clear HB
          have HB : Hid (Below w.heap.size w wr) := bt HBR.out HBV.out
          by_cases hlt : k < (lookC m).recs.length
          · obtain ⟨b, o, A', c', rfl, hbb, hcell, hcc, hrd⟩ := (HR.out.next HBR.out).at_ hlt
            obtain ⟨d, hd⟩ : ∃ d, d = (lookC m).recs[k] := ⟨_, rfl⟩
            rw [← hd] at hcell hcc hrd
            have HD := Lib.hid hd
            have HRD := Lib.hid hrd
            clear hd hrd
            have k1 : (0 : Int) ≤ (k : Int) := by omega
            have k2 : (k : Int) < ((lookC m).recs.length : Int) := by omega
            by_cases h12 : d.length = 12
            · have H12 := Lib.hid h12
              clear h12
              go_wp2_with fail
              refine (vunpack_yes d A' c' _ H12.out HRD.out (HW.out.next HB.out)).mono ?_
              rintro e V2 ⟨rfl, hb2⟩
              have HO2 := Lib.hid (Ls.own_next HO.out hb2)
              have HB12 := Lib.hid hb2
              have hsz2 := hb2.size
              clear hb2 hcell
              obtain ⟨x, hx⟩ : ∃ x, x = unpL d := ⟨_, rfl⟩
              rw [← hx]
              have HX := Lib.hid hx
              clear hx
              obtain ⟨ys, hys⟩ : ∃ ys, ys = ((lookC m).recs.take k).map unpL := ⟨_, rfl⟩
              have hyl : ys.length ≤ 4096 := by rw [hys, List.length_map, List.length_take]; omega
              rw [← hys] at HO2
              have HYS := Lib.hid hys
              clear hys
              go_wp2_with (at_builtin; refine wpList_append_own _ rfl _ _ 32 rfl V1.heap.size 26 i0 (.agg #[.int .i64 0, .int .i64 0, .int .i64 0, .int .i64 0, .int .i64 0]) 5 40 Tryz.underlying32 hi hz0 hz1 hz2 rfl (by decide) _ ys.length (lsc ys) rfl ((HO2.out.alloc _).alloc _) ⟨V2.heap.size + 1, 0, none⟩ 1 1 [.int .i64 x.n, .int .i64 x.c, .int .i64 x.a, .int .i64 x.f, .int .i64 x.t] rfl rfl (news5s _ _ _ _ _ _ _ _) (by simp [Value.oneCell']) (by simp only [maxLen]; omega) (by omega) (by simp; omega) ?_; intro v' w1 hown' hgrow _; have HRR : Hid (w1.ownsRow V1.heap.size 26 5 v' (((lookC m).recs.take (k + 1)).map unpL).length (lsc (((lookC m).recs.take (k + 1)).map unpL))) := (by show w1.ownsRow _ _ _ _ _ _; rw [map_take_snoc hlt, ← HD.out, ← HX.out, ← HYS.out, lsc_snoc, List.length_append]; exact hown'); have HGG : Hid (Below V1.heap.size V1 w1) := (bt (al1 V2 _) (bt HB12.out HBR.out)).trans (Ls.own_below HO2.out (al1 _ _) hgrow (by omega)); clear hown' hgrow)
              go_roundw
              case rel => exact ⟨k + 1, by go_num, by omega, fun j hj hjk => by rcases Nat.lt_or_ge j k with h | h; exact HT.out j hj h; (obtain rfl : j = k := by omega); rw [← HD.out]; exact H12.out, HRR.out, HGG.out⟩
              case measure => simp [intOf]; omega
            · have hno := tw_false hlt (by rw [← HD.out]; exact h12)
              obtain ⟨e1, e2⟩ := load_kind HVM.out H0.out (by rw [hno]; rfl)
              have E1 := Lib.hid e1
              have E2 := Lib.hid e2
              clear hno e1 e2
              have H12 := Lib.hid h12
              clear h12
              go_wp2_with fail
              refine (vunpack_no d A' c' _ H12.out).mono ?_
              rintro e V2 ⟨rfl, hb2⟩
              have HB2 := Lib.hid (bt hb2 HB.out)
              clear hb2
              go_wp2
              go_ret2
              exact ⟨none, 0, by rw [E1.out, E2.out]; rfl, by rw [E2.out]; exact Nat.le_refl _, by rw [E2.out]; exact RdL.nil, bt (al1 _ _) HB2.out⟩
          · obtain rfl : k = (lookC m).recs.length := by omega
            have hown := HO.out
            rw [List.take_of_length_le (Nat.le_refl _)] at hown
            have htw := tw_true (fun j hj => HT.out j hj hj)
            obtain ⟨Ao, co, rfl, hco, hro⟩ := own_read hown
            have HRO : Hid (RdL wr wr.heap.size Ao ((lookC m).recs.map unpL)) := hro
            have hyl : ((lookC m).recs.map unpL).length ≤ 4096 := by rw [List.length_map]; omega
            have HC := Lib.hid hco
            obtain ⟨ys, hys⟩ : ∃ ys, ys = (lookC m).recs.map unpL := ⟨_, rfl⟩
            rw [← hys] at HRO HC hyl ⊢
            have HYS := Lib.hid hys
            have HTW := Lib.hid htw
            clear hown hro hco hys htw
            by_cases hv : vlB ys = true
            · obtain ⟨e1, e2⟩ := load_good HVM.out H0.out HTW.out (HYS.out ▸ hv)
              rw [← HYS.out] at e2
              have E1 := Lib.hid e1
              have E2 := Lib.hid e2
              have HV := Lib.hid hv
              clear e1 e2 hv
              go_wp2_with fail
              refine (Ls.Valid_lit true ys Ao co _ HV.out HRO.out (by omega)).mono ?_
              rintro e V2 ⟨rfl, hb2⟩
              have HB2 := Lib.hid (bt hb2 HB.out)
              have HR2 := Lib.hid (HRO.out.next hb2)
              clear hb2
              go_wp2
              go_ret2
              exact ⟨Ao, co, by rw [E1.out, E2.out]; rfl, by rw [E2.out]; exact HC.out, by rw [E2.out]; exact HR2.out, HB2.out⟩
            · have hv : vlB ys = false := by simpa using hv
              obtain ⟨e1, e2⟩ := load_kind HVM.out H0.out (by rw [HTW.out, ← HYS.out, hv]; rfl)
              have E1 := Lib.hid e1
              have E2 := Lib.hid e2
              have HV := Lib.hid hv
              clear e1 e2 hv
              go_wp2_with fail
              refine (Ls.Valid_lit false ys Ao co _ HV.out HRO.out (by omega)).mono ?_
              rintro e V2 ⟨rfl, hb2⟩
              have HB2 := Lib.hid (bt hb2 HB.out)
              clear hb2
              go_wp2
              go_ret2
              exact ⟨none, 0, by rw [E1.out, E2.out]; rfl, by rw [E2.out]; exact Nat.le_refl _, by rw [E2.out]; exact RdL.nil, HB2.out⟩
      · have hvm : vmB m = true := decide_eq_true ⟨hs, hn⟩
        have q1 : (m.1 != 512) = false := by simpa using hs
        have q2 : ((m.2.length : Int) != 2048) = false := by rw [hn]; rfl
        clear hs hn
        obtain ⟨e1, e2⟩ := load_look hvm h0
        rw [e1, e2]
        have q3 : (lookE m != 0) = true := by simpa using h0
        clear e1 e2 h0
        go_enter Tryz.func7, Tryz.ntmps7
        go_wp2_with fail
        have hb1 := al1 w (.cells #[.int .i64 m.1, .slice A m.2.length c] 24)
        refine (Read_any m A c _ (HA.out.next hb1) hc).mono ?_
        rintro e V1 ⟨Ar, cr, rfl, hcr, hr, hbV⟩
        have HR := Lib.hid hr
        have HB := Lib.hid (bt hbV hb1)
        clear hr hbV hb1
        go_wp2
        go_ret2
        exact ⟨none, 0, rfl, Nat.le_refl _, RdL.nil, HB.out⟩
    · obtain ⟨e1, e2⟩ := load_far (m := m) (by rw [vmB, decide_eq_false_iff_not]; exact fun h => hn h.2)
      rw [e1, e2]
      have q1 : (m.1 != 512) = false := by simpa using hs
      have q2 : ((m.2.length : Int) != 2048) = true := by rw [bne_iff_ne]; omega
      clear e1 e2 hs hn
      go_enter Tryz.func7, Tryz.ntmps7
      go_wp2
      go_ret2
      exact ⟨none, 0, rfl, Nat.le_refl _, RdL.nil, al1 _ _⟩
  · obtain ⟨e1, e2⟩ := load_far (m := m) (by rw [vmB, decide_eq_false_iff_not]; exact fun h => hs h.1)
    rw [e1, e2]
    have q1 : (m.1 != 512) = true := by simpa using hs
    clear e1 e2 hs
    go_enter Tryz.func7, Tryz.ntmps7
    go_wp2
    go_ret2
    exact ⟨none, 0, rfl, Nat.le_refl _, RdL.nil, al1 _ _⟩
end Go.Proofs.YthebojaminploaaGreatDoor
