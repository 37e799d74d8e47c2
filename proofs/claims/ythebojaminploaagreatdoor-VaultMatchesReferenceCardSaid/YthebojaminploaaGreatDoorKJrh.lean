/- The reference's Append. -/
import Derived.Test.YthebojaminploaaGreatDoorKJrg
import Derived.Test.YthebojaminploaaGreatDoorKJl
set_option maxRecDepth 100000
set_option linter.unusedVariables false
set_option linter.unusedSimpArgs false
namespace Go.Proofs.YthebojaminploaaGreatDoor
open Go.RowKit Go.Sort Go.Shelf

/-- the row that a list of strings of bytes is read from -/
theorem RdBs.its {W : World} {B : Nat} {A : Option Addr} {x : List Rec} (h : RdBs W B A x) : ∃ its : List Itm, its.map (·.2.2) = x ∧ RdS W B 1 A x.length (its.map cellB) ∧ ∀ y ∈ its, RdB W B y.1 y.2.2 ∧ y.2.2.length ≤ y.2.1 := by
  by_cases hn : 0 < x.length
  · obtain ⟨b, o, e, hb, hc⟩ := h hn
    have hp : ∀ i : Fin x.length, ∃ p : Option Addr × Nat, W.cell? ⟨b, o + i.1, none⟩ = some (.slice p.1 x[i.1].length p.2) ∧ x[i.1].length ≤ p.2 ∧ RdB W B p.1 x[i.1] := fun i => by
      obtain ⟨A', c', h1, h2, h3⟩ := hc i.1 x[i.1] (List.getElem?_eq_getElem i.2)
      exact ⟨(A', c'), h1, h2, h3⟩
    obtain ⟨f, hf⟩ := Classical.axiomOfChoice hp
    refine ⟨List.ofFn fun i => ((f i).1, (f i).2, x[i.1]), ?_, ⟨by simp, fun _ => ⟨b, o, e, hb, fun j u hu => ?_⟩⟩, fun y hy => ?_⟩
    · apply List.ext_getElem
      · simp
      · intro i h1 h2; simp
    · rw [List.getElem?_map, Option.map_eq_some_iff] at hu
      obtain ⟨y, hy, rfl⟩ := hu
      obtain ⟨hj, hy'⟩ := List.getElem?_eq_some_iff.1 hy
      rw [List.getElem_ofFn] at hy'
      subst hy'
      rw [List.length_ofFn] at hj
      exact (hf ⟨j, hj⟩).1
    · obtain ⟨i, hi, rfl⟩ := List.mem_iff_getElem.1 hy
      rw [List.getElem_ofFn]
      exact ⟨(hf _).2.2, (hf _).2.1⟩
  · obtain rfl : x = [] := List.length_eq_zero_iff.1 (by omega)
    exact ⟨[], rfl, RdS.nil, by simp⟩
theorem cellB_one (its : List Itm) : ∀ u ∈ its.map cellB, u.oneCell' = true := by
  intro u hu
  obtain ⟨x, _, rfl⟩ := List.mem_map.1 hu
  rfl
theorem rd_all {W : World} {B : Nat} {its : List Itm} {A Ad : Option Addr} {d : Rec} {cd : Nat} (hi : ∀ y ∈ its, RdB W B y.1 y.2.2 ∧ y.2.2.length ≤ y.2.1) (hd : RdB W B Ad d) (hcd : d.length ≤ cd) (hr : RdS W B 1 A (its.length + 1) (its.map cellB ++ [.slice Ad d.length cd])) : RdBs W B A (its.map (·.2.2) ++ [d]) := fun hn => by
  obtain ⟨b, o, e, hb, hcell⟩ := hr.2 (by omega)
  refine ⟨b, o, e, hb, fun i d' hd' => ?_⟩
  by_cases hil : i < its.length
  · rw [List.getElem?_append_left (by simpa using hil), List.getElem?_map, Option.map_eq_some_iff] at hd'
    obtain ⟨x, hx, rfl⟩ := hd'
    obtain ⟨h1, h2⟩ := hi x (List.mem_of_getElem? hx)
    exact ⟨x.1, x.2.1, hcell i _ (by rw [List.getElem?_append_left (by simpa using hil)]; simp [hx, cellB]), h2, h1⟩
  · rw [List.getElem?_append_right (by simpa using hil)] at hd'
    simp only [List.length_map] at hd'
    have hi0 : i = its.length := by
      by_cases h0 : i - its.length = 0
      · omega
      · rw [List.getElem?_eq_none (by simp; omega)] at hd'; cases hd'
    subst hi0
    obtain rfl : d = d' := by simpa using hd'
    exact ⟨Ad, cd, hcell its.length _ (by simp), hcd, hd⟩
theorem Clean_s (m : Mem) (s : Int) (hs : m.1 = s) (a : Nat) (l : List Rec) (e : Nat) (r : Bool) (hr : restB (areaB m a) e = r) (b o c : Nat) (w : World) (hj : jvB m.1 m.2.length = true) (hcO : curO m = some a) (hsc : scanA (areaB m a) = some (l, e)) (hc : m.2.length ≤ c) (hA : RdB w w.heap.size (some ⟨b, o, none⟩) m.2) :
    Calls Tryz.prog 47 #[.agg #[.int .i64 s, .slice (some ⟨b, o, none⟩) m.2.length c]] w fun e' w' => e' = .returned (.bool r) ∧ Below w.heap.size w w' := hs ▸ hr ▸ Clean_any m a l e b o c w hj hcO hsc hc hA
theorem rRewrite_s (m : Mem) (s : Int) (hs : m.1 = s) (keep : List Rec) (n : Nat) (hn : keep.length = n) (A Ak : Option Addr) (c ck : Nat) (w : World) (hA : RdB w w.heap.size A m.2) (hc : m.2.length ≤ c) (hK : RdBs w w.heap.size Ak keep) (hk2 : room keep ≤ 900000) :
    Calls Tryz.prog 26 #[.agg #[.int .i64 s, .slice A m.2.length c], .slice Ak n ck] w (ListPost w (rewM m keep) (rewE m keep)) := hs ▸ hn ▸ rRewrite_any m keep A Ak c ck w hA hc hK hk2
theorem Room_rn (x : List Rec) (n : Nat) (hn : x.length = n) (rm : Nat) (hr : 5 + room x = rm) (hb : rm ≤ 1000000) (A1 : Option Addr) (c1 : Nat) (w : World) (h1 : RdBs w w.heap.size A1 x) (m1 : x.length ≤ 1000000) :
    Calls Tryz.prog 48 #[.slice A1 n c1] w fun e w' => e = .returned (.int .i64 (rm : Int)) ∧ Below w.heap.size w w' := hn ▸ Room_r x rm hr hb A1 c1 w h1 m1
theorem appM_no {m : Mem} {d : Rec} (h : appE m d ≠ 0) : appM m d = [] := by unfold appM appL; rw [if_neg h]; rfl
set_option maxHeartbeats 4000000 in
theorem rAppend_any (m : Mem) (d : Rec) (A Ad : Option Addr) (c cd : Nat) (w : World) (hA : RdB w w.heap.size A m.2) (hc : m.2.length ≤ c) (hD : RdB w w.heap.size Ad d) (hcd : d.length ≤ cd) (hdl : d.length ≤ 60000) :
    Calls Tryz.prog 23 #[.agg #[.int .i64 m.1, .slice A m.2.length c], .slice Ad d.length cd] w (ListPost w (appM m d) (appE m d)) := by
  obtain ⟨i1, hj, hw0, hw1, hw2⟩ := info_parts info_bs
  have HA := Lib.hid hA
  have HDD := Lib.hid hD
  clear hA hD
  by_cases h0 : lookE m = 0
  · obtain ⟨a, l, fi, hv, hq, hsc, hC⟩ := lookE_ok h0
    have h32 := jv_len hv
    have h4k := jv_max hv
    obtain ⟨b, o, rfl, hbb9, _⟩ := HA.out.addr (by omega)
    have hv2 : validB m.1 m.2.length = true := by unfold jvB at hv; simp only [Bool.and_eq_true] at hv; exact hv.1.1
    obtain ⟨vx1, vx2, vx3, vx4, vx5⟩ := (valid_iff _ _).1 hv2
    obtain ⟨s, hs⟩ := Int.eq_ofNat_of_zero_le (by omega : 0 ≤ m.1)
    have ha := curO_le hq
    obtain ⟨n2, hn2⟩ : ∃ n2, m.2.length / 2 = n2 := ⟨_, rfl⟩
    have hn2b : n2 ≤ 2048 := by omega
    have hn2c : 16 ≤ n2 := by omega
    have hn2d : m.2.length = 2 * n2 := by have := jv_even hv; omega
    have hle1 : 2 * n2 ≤ m.2.length := by omega
    have hle2 : m.2.length ≤ 2 * n2 := by omega
    have hhf : hf m = n2 := hn2
    have hfin := scanA_facts hsc (by rw [areaB_length m ha, hhf]; omega)
    rw [areaB_length m ha, hhf] at hfin
    obtain ⟨_, hfi, _, _, hfn⟩ := hfin
    have hrl := (room_ge l).1
    obtain ⟨cl, hcl⟩ : ∃ cl, restB (areaB m a) fi = cl := ⟨_, rfl⟩
    have HV2 := Lib.hid hv2
    have HV := Lib.hid hv
    have HSS := Lib.hid hs
    have HN2 := Lib.hid hn2
    have HC : Hid ((lookC m).area = a ∧ (lookC m).recs = l ∧ (lookC m).fin = fi ∧ (lookC m).clean = cl) := by rw [hC]; exact ⟨rfl, rfl, rfl, hcl⟩
    have HHF := Lib.hid hhf
    have HFI := Lib.hid hfi
    have hll : l.length ≤ 2048 := by omega
    rw [hs] at vx1 vx2 vx3 ⊢
    have HAR : Hid (∀ W, RdB W W.heap.size (some ⟨b, o, none⟩) m.2 → Calls Tryz.prog 50 #[.agg #[.int .i64 (s : Int), .slice (some ⟨b, o, none⟩) m.2.length c]] W fun e w' => e = .returned (.int .i64 (a : Int)) ∧ Below W.heap.size W w') := fun W hW => Area_s m (s : Int) hs a hq b o c W h32 h4k hc hW
    have HCR : Hid (∀ W, RdB W W.heap.size (some ⟨b, o, none⟩) m.2 → Calls Tryz.prog 47 #[.agg #[.int .i64 (s : Int), .slice (some ⟨b, o, none⟩) m.2.length c]] W fun e w' => e = .returned (.bool cl) ∧ Below W.heap.size W w') := fun W hW => Clean_s m (s : Int) hs a l fi cl hcl b o c W hv hq hsc hc hW
    have HHR : Hid (∀ W, Calls Tryz.prog 49 #[.agg #[.int .i64 (s : Int), .slice (some ⟨b, o, none⟩) m.2.length c]] W fun e w' => e = .returned (.int .i64 (n2 : Int)) ∧ Below W.heap.size W w') := fun W => Half_lit n2 (s : Int) _ m.2.length c W (by omega) hn2
    obtain ⟨rm, hrm⟩ : ∃ rm, rm = fi + 7 + d.length := ⟨_, rfl⟩
    have HRM := Lib.hid hrm
    have hrb : rm ≤ 100000 := by omega
    have hroom : 5 + room (l ++ [d]) = rm := by rw [room_append]; simp [room]; omega
    have HRO := Lib.hid hroom
    have HRL : Hid (∀ W A1 c1, RdBs W W.heap.size A1 l → Calls Tryz.prog 48 #[.slice A1 l.length c1] W fun e w' => e = .returned (.int .i64 (fi : Int)) ∧ Below W.heap.size W w') := fun W A1 c1 hW => Room_r l fi hfi.symm (by omega) A1 c1 W hW (by omega)
    have HRA : Hid (∀ W A1 c1, RdBs W W.heap.size A1 (l ++ [d]) → Calls Tryz.prog 48 #[.slice A1 (l.length + 1) c1] W fun e w' => e = .returned (.int .i64 (rm : Int)) ∧ Below W.heap.size W w') := fun W A1 c1 hW => Room_rn (l ++ [d]) (l.length + 1) (by simp) rm hroom (by omega) A1 c1 W hW (by simp; omega)
    clear hs hv hv2 hq hsc hC vx5 hn2 hn2d hfi hcl hhf hrm hroom
    go_enter Tryz.func23, Tryz.ntmps23
    go_wp2_with fail
    obtain ⟨U, hU⟩ : ∃ Zz, Zz = w.alloc (.cells #[.int .i64 (s : Int), .slice (some ⟨b, o, none⟩) m.2.length c] 24) := ⟨_, rfl⟩
    have hb1 : Below w.heap.size w U := by rw [hU]; exact al1 _ _
    have k2 : Bk U w.heap.size 24 #[.int .i64 (s : Int), .slice (some ⟨b, o, none⟩) m.2.length c] := by rw [hU]; exact Bk.new _ _ _
    rw [← hU]
    clear hU
    obtain ⟨c0, c1⟩ := box2 k2
    refine (Read_s m (s : Int) HSS.out _ c _ (HA.out.next hb1) hc).mono ?_
    rintro e V0 ⟨Ar, cr, rfl, hcr, hrs, hbV⟩
    have K2 := Lib.hid (k2.next hbV)
    have HB := Lib.hid (bt hbV hb1)
    clear hbV hb1 k2 c0 c1
    rw [h0]
    rw [HC.out.2.1] at hcr hrs ⊢
    have e0 : ((0 : Int) != 0) = false := rfl
    obtain ⟨c0, c1⟩ := box2 K2.out
    have lk := K2.out.lt
    obtain ⟨its, him, hir, hio⟩ := RdBs.its hrs
    have hil : its.length = l.length := by rw [← him]; simp
    have HIM := Lib.hid him
    have HIL := Lib.hid hil
    have HIR := Lib.hid hir
    have HIO := Lib.hid hio
    have HRS := Lib.hid hrs
    clear him hir hio hrs hil
    go_upto_region 5 with (first | (at_builtin; refine wpList_append_rd _ rfl (.tmp 21) (.tmp 22) _ rfl V0.heap.size 22 i1 _ 1 24 Tryz.underlying47 hj hw0 hw1 hw2 rfl (by omega) (.slice (some ⟨V0.heap.size, 0, none⟩) 0 0) 0 [] rfl (own_nil0 (by simp [at?_alloc]) (Nat.le_refl _)) V0.heap.size Ar l.length cr (its.map cellB) rfl (RdS.below HIR.out (al1 _ _)) (cellB_one its) (by simp only [maxLen]; omega) (by omega) (by simp) ?_; intro v1 w1 hown1 hg1 hat1; have HB1 : Hid (Below V0.heap.size V0 w1) := Lib.hid (appNx (al1 _ _) (by simp) (own_nil0 (e := 22) (sz := 1) (base := V0.heap.size) (by simp [at?_alloc]) (Nat.le_refl _)) hg1); have HO1 : Hid (w1.ownsRow V0.heap.size 22 1 v1 l.length (its.map cellB)) := Lib.hid (by simpa using hown1); have lw1 := HB1.out.size; clear hown1 hg1 hat1) | (at_builtin; refine wpList_append_rd _ rfl (.tmp 23) (.tmp 25) _ rfl V0.heap.size 22 i1 _ 1 24 Tryz.underlying47 hj hw0 hw1 hw2 rfl (by omega) v1 l.length (its.map cellB) rfl (HO1.out.alloc _) (w1.heap.size + 1) (some ⟨w1.heap.size, 0, none⟩) 1 1 [.slice Ad d.length cd] rfl (rd_cells (t := 22) (cs := #[.slice Ad d.length cd]) (Bk.new _ _ _) (by omega)) (by simp [Value.oneCell']) (by simp only [maxLen]; omega) (by omega) (by simp; omega) ?_; intro v2 w2 hown2 hg2 hat2; obtain ⟨A2, c2, rfl, hc2, hr2⟩ := own_read hown2))
    have HB2 : Hid (Below V0.heap.size V0 w2) := appNx (HB1.out.alloc lw1 _) (by simp; omega) (HO1.out.alloc _) hg2
    replace K2 := Lib.hid (K2.out.next HB2.out)
    have HALL : Hid (RdBs w2 w2.heap.size A2 (l ++ [d])) := by
      rw [← HIM.out]
      refine rd_all (fun y hy => ?_) ((HDD.out.next HB.out).next HB2.out) hcd (by rw [HIL.out]; exact hr2)
      obtain ⟨h1, h2⟩ := HIO.out y hy
      exact ⟨h1.next HB2.out, h2⟩
    replace HRS := Lib.hid (HRS.out.next HB2.out)
    replace HB := Lib.hid (bt HB2.out HB.out)
    clear hown2 hg2 hat2 hr2 c0 c1 lw1 HB1 HO1 HB2 lk
    obtain ⟨c0, c1⟩ := box2 K2.out
    go_wp2_with fail
    refine (HCR.out _ (HA.out.next HB.out)).mono ?_
    rintro e V1 ⟨rfl, hb1⟩
    replace K2 := Lib.hid (K2.out.next hb1)
    replace HALL := Lib.hid (HALL.out.next hb1)
    replace HRS := Lib.hid (HRS.out.next hb1)
    replace HB := Lib.hid (bt hb1 HB.out)
    clear hb1 c0 c1
    obtain ⟨c0, c1⟩ := box2 K2.out
    cases cl with
    | false =>
      have HZ : Hid (appE m d = rewE m (l ++ [d]) ∧ appM m d = rewM m (l ++ [d])) := by
        obtain ⟨h1, h2, h3, h4⟩ := HC.out
        have hfit : (d.length ≤ 65535 ∧ (lookC m).fin + 7 + d.length ≤ hf m) ∨ ¬ room (l ++ [d]) + 5 ≤ hf m := by
          rw [h3]
          have := HRO.out; have := HRM.out; have := HHF.out
          omega
        have hE : appE m d = rewE m (l ++ [d]) := by
          unfold appE
          rw [if_pos h0]
          rcases hfit with h5 | h5
          · rw [if_pos h5, h4, if_neg (by simp), h2]
          · have h6 : ¬ (d.length ≤ 65535 ∧ (lookC m).fin + 7 + d.length ≤ hf m) := by
              rw [h3]
              have := HRO.out; have := HRM.out; have := HHF.out
              omega
            rw [if_neg h6]
            unfold rewE
            rw [if_pos h0, if_neg (fun h => h5 h.1)]
        refine ⟨hE, ?_⟩
        unfold appM rewM appL rewL
        rw [hE, h4, h2]
        split
        · rw [if_neg (by simp)]
        · rfl
      have HRW := Lib.hid (rRewrite_s m (s : Int) HSS.out (l ++ [d]) (l.length + 1) (by simp) _ A2 c c2 V1 (HA.out.next HB.out) hc HALL.out (by have := HRO.out; omega))
      obtain ⟨ML, hML⟩ : ∃ ML, ML = rewM m (l ++ [d]) := ⟨_, rfl⟩
      obtain ⟨ME, hME⟩ : ∃ ME, ME = rewE m (l ++ [d]) := ⟨_, rfl⟩
      rw [← hML, ← hME] at HRW HZ
      clear hML hME
      go_wp2_with fail
      refine HRW.out.mono ?_
      rintro e V2 ⟨A4, c4, rfl, hc4, hr4, hb4⟩
      have H4 := Lib.hid (⟨hr4, bt hb4 HB.out⟩ : _ ∧ _)
      obtain ⟨nn, hnn⟩ : ∃ nn, ML.length = nn := ⟨_, rfl⟩
      rw [hnn] at hc4 ⊢
      have HNN := Lib.hid hnn
      clear hr4 hb4 hnn c0 c1
      go_wp2
      go_ret2
      exact ⟨A4, c4, by rw [HZ.out.1, HZ.out.2, HNN.out]; rfl, by rw [HZ.out.2, HNN.out]; exact hc4, by rw [HZ.out.2]; exact H4.out.1, H4.out.2⟩
    | true =>
      have r0 : ¬ (65535 : Int) < (d.length : Int) := by omega
      by_cases hg0 : n2 < rm
      · have r1 : (n2 : Int) < (rm : Int) := by omega
        have HZ : Hid (appE m d = 10 ∧ appM m d = []) := by
          have h1 : appE m d = 10 := by
            unfold appE
            rw [if_pos h0, if_neg (fun h => by have h2 := h.2; rw [HC.out.2.2.1, HHF.out] at h2; have := HRM.out; omega)]
          exact ⟨h1, appM_no (by rw [h1]; decide)⟩
        go_wp2_with fail
        have Rc0 := cell_regrown c0
        have Rc1 := cell_regrown c1
        have CR := fun (d : Nat) (os : Array Obj) => Calls.regrown_of (HRA.out (grow (redrawn V1 d) os) A2 c2 (HALL.out.next (below_regrown V1 d os)))
        have CH := fun (d : Nat) (os : Array Obj) => Calls.regrown_of (HHR.out (grow (redrawn V1 d) os))
        refine wp_region_quiet_below (by kernel_rfl) (by kernel_rfl) ?_
        repeat (first | go_big_quiet_step (first | (with_reducible exact CR _ _) | (with_reducible exact CH _ _)) | quiet_step (first | (with_reducible exact CR _ _) | (with_reducible exact CH _ _)))
        refine wpQuiet_nil ?_
        intro _ hw'
        obtain ⟨⟨dq, osq⟩, hw''⟩ := hw'
        subst hw''
        obtain ⟨V2, hV2⟩ : ∃ V, V = grow (redrawn V1 dq) osq := ⟨_, rfl⟩
        have hbV2 : Below V1.heap.size V1 V2 := by rw [hV2]; exact below_regrown _ _ _
        rw [← hV2]
        clear hV2
        clear Rc0
        clear Rc1
        clear CR
        clear CH
        replace K2 := Lib.hid (K2.out.next hbV2)
        replace HRS := Lib.hid (HRS.out.next hbV2)
        replace HB := Lib.hid (bt hbV2 HB.out)
        clear hbV2 c0 c1 HALL
        obtain ⟨c0, c1⟩ := box2 K2.out
        go_wp2
        go_ret2
        exact ⟨none, 0, by rw [HZ.out.1, HZ.out.2]; rfl, by rw [HZ.out.2]; exact Nat.le_refl _, by rw [HZ.out.2]; exact RdFs.nil, HB.out⟩
      · have r1 : ¬ (n2 : Int) < (rm : Int) := by omega
        have HZ : Hid (appE m d = 0 ∧ appM m d = (appB m d).map fun b => (m.1, b)) := by
          have h1 : appE m d = 0 := by
            unfold appE
            rw [if_pos h0, if_pos ⟨by omega, by rw [HC.out.2.2.1, HHF.out]; have := HRM.out; omega⟩, if_pos HC.out.2.2.2]
          exact ⟨h1, by unfold appM appL; rw [if_pos h1, if_pos HC.out.2.2.2]⟩
        obtain ⟨h0n, hh0⟩ : ∃ h0n, h0n = a * n2 := ⟨_, rfl⟩
        have hh1 : h0n + n2 ≤ 2 * n2 := by
          rw [hh0]
          have : a * n2 ≤ 1 * n2 := Nat.mul_le_mul_right _ ha
          omega
        obtain ⟨pl, hpl⟩ : ∃ pl, pl = h0n + fi := ⟨_, rfl⟩
        have e3 : (a : Int) * (n2 : Int) = (h0n : Int) := by rw [hh0]; simp
        have e4 : (h0n : Int) + (fi : Int) = (pl : Int) := by omega
        have w3 : IntKind.i64.wrap (h0n : Int) = (h0n : Int) := IntWalk.i64_in _ (by omega)
        have w4 : IntKind.i64.wrap (pl : Int) = (pl : Int) := IntWalk.i64_in _ (by omega)
        have hplb : pl + 7 + d.length ≤ m.2.length := by have := HRM.out; omega
        have HH0 := Lib.hid hh0
        have HPL := Lib.hid hpl
        clear hh0 hpl
        go_wp2_with fail
        have Rc0 := cell_regrown c0
        have Rc1 := cell_regrown c1
        have CR := fun (d : Nat) (os : Array Obj) => Calls.regrown_of (HRA.out (grow (redrawn V1 d) os) A2 c2 (HALL.out.next (below_regrown V1 d os)))
        have CH := fun (d : Nat) (os : Array Obj) => Calls.regrown_of (HHR.out (grow (redrawn V1 d) os))
        refine wp_region_quiet_below (by kernel_rfl) (by kernel_rfl) ?_
        repeat (first | go_big_quiet_step (first | (with_reducible exact CR _ _) | (with_reducible exact CH _ _)) | quiet_step (first | (with_reducible exact CR _ _) | (with_reducible exact CH _ _)))
        refine wpQuiet_nil ?_
        intro _ hw'
        obtain ⟨⟨dq, osq⟩, hw''⟩ := hw'
        subst hw''
        obtain ⟨V2, hV2⟩ : ∃ V, V = grow (redrawn V1 dq) osq := ⟨_, rfl⟩
        have hbV2 : Below V1.heap.size V1 V2 := by rw [hV2]; exact below_regrown _ _ _
        rw [← hV2]
        clear hV2
        clear Rc0
        clear Rc1
        clear CR
        clear CH
        replace K2 := Lib.hid (K2.out.next hbV2)
        replace HRS := Lib.hid (HRS.out.next hbV2)
        replace HB := Lib.hid (bt hbV2 HB.out)
        clear hbV2 c0 c1 HALL
        obtain ⟨c0, c1⟩ := box2 K2.out
        go_wp2_with fail
        have Rc0 := cell_regrown c0
        have Rc1 := cell_regrown c1
        have CA := fun (d : Nat) (os : Array Obj) => Calls.regrown_of (HAR.out (grow (redrawn V2 d) os) ((HA.out.next HB.out).next (below_regrown V2 d os)))
        have CH := fun (d : Nat) (os : Array Obj) => Calls.regrown_of (HHR.out (grow (redrawn V2 d) os))
        have CR := fun (d : Nat) (os : Array Obj) => Calls.regrown_of (HRL.out (grow (redrawn V2 d) os) Ar cr (HRS.out.next (below_regrown V2 d os)))
        refine wp_region_quiet_below (by kernel_rfl) (by kernel_rfl) ?_
        repeat (first | go_big_quiet_step (first | (with_reducible exact CA _ _) | (with_reducible exact CH _ _) | (with_reducible exact CR _ _)) | quiet_step (first | (with_reducible exact CA _ _) | (with_reducible exact CH _ _) | (with_reducible exact CR _ _)))
        refine wpQuiet_nil ?_
        intro _ hw'
        obtain ⟨⟨dq, osq⟩, hw''⟩ := hw'
        subst hw''
        obtain ⟨V3, hV3⟩ : ∃ V, V = grow (redrawn V2 dq) osq := ⟨_, rfl⟩
        have hbV3 : Below V2.heap.size V2 V3 := by rw [hV3]; exact below_regrown _ _ _
        rw [← hV3]
        clear hV3
        clear Rc0
        clear Rc1
        clear CA
        clear CH
        clear CR
        replace K2 := Lib.hid (K2.out.next hbV3)
        replace HB := Lib.hid (bt hbV3 HB.out)
        clear hbV3 c0 c1 HRS
        obtain ⟨c0, c1⟩ := box2 K2.out
        go_wp2_with fail
        refine (rRecord_any d Ad cd _ (HDD.out.next HB.out) (by omega)).mono ?_
        rintro e V4 ⟨A3, c3, rfl, hc3, ho3, hb4⟩
        replace K2 := Lib.hid (K2.out.next hb4)
        replace HB := Lib.hid (bt hb4 HB.out)
        clear hb4 c0 c1
        obtain ⟨c0, c1⟩ := box2 K2.out
        have lk4 := K2.out.lt
        obtain ⟨A3', c3', e3', _, hr3⟩ := own_read ho3
        have ea : A3 = A3' ∧ c3 = c3' := by simpa using e3'
        obtain ⟨g3, o3, hA3, hg3, _⟩ := hr3.2 (by omega)
        rw [← ea.1] at hA3 hr3
        subst hA3
        have hcut := RdS.cut hr3 (k := 1) (cap := c3) (by omega) (by omega)
        have hne : ¬ c3 = 1 := by omega
        rw [if_neg hne] at hcut
        obtain ⟨tl, htl⟩ : ∃ tl, tl = (recL d).tail := ⟨_, rfl⟩
        have htll : tl.length = 6 + d.length := by rw [htl, List.length_tail, recL_length]; omega
        have HRT : Hid (RdB V4 V4.heap.size (some ⟨g3, o3 + 1, none⟩) tl) := by
          show RdS _ _ _ _ _ _
          have h9 := hcut
          rw [show 7 + d.length - 1 = tl.length by omega] at h9
          rw [show (u8s (recL d)).drop (1 * 1) = u8s tl by rw [htl]; simp [u8s, List.drop_one, List.map_tail]] at h9
          simpa [Addr.add] using h9
        have HR6 : Hid (RdB V4 V4.heap.size (some ⟨g3, o3, none⟩) [80]) := by
          have h9 := RdS.head_ hr3 (k := 1) (by omega)
          show RdS _ _ _ _ _ _
          have e8 : (u8s (recL d)).take (1 * 1) = u8s [80] := by simp [recL, u8s, u8]
          rw [e8] at h9
          exact h9
        have HTL := Lib.hid htl
        have HTLL := Lib.hid htll
        have j1 : (1 : Int) ≤ 7 + (d.length : Int) := by omega
        have j2 : (7 : Int) + (d.length : Int) ≤ (c3 : Int) := by omega
        have j3 : (1 : Int) ≤ (c3 : Int) := by omega
        have j4 : 7 + d.length - 1 = 6 + d.length := by omega
        have w5 : IntKind.i64.wrap ((pl : Int) + 1) = (pl : Int) + 1 := IntWalk.i64_in _ (by omega)
        clear htl htll hcut hr3 e3' ea ho3 hg3
        go_upto_region 12 with fail
        refine region_S (fun w' => w'.cell? ⟨w.heap.size, 0, none⟩ = some (.int .i64 (s : Int)) ∧ w'.cell? ⟨w.heap.size, 1, none⟩ = some (.slice (some ⟨b, o, none⟩) m.2.length c)) 7 (by kernel_rfl) ?_
        obtain ⟨W0, hW0⟩ : ∃ Zz, Zz = V4.drew := ⟨_, rfl⟩
        have hb0 : Below V4.heap.size V4 W0 := by rw [hW0]; exact (Below.refl _ V4).drew
        rw [← hW0]
        clear hW0
        have HKS : Hid (∀ w', Below V4.heap.size V4 w' → (w'.cell? ⟨w.heap.size, 0, none⟩ = some (.int .i64 (s : Int)) ∧ w'.cell? ⟨w.heap.size, 1, none⟩ = some (.slice (some ⟨b, o, none⟩) m.2.length c))) := fun w' hW => box2 (K2.out.next hW)
        have HS0 := HKS.out _ hb0
        clear c0 c1
        refine anyS_take (i := 0) rfl (by kernel_rfl) (by kernel_rfl) (by kernel_rfl) (by kernel_rfl) (fun _ _ _ h => h) (Or.inl ⟨by rfl, fun w' hS' => (by obtain ⟨s1, s2⟩ := hS'; go_simp; try with_reducible rfl)⟩) HS0 ?_
        refine anyS_take (i := 2) rfl (by kernel_rfl) (by kernel_rfl) (by kernel_rfl) (by kernel_rfl) (fun _ _ _ h => h) (Or.inl ⟨by rfl, fun w' hS' => (by obtain ⟨s1, s2⟩ := hS'; go_simp; try with_reducible rfl)⟩) HS0 ?_
        refine anyS_take (i := 3) rfl (by kernel_rfl) (by kernel_rfl) (by kernel_rfl) (by kernel_rfl) (fun _ _ _ h => h) (Or.inl ⟨by rfl, fun w' hS' => (by obtain ⟨s1, s2⟩ := hS'; go_simp; try with_reducible rfl)⟩) HS0 ?_
        refine anyS_take (i := 4) rfl (by kernel_rfl) (by kernel_rfl) (by kernel_rfl) (by kernel_rfl) (fun _ _ _ h => h) (Or.inl ⟨by rfl, fun w' hS' => (by obtain ⟨s1, s2⟩ := hS'; go_simp; try with_reducible rfl)⟩) HS0 ?_
        refine anyS_take (i := 5) rfl (by kernel_rfl) (by kernel_rfl) (by kernel_rfl) (by kernel_rfl) (fun _ _ _ h => h) (Or.inl ⟨by rfl, fun w' hS' => (by obtain ⟨s1, s2⟩ := hS'; go_simp; try with_reducible rfl)⟩) HS0 ?_
        refine anyS_one (i := 1) (by kernel_rfl) rfl rfl (fun K hK => ?_)
        go_simp
        obtain ⟨W1, hW1⟩ : ∃ Zz, Zz = W0.alloc (.cells #[.int .i64 (s : Int), .slice (some ⟨b, o, none⟩) m.2.length c] 24) := ⟨_, rfl⟩
        have hx : Below W0.heap.size W0 W1 := by rw [hW1]; exact al1 _ _
        have kl : Bk W1 W0.heap.size 24 #[.int .i64 (s : Int), .slice (some ⟨b, o, none⟩) m.2.length c] := by rw [hW1]; exact Bk.new _ _ _
        rw [← hW1]
        clear hW1
        have hb1 := bt hx hb0
        have lw0 := hb0.size
        have lkl := kl.lt
        have hL0 : Lst (s : Int) W0.heap.size [(some ⟨b, o, none⟩, c, m.2)] (.slice (some ⟨W0.heap.size, 0, none⟩) 1 1) W1 := by
          refine ⟨⟨rfl, .inr ⟨W0.heap.size, 1, _, rfl, Nat.le_refl _, kl, Nat.le_refl _, by simp [maxLen], rfl, rfl⟩⟩, ?_, ?_⟩
          · intro x hx
            obtain rfl : x = (some ⟨b, o, none⟩, c, m.2) := by simpa using hx
            exact ⟨(HA.out.next HB.out).next hb1, hc⟩
          · intro x hx hlen b9 o9 e9
            obtain rfl : x = (some ⟨b, o, none⟩, c, m.2) := by simpa using hx
            have e8 : b = b9 ∧ o = o9 := by simpa using e9
            have := HB.out.size
            simp [Value.ownBlock]
            omega
        have HL0 := Lib.hid hL0
        have HB1 := Lib.hid hb1
        refine hK _ _ (fun _ => HKS.out _ hb1) ?_
        clear hK K hx hL0 hb1 kl
        refine anyS_one (i := 6) (by kernel_rfl) rfl rfl (fun K hK => ?_)
        have H5 := moreL W0.heap.size m.2.length (s : Int) [m.2] [(some ⟨b, o, none⟩, c, m.2)] _ (pl + 1) tl (6 + d.length) HTLL.out (some ⟨g3, o3 + 1, none⟩) (c3 - 1) W1 HL0.out rfl (by simp) (by simp) (by omega) (by rw [← HSS.out]; exact HV2.out) (HRT.out.next HB1.out) (by omega) (by omega) (by simp)
        rw [Int.natCast_succ] at H5
        have H5H := Lib.hid H5
        clear H5
        go_simp
        refine H5H.out.mono ?_
        rintro e W5 ⟨A5, c5, its5, rfl, hm5, hl5, hb5⟩
        have HL5 := Lib.hid hl5
        have HM5 := Lib.hid hm5
        have hn5 : its5.length ≤ 100000 := by
          have h9 := congrArg List.length hm5
          simp [addB, memos_length] at h9
          omega
        have HB5 := Lib.hid ((HB1.out.mono (Nat.le_refl _)).trans (hb5.mono lw0))
        have HB5' := Lib.hid hb5
        have lb5 := hb5.size
        clear hl5 hm5 hb5 H5H
        go_simp
        refine hK _ _ (fun _ => HKS.out _ HB5.out) ?_
        clear hK K
        refine anyS_one (i := 7) (by kernel_rfl) rfl rfl (fun K hK => ?_)
        go_simp
        refine hK _ _ (fun h => absurd rfl h) ?_
        clear hK K HS0
        refine anyS_done (by kernel_rfl) ?_ _
        simp only [normPost]
        have hne5 : its5 ≠ [] := by
          intro h9
          have := HM5.out
          rw [h9] at this
          exact addB_ne _ _ _ _ (by simp) this.symm
        have H6 := moreL W0.heap.size m.2.length (s : Int) (addB [m.2] (andF tl) (pl + 1) (6 + d.length)) its5 _ pl [80] 1 rfl (some ⟨g3, o3, none⟩) c3 W5 HL5.out HM5.out hne5 (addB_len (by simp) (by simp)) (by omega) (by rw [← HSS.out]; exact HV2.out) (HR6.out.next HB5.out) (by omega) (by omega) hn5
        have H6H := Lib.hid H6
        clear H6
        go_wp2_with fail
        refine H6H.out.mono ?_
        rintro e W6 ⟨A6, c6, its6, rfl, hm6, hl6, hb6⟩
        have HL6 := Lib.hid hl6
        have HM6 := Lib.hid hm6
        have HB6 := Lib.hid (bt (HB5.out.trans (hb6.mono lw0)) HB.out)
        clear hl6 hm6 hb6 H6H
        go_wp2
        go_ret2
        have f0 : appM m d = its6.map fun x => ((s : Int), x.2.2) := by
          have f1 : (lookC m).area * hf m + (lookC m).fin = pl := by rw [HC.out.1, HC.out.2.2.1, HHF.out, ← HH0.out, ← HPL.out]
          have f6 : appB m d = its6.map (·.2.2) := by
            rw [HM6.out]
            unfold appB
            rw [f1, ← HTL.out]
          rw [HZ.out.2, f6, List.map_map, HSS.out]; rfl
        exact ⟨A6, c6, by rw [HZ.out.1, f0, List.length_map]; rfl, by rw [f0, List.length_map]; exact (own_cap HL6.out.1), by rw [f0]; exact HL6.out.reads, HB6.out⟩
  · go_enter Tryz.func23, Tryz.ntmps23
    go_wp2_with fail
    obtain ⟨U, hU⟩ : ∃ Zz, Zz = w.alloc (.cells #[.int .i64 m.1, .slice A m.2.length c] 24) := ⟨_, rfl⟩
    have hb1 : Below w.heap.size w U := by rw [hU]; exact al1 _ _
    have k2 : Bk U w.heap.size 24 #[.int .i64 m.1, .slice A m.2.length c] := by rw [hU]; exact Bk.new _ _ _
    rw [← hU]
    clear hU
    obtain ⟨c0, c1⟩ := box2 k2
    refine (rRead_any m A c _ (HA.out.next hb1) hc).mono ?_
    rintro e V0 ⟨Ar, cr, rfl, hcr, hrs, hbV⟩
    have K2 := Lib.hid (k2.next hbV)
    have HB := Lib.hid (bt hbV hb1)
    clear hbV hb1 k2 c0 c1
    have e0 : (lookE m != 0) = true := by simp [h0]
    have HZ : Hid (appE m d = lookE m ∧ appM m d = []) := by
      have h1 : appE m d = lookE m := by unfold appE; rw [if_neg h0]
      exact ⟨h1, appM_no (by rw [h1]; exact h0)⟩
    obtain ⟨c0, c1⟩ := box2 K2.out
    clear hrs
    go_wp2
    go_ret2
    exact ⟨none, 0, by rw [HZ.out.1, HZ.out.2]; rfl, by rw [HZ.out.2]; exact Nat.le_refl _, by rw [HZ.out.2]; exact RdFs.nil, HB.out⟩
end Go.Proofs.YthebojaminploaaGreatDoor
