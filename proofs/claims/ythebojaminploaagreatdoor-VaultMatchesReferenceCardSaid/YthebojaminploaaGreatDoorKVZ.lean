/- The vault's reference: Load. -/
import Derived.Test.YthebojaminploaaGreatDoorKVc
import Derived.Test.YthebojaminploaaGreatDoorKVY
import Derived.Test.YthebojaminploaaGreatDoorKJX3
import Derived.Test.YthebojaminploaaGreatDoorKVf
import Derived.Test.YthebojaminploaaGreatDoorKJX4
set_option maxRecDepth 100000
set_option linter.unusedVariables false
set_option linter.unusedSimpArgs false
namespace Go.Proofs.YthebojaminploaaGreatDoor
open Go.RowKit Go.Sort Go.Shelf

theorem numL_nU (d : Rec) (o : Nat) : ∀ r, o + r ≤ d.length → numL ((d.drop o).take r) = nU d o r
  | 0, _ => by simp [numL, nU]
  | r + 1, h => by
    have h1 : r < (d.drop o).length := by rw [List.length_drop]; omega
    rw [numL_snoc (d.drop o) r h1, numL_nU d o r (by omega), ← nU_next d o r (by omega), List.getElem_drop]
    omega
theorem vnum_part (d : Rec) (o r n : Nat) (hn : nU d o r = n) (h : o + r ≤ d.length) (hr : 0 < r) (hr4 : r ≤ 4) (b oo o2 c : Nat) (w : World) (ho : o2 = oo + o) (hA : RdB w w.heap.size (some ⟨b, oo, none⟩) d) :
    Calls Tryz.prog 30 #[.slice (some ⟨b, o2, none⟩) r c] w fun e w' => e = .returned (.int .i64 (n : Int)) ∧ w = w' := by
  subst ho
  have h1 := vnum_any ((d.drop o).take r) r (by rw [List.length_take, List.length_drop]; omega) (some ⟨b, oo + o, none⟩) c w (RdB.part hA o r hr h) hr4
  rwa [numL_nU d o r h, hn] at h1
theorem rd_one5 {W : World} {g : Nat} {t : TypeId} {a b c d e : Value} (h : Bk W g t #[a, b, c, d, e]) : RdS W (g + 1) 5 (some ⟨g, 0, none⟩) 1 [a, b, c, d, e] :=
  ⟨rfl, fun _ => ⟨g, 0, rfl, by omega, fun j u hu => by rw [Nat.zero_add, h.cell]; simpa using hu⟩⟩
set_option maxHeartbeats 1000000 in
theorem vrLoad_any (m : Mem) (A : Option Addr) (c : Nat) (w : World) (hA : RdB w w.heap.size A m.2) (hc : m.2.length ≤ c) :
    Calls Tryz.prog 8 #[.agg #[.int .i64 m.1, .slice A m.2.length c]] w (Ls.LPost w (loadL m) (loadE m)) := by
  obtain ⟨i0, hi, hz0', hz1, hz2⟩ := info_parts Ls.info_lease
  have HA := Lib.hid hA
  clear hA
  by_cases hs : m.1 = 512
  · by_cases hn : m.2.length = 2048
    · by_cases h0 : lookE m = 0
      · have hvm : vmB m = true := decide_eq_true ⟨hs, hn⟩
        have q1 : (m.1 != 512) = false := by simpa using hs
        have q2 : ((m.2.length : Int) != 2048) = false := by rw [hn]; rfl
        clear hs hn
        have hsm := recs_small h0
        obtain ⟨hs1, hs2⟩ := hsm
        have q3 : (lookE m != 0) = false := by simp [h0]
        have HVM := Lib.hid hvm
        have H0 := Lib.hid h0
        clear hvm h0 hs2
        go_enter Tryz.func8, Tryz.ntmps8
        go_wp2_with fail
        have hb1 := al1 w (.cells #[.int .i64 m.1, .slice A m.2.length c] 24)
        refine (rRead_any m A c _ (HA.out.next hb1) hc).mono ?_
        rintro e V1 ⟨Ar, cr, rfl, hcr, hr, hbV⟩
        have HR := Lib.hid hr
        have HB := Lib.hid (bt hbV hb1)
        clear hr hbV hb1
        have HBV := HB
        go_wp2
        go_loopw [6, 7] (fun v i wr => ∃ k : Nat, i = .int .i64 (k : Int) ∧ k ≤ (lookC m).recs.length ∧ (∀ j (hj : j < (lookC m).recs.length), j < k → (lookC m).recs[j].length = 12) ∧ wr.ownsRow V1.heap.size 26 5 v (((lookC m).recs.take k).map unpL).length (lsc (((lookC m).recs.take k).map unpL)) ∧ Below V1.heap.size V1 wr) (fun _ i _ => (lookC m).recs.length - (intOf i).toNat)
        case atStart => exact ⟨0, rfl, Nat.zero_le _, fun j _ h => absurd h (by omega), World.ownsRow_nil _ _ _ _, Below.refl _ _⟩
        case round =>
          obtain ⟨k, rfl, hk, htw, hown, hb⟩ := hrel
          have HO := Lib.hid hown
          have HB := Lib.hid hb
          have HT := Lib.hid htw
          have hbase := hb.size
          have hbase2 := HBV.out.size
          clear hown hb htw
          have HBR := HB
          clear HB
          have HB : Hid (Below w.heap.size w wr) := bt HBR.out HBV.out
          by_cases hlt : k < (lookC m).recs.length
          · obtain ⟨b, o, A', c', rfl, hbb, hcell, hcc, hrd⟩ := (HR.out.next HBR.out).at_ hlt
            obtain ⟨d, hd⟩ : ∃ d, d = (lookC m).recs[k] := ⟨_, rfl⟩
            rw [← hd] at hcell hcc hrd
            have HD := Lib.hid hd
            have HRD := Lib.hid hrd
            clear hd hrd
            have k1 : (0 : Int) ≤ (k : Int) := by omega
            have k2 : (k : Int) < ((lookC m).recs.length : Int) := by omega
            by_cases h12 : d.length = 12
            · have H12 := Lib.hid h12
              obtain ⟨b3, o3, rfl, _, _⟩ := HRD.out.addr (by omega)
              rw [h12] at hcell hcc
              have e4 : (4 : Int) ≤ (c' : Int) := by omega
              have e5 : (5 : Int) ≤ (c' : Int) := by omega
              have e6 : (6 : Int) ≤ (c' : Int) := by omega
              have e10 : (10 : Int) ≤ (c' : Int) := by omega
              have e12 : (12 : Int) ≤ (c' : Int) := by omega
              have d4 : c' ≠ 4 := by omega
              have d5 : c' ≠ 5 := by omega
              have d6 : c' ≠ 6 := by omega
              have d10 : c' ≠ 10 := by omega
              obtain ⟨n1, hn1⟩ : ∃ n1, nU d 0 4 = n1 := ⟨_, rfl⟩
              obtain ⟨n2, hn2⟩ : ∃ n2, nU d 4 1 = n2 := ⟨_, rfl⟩
              obtain ⟨n3, hn3⟩ : ∃ n3, nU d 5 1 = n3 := ⟨_, rfl⟩
              obtain ⟨n4, hn4⟩ : ∃ n4, nU d 6 4 = n4 := ⟨_, rfl⟩
              obtain ⟨n5, hn5⟩ : ∃ n5, nU d 10 2 = n5 := ⟨_, rfl⟩
              have Hn1 := Lib.hid hn1
              have Hn2 := Lib.hid hn2
              have Hn3 := Lib.hid hn3
              have Hn4 := Lib.hid hn4
              have Hn5 := Lib.hid hn5
              have HX : Hid (unpL d = ⟨(n1 : Int), (n2 : Int), (n3 : Int), (n4 : Int), (n5 : Int)⟩) := Lib.hid (by rw [unp_nU, hn1, hn2, hn3, hn4, hn5])
              obtain ⟨ys, hys⟩ : ∃ ys, ys = ((lookC m).recs.take k).map unpL := ⟨_, rfl⟩
              have hyl : ys.length ≤ 4096 := by rw [hys, List.length_map, List.length_take]; omega
              obtain ⟨Av, cv, rfl, _, _⟩ := own_read HO.out
              rw [← hys] at HO ⊢
              have HYS := Lib.hid hys
              clear h12 hn1 hn2 hn3 hn4 hn5 hys
              go_upto_region 13 with fail
              refine region_S (fun _ => True) 19 (by kernel_rfl) ?_
              obtain ⟨W0, hW0⟩ : ∃ Zz, Zz = wr.drew := ⟨_, rfl⟩
              have hb0 : Below wr.heap.size wr W0 := by rw [hW0]; exact (Below.refl _ wr).drew
              rw [← hW0]
              clear hW0
              have HR0 := Lib.hid (HRD.out.next hb0)
              have HO0 := Lib.hid (Ls.own_next HO.out hb0)
              have HB0 := Lib.hid hb0
              have hz0 := hb0.size
              clear hb0
              refine anyS_take (i := 0) rfl (by kernel_rfl) (by kernel_rfl) (by kernel_rfl) (by kernel_rfl) (fun _ _ _ h => h) (Or.inl ⟨by rfl, fun w' hS' => (by go_simp; try with_reducible rfl)⟩) trivial ?_
              refine anyS_take (i := 1) rfl (by kernel_rfl) (by kernel_rfl) (by kernel_rfl) (by kernel_rfl) (fun _ _ _ h => h) (Or.inl ⟨by rfl, fun w' hS' => (by go_simp; try with_reducible rfl)⟩) trivial ?_
              refine anyS_take (i := 2) rfl (by kernel_rfl) (by kernel_rfl) (by kernel_rfl) (by kernel_rfl) (fun _ _ _ h => h) (Or.inl ⟨by rfl, fun w' hS' => (by go_simp; try with_reducible rfl)⟩) trivial ?_
              refine anyS_take (i := 4) rfl (by kernel_rfl) (by kernel_rfl) (by kernel_rfl) (by kernel_rfl) (fun _ _ _ h => h) (Or.inl ⟨by rfl, fun w' hS' => (by go_simp; try with_reducible rfl)⟩) trivial ?_
              refine anyS_take (i := 5) rfl (by kernel_rfl) (by kernel_rfl) (by kernel_rfl) (by kernel_rfl) (fun _ _ _ h => h) (Or.inl ⟨by rfl, fun w' hS' => (by go_simp; try with_reducible rfl)⟩) trivial ?_
              refine anyS_take (i := 7) rfl (by kernel_rfl) (by kernel_rfl) (by kernel_rfl) (by kernel_rfl) (fun _ _ _ h => h) (Or.inl ⟨by rfl, fun w' hS' => (by go_simp; try with_reducible rfl)⟩) trivial ?_
              refine anyS_take (i := 8) rfl (by kernel_rfl) (by kernel_rfl) (by kernel_rfl) (by kernel_rfl) (fun _ _ _ h => h) (Or.inl ⟨by rfl, fun w' hS' => (by go_simp; try with_reducible rfl)⟩) trivial ?_
              refine anyS_take (i := 10) rfl (by kernel_rfl) (by kernel_rfl) (by kernel_rfl) (by kernel_rfl) (fun _ _ _ h => h) (Or.inl ⟨by rfl, fun w' hS' => (by go_simp; try with_reducible rfl)⟩) trivial ?_
              refine anyS_take (i := 11) rfl (by kernel_rfl) (by kernel_rfl) (by kernel_rfl) (by kernel_rfl) (fun _ _ _ h => h) (Or.inl ⟨by rfl, fun w' hS' => (by go_simp; try with_reducible rfl)⟩) trivial ?_
              refine anyS_take (i := 13) rfl (by kernel_rfl) (by kernel_rfl) (by kernel_rfl) (by kernel_rfl) (fun _ _ _ h => h) (Or.inl ⟨by rfl, fun w' hS' => (by go_simp; try with_reducible rfl)⟩) trivial ?_
              refine anyS_take (i := 14) rfl (by kernel_rfl) (by kernel_rfl) (by kernel_rfl) (by kernel_rfl) (fun _ _ _ h => h) (Or.inl ⟨by rfl, fun w' hS' => (by go_simp; try with_reducible rfl)⟩) trivial ?_
              refine anyS_one (i := 3) (by kernel_rfl) rfl rfl (fun K hK => ?_)
              have HN := Lib.hid (vnum_part d 0 4 n1 Hn1.out (by rw [H12.out]; omega) (by omega) (by omega) b3 o3 (o3) (c') W0 (by rfl) HR0.out)
              go_simp
              refine HN.out.mono ?_
              rintro e _ ⟨rfl, hW⟩
              rw [← hW]
              clear hW
              go_simp
              refine hK _ _ (fun _ => trivial) ?_
              clear hK K HN
              refine anyS_one (i := 6) (by kernel_rfl) rfl rfl (fun K hK => ?_)
              have HN := Lib.hid (vnum_part d 4 1 n2 Hn2.out (by rw [H12.out]; omega) (by omega) (by omega) b3 o3 (o3 + 4) (c' - 4) W0 (by rfl) HR0.out)
              go_simp
              refine HN.out.mono ?_
              rintro e _ ⟨rfl, hW⟩
              rw [← hW]
              clear hW
              go_simp
              refine hK _ _ (fun _ => trivial) ?_
              clear hK K HN
              refine anyS_one (i := 9) (by kernel_rfl) rfl rfl (fun K hK => ?_)
              have HN := Lib.hid (vnum_part d 5 1 n3 Hn3.out (by rw [H12.out]; omega) (by omega) (by omega) b3 o3 (o3 + 5) (c' - 5) W0 (by rfl) HR0.out)
              go_simp
              refine HN.out.mono ?_
              rintro e _ ⟨rfl, hW⟩
              rw [← hW]
              clear hW
              go_simp
              refine hK _ _ (fun _ => trivial) ?_
              clear hK K HN
              refine anyS_one (i := 12) (by kernel_rfl) rfl rfl (fun K hK => ?_)
              have HN := Lib.hid (vnum_part d 6 4 n4 Hn4.out (by rw [H12.out]; omega) (by omega) (by omega) b3 o3 (o3 + 6) (c' - 6) W0 (by rfl) HR0.out)
              go_simp
              refine HN.out.mono ?_
              rintro e _ ⟨rfl, hW⟩
              rw [← hW]
              clear hW
              go_simp
              refine hK _ _ (fun _ => trivial) ?_
              clear hK K HN
              refine anyS_one (i := 15) (by kernel_rfl) rfl rfl (fun K hK => ?_)
              have HN := Lib.hid (vnum_part d 10 2 n5 Hn5.out (by rw [H12.out]; omega) (by omega) (by omega) b3 o3 (o3 + 10) (c' - 10) W0 (by rfl) HR0.out)
              go_simp
              refine HN.out.mono ?_
              rintro e _ ⟨rfl, hW⟩
              rw [← hW]
              clear hW
              go_simp
              refine hK _ _ (fun _ => trivial) ?_
              clear hK K HN
              refine anyS_one (i := 16) (by kernel_rfl) rfl rfl (fun K hK => ?_)
              go_simp
              refine hK _ _ (fun _ => trivial) ?_
              clear hK K
              refine anyS_one (i := 17) (by kernel_rfl) rfl rfl (fun K hK => ?_)
              go_simp
              obtain ⟨W1, hW1⟩ : ∃ Zz, Zz = W0.alloc (.cells #[.int .i64 (n1 : Int), .int .i64 (n2 : Int), .int .i64 (n3 : Int), .int .i64 (n4 : Int), .int .i64 (n5 : Int)] 26) := ⟨_, rfl⟩
              have hx : Below W0.heap.size W0 W1 := by rw [hW1]; exact al1 _ _
              have k5 : Bk W1 W0.heap.size 26 #[.int .i64 (n1 : Int), .int .i64 (n2 : Int), .int .i64 (n3 : Int), .int .i64 (n4 : Int), .int .i64 (n5 : Int)] := by rw [hW1]; exact Bk.new _ _ _
              rw [← hW1]
              clear hW1
              have HO1 := Lib.hid (Ls.own_next HO0.out hx)
              have HB1 := Lib.hid (bt hx HB0.out)
              have hz1' := hx.size
              have hk5 := k5.lt
              refine hK _ _ (fun _ => trivial) ?_
              clear hK K hx
              refine anyS_one (i := 18) (by kernel_rfl) rfl rfl (fun K hK => ?_)
              refine wp_append_rd _ (.tmp 39) (.tmp 56) _ (by rfl) V1.heap.size 26 i0 (.agg #[.int .i64 0, .int .i64 0, .int .i64 0, .int .i64 0, .int .i64 0]) 5 40 Tryz.underlying32 hi hz0' hz1 hz2 rfl (by decide) (.slice Av ys.length cv) ys.length (lsc ys) (by rfl) HO1.out (W0.heap.size + 1) (some ⟨W0.heap.size, 0, none⟩) 1 1 [.int .i64 (n1 : Int), .int .i64 (n2 : Int), .int .i64 (n3 : Int), .int .i64 (n4 : Int), .int .i64 (n5 : Int)] (by rfl) (rd_one5 k5) (by simp [Value.oneCell']) (by simp only [maxLen]; omega) (by omega) (by omega) ?_
              intro v' w1 hown' hgrow _
              have HRR : Hid (w1.ownsRow V1.heap.size 26 5 v' (((lookC m).recs.take (k + 1)).map unpL).length (lsc (((lookC m).recs.take (k + 1)).map unpL))) := Lib.hid (by rw [map_take_snoc hlt, ← HD.out, HX.out, ← HYS.out, lsc_snoc, List.length_append]; exact hown')
              have HGG : Hid (Below V1.heap.size V1 w1) := Lib.hid ((bt HB1.out HBR.out).grown hgrow (by omega) (fun j hj => (own_lt HO1.out hj).1))
              refine hK _ _ (fun _ => trivial) ?_
              clear hK K hown' hgrow k5
              refine anyS_one (i := 19) (by kernel_rfl) rfl rfl (fun K hK => ?_)
              go_simp
              refine hK _ _ (fun h => absurd rfl h) ?_
              clear hK K
              refine anyS_done (by kernel_rfl) ?_ _
              simp only [normPost]
              go_wp2
              go_roundw
              case rel => exact ⟨k + 1, by go_num, by omega, fun j hj hjk => by rcases Nat.lt_or_ge j k with h | h; exact HT.out j hj h; (obtain rfl : j = k := by omega); rw [← HD.out]; exact H12.out, HRR.out, HGG.out⟩
              case measure => simp [intOf]; omega
            · have hno := tw_false hlt (by rw [← HD.out]; exact h12)
              obtain ⟨e1, e2⟩ := load_kind HVM.out H0.out (by rw [hno]; rfl)
              have E1 := Lib.hid e1
              have E2 := Lib.hid e2
              have q12 : ((d.length : Int) != 12) = true := by rw [bne_iff_ne]; omega
              clear hno e1 e2 h12
              go_wp2
              go_ret2
              exact ⟨none, 0, by rw [E1.out, E2.out]; rfl, by rw [E2.out]; exact Nat.le_refl _, by rw [E2.out]; exact RdL.nil, HB.out⟩
          · obtain rfl : k = (lookC m).recs.length := by omega
            have hown := HO.out
            rw [List.take_of_length_le (Nat.le_refl _)] at hown
            have htw := tw_true (fun j hj => HT.out j hj hj)
            obtain ⟨Ao, co, rfl, hco, hro⟩ := own_read hown
            have HRO : Hid (RdL wr wr.heap.size Ao ((lookC m).recs.map unpL)) := hro
            have hyl : ((lookC m).recs.map unpL).length ≤ 4096 := by rw [List.length_map]; omega
            have HC := Lib.hid hco
            obtain ⟨ys, hys⟩ : ∃ ys, ys = (lookC m).recs.map unpL := ⟨_, rfl⟩
            rw [← hys] at HRO HC hyl ⊢
            have HYS := Lib.hid hys
            have HTW := Lib.hid htw
            clear hown hro hco hys htw
            by_cases hv : vlB ys = true
            · obtain ⟨e1, e2⟩ := load_good HVM.out H0.out HTW.out (HYS.out ▸ hv)
              rw [← HYS.out] at e2
              have E1 := Lib.hid e1
              have E2 := Lib.hid e2
              have HV := Lib.hid hv
              clear e1 e2 hv
              go_wp2_with fail
              refine (Ls.rValid_lit true ys Ao co _ HV.out HRO.out (by omega)).mono ?_
              rintro e V2 ⟨rfl, hb2⟩
              have HB2 := Lib.hid (bt hb2 HB.out)
              have HR2 := Lib.hid (HRO.out.next hb2)
              clear hb2
              go_wp2
              go_ret2
              exact ⟨Ao, co, by rw [E1.out, E2.out]; rfl, by rw [E2.out]; exact HC.out, by rw [E2.out]; exact HR2.out, HB2.out⟩
            · have hv : vlB ys = false := by simpa using hv
              obtain ⟨e1, e2⟩ := load_kind HVM.out H0.out (by rw [HTW.out, ← HYS.out, hv]; rfl)
              have E1 := Lib.hid e1
              have E2 := Lib.hid e2
              have HV := Lib.hid hv
              clear e1 e2 hv
              go_wp2_with fail
              refine (Ls.rValid_lit false ys Ao co _ HV.out HRO.out (by omega)).mono ?_
              rintro e V2 ⟨rfl, hb2⟩
              have HB2 := Lib.hid (bt hb2 HB.out)
              clear hb2
              go_wp2
              go_ret2
              exact ⟨none, 0, by rw [E1.out, E2.out]; rfl, by rw [E2.out]; exact Nat.le_refl _, by rw [E2.out]; exact RdL.nil, HB2.out⟩
      · have hvm : vmB m = true := decide_eq_true ⟨hs, hn⟩
        have q1 : (m.1 != 512) = false := by simpa using hs
        have q2 : ((m.2.length : Int) != 2048) = false := by rw [hn]; rfl
        clear hs hn
        obtain ⟨e1, e2⟩ := load_look hvm h0
        rw [e1, e2]
        have q3 : (lookE m != 0) = true := by simpa using h0
        clear e1 e2 h0
        go_enter Tryz.func8, Tryz.ntmps8
        go_wp2_with fail
        have hb1 := al1 w (.cells #[.int .i64 m.1, .slice A m.2.length c] 24)
        refine (rRead_any m A c _ (HA.out.next hb1) hc).mono ?_
        rintro e V1 ⟨Ar, cr, rfl, hcr, hr, hbV⟩
        have HR := Lib.hid hr
        have HB := Lib.hid (bt hbV hb1)
        clear hr hbV hb1
        go_wp2
        go_ret2
        exact ⟨none, 0, rfl, Nat.le_refl _, RdL.nil, HB.out⟩
    · obtain ⟨e1, e2⟩ := load_far (m := m) (by rw [vmB, decide_eq_false_iff_not]; exact fun h => hn h.2)
      rw [e1, e2]
      have q1 : (m.1 != 512) = false := by simpa using hs
      have q2 : ((m.2.length : Int) != 2048) = true := by rw [bne_iff_ne]; omega
      clear e1 e2 hs hn
      go_enter Tryz.func8, Tryz.ntmps8
      go_wp2
      go_ret2
      exact ⟨none, 0, rfl, Nat.le_refl _, RdL.nil, al1 _ _⟩
  · obtain ⟨e1, e2⟩ := load_far (m := m) (by rw [vmB, decide_eq_false_iff_not]; exact fun h => hs h.1)
    rw [e1, e2]
    have q1 : (m.1 != 512) = true := by simpa using hs
    clear e1 e2 hs
    go_enter Tryz.func8, Tryz.ntmps8
    go_wp2
    go_ret2
    exact ⟨none, 0, rfl, Nat.le_refl _, RdL.nil, al1 _ _⟩
end Go.Proofs.YthebojaminploaaGreatDoor

/- The vault's reference: Next, Format. -/
set_option maxRecDepth 100000
set_option linter.unusedVariables false
set_option linter.unusedSimpArgs false
namespace Go.Proofs.YthebojaminploaaGreatDoor
open Go.RowKit Go.Sort Go.Shelf

theorem rvLoad_lit (L : List Lea) (E : Int) (m : Mem) (A : Option Addr) (c : Nat) (w : World) (hL : loadL m = L) (hE : loadE m = E) (hA : RdB w w.heap.size A m.2) (hc : m.2.length ≤ c) :
    Calls Tryz.prog 8 #[.agg #[.int .i64 m.1, .slice A m.2.length c]] w (Ls.LPost w L E) := by subst hL; subst hE; exact vrLoad_any m A c w hA hc
set_option maxHeartbeats 1000000 in
theorem rNext_any (m : Mem) (A : Option Addr) (c : Nat) (w : World) (hA : RdB w w.heap.size A m.2) (hc : m.2.length ≤ c) :
    Calls Tryz.prog 10 #[.agg #[.int .i64 m.1, .slice A m.2.length c]] w fun e w' => e = .returned (.tuple #[.int .i64 (nextN m), .int .i64 (nextE m)]) ∧ Below w.heap.size w w' := by
  have HA := Lib.hid hA
  clear hA
  obtain ⟨L, hL⟩ : ∃ L, L = loadL m := ⟨_, rfl⟩
  have HL := Lib.hid hL
  by_cases h0 : loadE m = 0
  · by_cases h1 : L.length = 0
    · have HE := Lib.hid h0
      have e1 : nextE m = 0 := by unfold nextE; rw [if_pos h0, if_pos (by rw [← hL]; exact List.eq_nil_of_length_eq_zero h1)]
      have e2 : nextN m = 1 := by unfold nextN; rw [if_pos h0, if_pos (by rw [← hL]; exact List.eq_nil_of_length_eq_zero h1)]
      have q1 : ((L.length : Int) == 0) = true := by simp [h1]
      clear h0 h1 hL
      rw [e1, e2]
      clear e1 e2
      go_enter Tryz.func10, Tryz.ntmps10
      go_wp2_with fail
      refine (rvLoad_lit L 0 m A c _ HL.out.symm HE.out (HA.out.next (al1 _ _)) hc).mono ?_
      rintro e V1 ⟨AL, cL, rfl, hcL, hrL, hb⟩
      have HRL := Lib.hid hrL
      have HB := Lib.hid (bt hb (al1 w _))
      clear hrL hb
      go_wp2
      go_ret2
      exact ⟨rfl, HB.out⟩
    · by_cases h2 : (lastL L).n = 1000000
      · have HE := Lib.hid h0
        have e1 : nextE m = 10 := by unfold nextE; rw [if_pos h0, if_neg (by rw [← hL]; intro e; rw [e] at h1; simp at h1), ← hL, if_pos h2]
        have e2 : nextN m = 0 := by unfold nextN; rw [if_pos h0, if_neg (by rw [← hL]; intro e; rw [e] at h1; simp at h1), ← hL, if_pos h2]
        have q1 : ((L.length : Int) == 0) = false := by rw [beq_eq_false_iff_ne]; omega
        have H2 := Lib.hid h2
        have hLn : L.length ≤ 64 := by rw [hL]; have := (load_len h0).2; omega
        clear h0 hL h2
        rw [e1, e2]
        clear e1 e2
        go_enter Tryz.func10, Tryz.ntmps10
        go_wp2_with fail
        refine (rvLoad_lit L 0 m A c _ HL.out.symm HE.out (HA.out.next (al1 _ _)) hc).mono ?_
        rintro e V1 ⟨AL, cL, rfl, hcL, hrL, hb⟩
        have HRL := Lib.hid hrL
        have HB := Lib.hid (bt hb (al1 w _))
        clear hrL hb
        obtain ⟨bk, ok, rfl, _, z0, z1, z2, z3, z4⟩ := HRL.out.at_ (i := L.length - 1) (by omega)
        obtain ⟨y, hy⟩ : ∃ y, y = lastL L := ⟨_, rfl⟩
        rw [← getD_of (by omega : L.length - 1 < L.length), show L.getD (L.length - 1) l0 = y from hy.symm] at z0 z1 z2 z3 z4
        obtain ⟨k, hk⟩ : ∃ k, k = L.length - 1 := ⟨_, rfl⟩
        rw [← hk] at z0 z1 z2 z3 z4
        have j0k : (L.length : Int) - 1 = (k : Int) := by omega
        have j1k : (0 : Int) ≤ (k : Int) := by omega
        have j2k : (k : Int) < (L.length : Int) := by omega
        have j3k : IntKind.i64.wrap ((L.length : Int) - 1) = (k : Int) := by rw [IntWalk.i64_in _ (by omega)]; omega
        have Hy := Lib.hid hy
        clear hk hy
        have q2 : (1000000 : Int) ≤ y.n := by rw [Hy.out, H2.out]; omega
        go_wp2
        go_ret2
        exact ⟨rfl, HB.out⟩
      · have HE := Lib.hid h0
        have e1 : nextE m = 0 := by unfold nextE; rw [if_pos h0, if_neg (by rw [← hL]; intro e; rw [e] at h1; simp at h1), ← hL, if_neg h2]
        have e2 : nextN m = (lastL L).n + 1 := by unfold nextN; rw [if_pos h0, if_neg (by rw [← hL]; intro e; rw [e] at h1; simp at h1), ← hL, if_neg h2]
        have q1 : ((L.length : Int) == 0) = false := by rw [beq_eq_false_iff_ne]; omega
        have H2 := Lib.hid h2
        have hLn : L.length ≤ 64 := by rw [hL]; have := (load_len h0).2; omega
        have hmr := (oneB_iff _).1 (vlB_one (load_ok h0).2.2.2.2 (lastL_mem (l := loadL m) (by rw [← hL]; intro e; rw [e] at h1; simp at h1)))
        rw [← hL] at hmr
        clear h0 hL h2
        rw [e1, e2]
        clear e1 e2
        obtain ⟨y', hy'⟩ : ∃ y', y' = lastL L := ⟨_, rfl⟩
        rw [← hy'] at hmr ⊢
        have HY' := Lib.hid hy'
        obtain ⟨n1, n2, _⟩ := hmr
        clear hy'
        go_enter Tryz.func10, Tryz.ntmps10
        go_wp2_with fail
        refine (rvLoad_lit L 0 m A c _ HL.out.symm HE.out (HA.out.next (al1 _ _)) hc).mono ?_
        rintro e V1 ⟨AL, cL, rfl, hcL, hrL, hb⟩
        have HRL := Lib.hid hrL
        have HB := Lib.hid (bt hb (al1 w _))
        clear hrL hb
        obtain ⟨bk, ok, rfl, _, z0, z1, z2, z3, z4⟩ := HRL.out.at_ (i := L.length - 1) (by omega)
        obtain ⟨y, hy⟩ : ∃ y, y = lastL L := ⟨_, rfl⟩
        rw [← getD_of (by omega : L.length - 1 < L.length), show L.getD (L.length - 1) l0 = y from hy.symm] at z0 z1 z2 z3 z4
        obtain ⟨k, hk⟩ : ∃ k, k = L.length - 1 := ⟨_, rfl⟩
        rw [← hk] at z0 z1 z2 z3 z4
        have j0k : (L.length : Int) - 1 = (k : Int) := by omega
        have j1k : (0 : Int) ≤ (k : Int) := by omega
        have j2k : (k : Int) < (L.length : Int) := by omega
        have j3k : IntKind.i64.wrap ((L.length : Int) - 1) = (k : Int) := by rw [IntWalk.i64_in _ (by omega)]; omega
        have Hy := Lib.hid hy
        clear hk hy
        have q2 : ¬ (1000000 : Int) ≤ y.n := by have h8 := H2.out; have h9 := Hy.out; have h7 := HY'.out; rw [← h9] at h8 h7; rw [h7] at n2; omega
        obtain rfl : y = y' := by rw [Hy.out, HY'.out]
        go_wp2
        go_ret2
        exact ⟨rfl, HB.out⟩
  · have HE := Lib.hid (rfl : loadE m = loadE m)
    have e1 : nextE m = loadE m := by unfold nextE; rw [if_neg h0]
    have e2 : nextN m = 0 := by unfold nextN; rw [if_neg h0]
    rw [e1, e2]
    obtain ⟨E, hEE⟩ : ∃ E, E = loadE m := ⟨_, rfl⟩
    rw [← hEE] at HE ⊢
    have q0 : (E != 0) = true := by rw [hEE]; simpa using h0
    have HE2 := Lib.hid hEE
    clear e1 e2 h0 hL hEE HE
    have HE : Hid (loadE m = E) := HE2.out.symm
    go_enter Tryz.func10, Tryz.ntmps10
    go_wp2_with fail
    refine (rvLoad_lit L E m A c _ HL.out.symm HE.out (HA.out.next (al1 _ _)) hc).mono ?_
    rintro e V1 ⟨AL, cL, rfl, hcL, hrL, hb⟩
    have HRL := Lib.hid hrL
    have HB := Lib.hid (bt hb (al1 w _))
    clear hrL hb
    go_wp2
    go_ret2
    exact ⟨rfl, HB.out⟩
set_option maxHeartbeats 1000000 in
theorem rvFormat_any (w : World) :
    Calls Tryz.prog 12 #[] w (fmtPost 512 4 w) := by
  go_enter Tryz.func12, Tryz.ntmps12
  go_wp2_with fail
  obtain ⟨U, hU⟩ : ∃ Zz, Zz = w.alloc (.cells #[.int .i64 0, .slice none 0 0] 24) := ⟨_, rfl⟩
  have hbU : Below w.heap.size w U := by rw [hU]; exact al1 _ _
  have kx : Bk U w.heap.size 24 #[.int .i64 0, .slice none 0 0] := by rw [hU]; exact Bk.new _ _ _
  rw [← hU]
  clear hU
  refine (rFormat_any 512 4 _ (by omega) (by omega) (by omega) (by omega)).mono ?_
  rintro e V1 ⟨A0, c0, rfl, hc0, r0, hb⟩
  have k1 := kx.next hb
  have HK := Lib.hid k1
  have HR := Lib.hid r0
  have HB := Lib.hid (bt hb hbU)
  obtain ⟨M, hM⟩ : ∃ M, M = fmtM 512 4 := ⟨_, rfl⟩
  obtain ⟨E, hE⟩ : ∃ E, E = fmtE 512 4 := ⟨_, rfl⟩
  rw [← hM, ← hE]
  rw [← hM] at HR hc0
  have HM := Lib.hid hM
  have HE := Lib.hid hE
  obtain ⟨c10, c11⟩ := box2 k1
  have f0 := k1.frozen 0
  have f1 := k1.frozen 1
  have l1 := k1.lt
  clear hM hE kx k1 hb hbU r0
  go_wp2
  obtain ⟨X, hX⟩ : ∃ Zz, Zz = (V1.setCell ⟨w.heap.size, 0, none⟩ (.int .i64 M.1)).setCell ⟨w.heap.size, 1, none⟩ (.slice A0 M.2.length c0) := ⟨_, rfl⟩
  rw [← hX]
  have kX : Bk X w.heap.size 24 #[.int .i64 M.1, .slice A0 M.2.length c0] := by rw [hX]; simpa using (HK.out.set 0 (.int .i64 M.1)).set 1 (.slice A0 M.2.length c0)
  have hbX : Below w.heap.size w X := by rw [hX]; exact (HB.out.setCell (p := ⟨w.heap.size, 0, none⟩) (Nat.le_refl _) _).setCell (p := ⟨w.heap.size, 1, none⟩) (Nat.le_refl _) _
  have hrX : RdB X X.heap.size A0 M.2 := by
    have e : X.heap.size = V1.heap.size := by rw [hX]; simp [World.setCell]
    rw [e, hX]
    exact rdB_set (v := .slice none 0 0) (rdB_set HR.out c10 (fun z h => by cases h)) (by rw [World.cell?_setCell_other _ _ _ _ (by simp)]; exact c11) (fun z h => by cases h)
  obtain ⟨u0, u1⟩ := box2 kX
  clear hX c10 c11 f0 f1
  exact bodyPost_ret (v := .tuple #[.agg #[.int .i64 M.1, .slice A0 M.2.length c0], .int .i64 E]) (by simp [results, Tryz.results12, go_sem, u0, u1]) rfl (by unfold fmtPost; rw [← HM.out, ← HE.out]; exact ⟨A0, c0, rfl, hc0, hrX, hbX⟩)
end Go.Proofs.YthebojaminploaaGreatDoor
