/- journal.Append. -/
import Derived.Test.YthebojaminploaaGreatDoorKJk
set_option maxRecDepth 100000
set_option linter.unusedVariables false
set_option linter.unusedSimpArgs false
namespace Go.Proofs.YthebojaminploaaGreatDoor
open Go.RowKit Go.Sort Go.Shelf

/-- records with one more -/
theorem scanA_facts {b : List UInt8} {l : List Rec} {e : Nat} (h : scanA b = some (l, e)) (h5 : 5 ≤ b.length) : (∀ d ∈ l, d.length ≤ 65535) ∧ e = 5 + room l ∧ b.drop 5 = recs l ++ b.drop e ∧ stops (b.drop e) ∧ e ≤ b.length := by
  obtain ⟨h1, h2, h3, h4⟩ := scan_some b.length b 5 l e (by omega) h
  refine ⟨h1, h2, h3, h4, ?_⟩
  have := congrArg List.length h3
  simp only [List.length_append, List.length_drop, recs_length] at this
  omega
theorem room_ge (l : List Rec) : l.length ≤ room l ∧ ∀ d ∈ l, d.length ≤ room l := by
  induction l with
  | nil => simp [room]
  | cons x l ih =>
    refine ⟨by simp [room]; omega, fun d hd => ?_⟩
    rcases List.mem_cons.1 hd with rfl | hd
    · simp [room]; omega
    · have := ih.2 d hd; simp [room]; omega
theorem Rw.with_ {base : Nat} {its : List Itm} {v v' : Value} {Ad : Option Addr} {d : Rec} {cd : Nat} {W W1 : World} (h : Rw base its v W) (hd : RdB W1 W1.heap.size Ad d) (hcd : d.length ≤ cd)
    (hown : W1.ownsRow base 22 1 v' (its.length + 1) (its.map cellB ++ [.slice Ad d.length cd])) (hg : W.grownBy W1 v.ownBlock) : ∃ A c, v' = .slice A (its.length + 1) c ∧ its.length + 1 ≤ c ∧ RdBs W1 W1.heap.size A (its.map (·.2.2) ++ [d]) := by
  have key : ∀ y ∈ its, W1.ownsRow base 5 1 (cellB y) y.2.2.length (u8s y.2.2) := fun y hy =>
    own_keep (h.2 y hy) fun g hgg => hg.block g (own_lt (h.2 y hy) hgg).2 (fun e => own_apart (h.2 y hy) h.1 (by decide) hgg e.symm)
  obtain ⟨A, c, rfl, hc, hr⟩ := own_read hown
  refine ⟨A, c, rfl, hc, fun hn => ?_⟩
  obtain ⟨b, o, e, hb, hcell⟩ := hr.2 (by omega)
  refine ⟨b, o, e, hb, fun i d' hd' => ?_⟩
  by_cases hi : i < its.length
  · rw [List.getElem?_append_left (by simpa using hi), List.getElem?_map, Option.map_eq_some_iff] at hd'
    obtain ⟨x, hx, rfl⟩ := hd'
    obtain ⟨A', c', e', hc', hr'⟩ := own_read (key x (List.mem_of_getElem? hx))
    have ea : x.1 = A' ∧ x.2.1 = c' := by simpa [cellB] using e'
    refine ⟨x.1, x.2.1, hcell i _ (by rw [List.getElem?_append_left (by simpa using hi)]; simp [hx, cellB]), by rw [ea.2]; exact hc', by rw [ea.1]; exact hr'⟩
  · rw [List.getElem?_append_right (by simpa using hi)] at hd'
    simp only [List.length_map] at hd'
    have hi0 : i = its.length := by
      by_cases h0 : i - its.length = 0
      · omega
      · rw [List.getElem?_eq_none (by simp; omega)] at hd'; cases hd'
    subst hi0
    obtain rfl : d = d' := by simpa using hd'
    exact ⟨Ad, cd, hcell its.length _ (by simp), hcd, hd⟩
set_option maxHeartbeats 1500000 in
theorem Append_any (m : Mem) (d : Rec) (A Ad : Option Addr) (c cd : Nat) (w : World) (hA : RdB w w.heap.size A m.2) (hc : m.2.length ≤ c) (hD : RdB w w.heap.size Ad d) (hcd : d.length ≤ cd) (hdl : d.length ≤ 1000000) :
    Calls Tryz.prog 18 #[.agg #[.int .i64 m.1, .slice A m.2.length c], .slice Ad d.length cd] w (memPost m.1 (appL m d) (appE m d) w) := by
  obtain ⟨i0, hi, hz0, hz1, hz2⟩ := info_parts info_u8
  obtain ⟨i1, hj, hw0, hw1, hw2⟩ := info_parts info_bs
  have HA := Lib.hid hA
  have HDD := Lib.hid hD
  clear hA hD
  by_cases h0 : lookE m = 0
  · obtain ⟨a, l, en, hv, hq, hsc, hC⟩ := lookE_ok h0
    have h32 := jv_len hv
    have h4k := jv_max hv
    obtain ⟨b, o, rfl, hbb9, _⟩ := HA.out.addr (by omega)
    have hv2 : validB m.1 m.2.length = true := by unfold jvB at hv; simp only [Bool.and_eq_true] at hv; exact hv.1.1
    obtain ⟨vx1, vx2, vx3, vx4, vx5⟩ := (valid_iff _ _).1 hv2
    obtain ⟨s, hs⟩ := Int.eq_ofNat_of_zero_le (by omega : 0 ≤ m.1)
    have HV2 := Lib.hid hv2
    have HV := Lib.hid hv
    have HQ := Lib.hid hq
    have HCE := Lib.hid hC
    have HSS := Lib.hid hs
    have ha := curO_le hq
    have hga : (lookC m).area = a := by rw [hC]
    have hgg : (lookC m).gen < 4294967296 := by rw [hC]; exact num4_lt _ _ _ _
    obtain ⟨gen, hgen⟩ : ∃ gen, gen = (lookC m).gen := ⟨_, rfl⟩
    obtain ⟨fi, hfi⟩ : ∃ fi, fi = (lookC m).fin := ⟨_, rfl⟩
    obtain ⟨cl, hcl⟩ : ∃ cl, cl = (lookC m).clean := ⟨_, rfl⟩
    rw [← hgen] at hgg
    have HGEN := Lib.hid hgen
    have HFI := Lib.hid hfi
    have HGA := Lib.hid hga
    have hhf : hf m = m.2.length / 2 := rfl
    rw [hs] at vx1 vx2 vx3 ⊢
    clear hs
    have HSC := Lib.hid hsc
    clear hv hv2 hq hsc hC vx5
    go_enter Tryz.func18, Tryz.ntmps18
    go_wp2_with fail
    obtain ⟨U, hU⟩ : ∃ Zz, Zz = w.alloc (.cells #[.int .i64 (s : Int), .slice (some ⟨b, o, none⟩) m.2.length c] 24) := ⟨_, rfl⟩
    have hb1 : Below w.heap.size w U := by rw [hU]; exact al1 _ _
    have k2 : Bk U w.heap.size 24 #[.int .i64 (s : Int), .slice (some ⟨b, o, none⟩) m.2.length c] := by rw [hU]; exact Bk.new _ _ _
    rw [← hU]
    clear hU
    refine (look_s m (s : Int) HSS.out _ c _ (HA.out.next hb1) hc).mono ?_
    rintro e V ⟨v, its, rfl, hrw, hmap, hbV⟩
    obtain ⟨Ar, cr, rfl, hcr, _⟩ := own_read hrw.1
    have K2 := Lib.hid (k2.next hbV)
    have HB := Lib.hid (bt hbV hb1)
    have HRW := Lib.hid hrw
    have HMP := Lib.hid hmap
    have hUw := hb1.size
    have hkU : w.heap.size < U.heap.size := k2.lt
    have hUV := hbV.size
    clear hrw hmap hbV hb1 k2
    rw [hga, h0, ← hgen, ← hfi, ← hcl]
    have HCL := Lib.hid hcl
    have hfb : fi ≤ m.2.length / 2 := by
      rw [HFI.out, HCE.out]
      have h9 := (scanA_facts HSC.out (by rw [areaB_length m ha]; omega)).2.2.2.2
      rw [areaB_length m ha] at h9
      exact h9
    clear hga hgen hfi hcl
    have e0 : ((0 : Int) != 0) = false := rfl
    obtain ⟨c0, c1⟩ := box2 K2.out
    have lk := K2.out.lt
    obtain ⟨n2, hn2⟩ : ∃ n2, n2 = m.2.length / 2 := ⟨_, rfl⟩
    have hn2I : ((m.2.length : Nat) : Int) / 2 = (n2 : Int) := by omega
    rw [← hn2] at hfb
    have hn2b : n2 ≤ 2048 := by omega
    have hn2c : 16 ≤ n2 := by omega
    have hle1 : 2 * n2 ≤ m.2.length := by omega
    have HN2 := Lib.hid hn2
    clear hn2
    by_cases h6 : 65535 < d.length
    · have q1 : (65535 : Int) < (d.length : Int) := by omega
      have HZ : Hid (appE m d = 10 ∧ appL m d = []) := by
        have h1 : appE m d = 10 := by
          unfold appE
          rw [if_pos h0, if_neg (fun h => by have h2 := h.2; rw [← HFI.out, hhf, ← HN2.out] at h2; have h3 := h.1; omega)]
        exact ⟨h1, by unfold appL; rw [h1]; rfl⟩
      go_wp2
      go_ret2
      exact ⟨.slice none 0 0, [], by rw [HZ.out.1]; rfl, Ms.nil _ _ _, by rw [HZ.out.2]; rfl, bt (al1 _ _) HB.out⟩
    · by_cases h7 : n2 < fi + 7 + d.length
      · have q1 : ¬ (65535 : Int) < (d.length : Int) := by omega
        have q2 : (n2 : Int) - (fi : Int) < 7 + (d.length : Int) := by omega
        have HZ : Hid (appE m d = 10 ∧ appL m d = []) := by
          have h1 : appE m d = 10 := by
            unfold appE
            rw [if_pos h0, if_neg (fun h => by have h2 := h.2; rw [← HFI.out, hhf, ← HN2.out] at h2; have h3 := h.1; omega)]
          exact ⟨h1, by unfold appL; rw [h1]; rfl⟩
        go_wp2
        go_ret2
        exact ⟨.slice none 0 0, [], by rw [HZ.out.1]; rfl, Ms.nil _ _ _, by rw [HZ.out.2]; rfl, bt (al1 _ _) HB.out⟩
      · cases cl with
        | false =>
          have q1 : ¬ (65535 : Int) < (d.length : Int) := by omega
          have q2 : ¬ (n2 : Int) - (fi : Int) < 7 + (d.length : Int) := by omega
          have hapE : lookE m = 0 ∧ d.length ≤ 65535 ∧ (lookC m).fin + 7 + d.length ≤ hf m := ⟨h0, by omega, by rw [← HFI.out, hhf, ← HN2.out]; omega⟩
          have HAE := Lib.hid hapE
          clear hapE
          go_wp2
          obtain ⟨Wc, hWc⟩ : ∃ Zz, Zz = V.alloc (.cells #[.int .i64 (a : Int), .int .u32 (gen : Int), .slice Ar its.length cr, .int .i64 (fi : Int), .bool false] 61) := ⟨_, rfl⟩
          have hbc : Below V.heap.size V Wc := by rw [hWc]; exact al1 _ _
          have k6 : Bk Wc V.heap.size 61 #[.int .i64 (a : Int), .int .u32 (gen : Int), .slice Ar its.length cr, .int .i64 (fi : Int), .bool false] := by rw [hWc]; exact Bk.new _ _ _
          rw [← hWc]
          clear hWc
          replace K2 := Lib.hid (K2.out.next hbc)
          replace HB := Lib.hid (bt hbc HB.out)
          replace HRW := Lib.hid (HRW.out.next hbc)
          have K6 := Lib.hid k6
          have lk6 := k6.lt
          clear c0 c1 hbc k6
          obtain ⟨c0, c1⟩ := box2 K2.out
          obtain ⟨d0, d1, d2, d3, d4⟩ := box5 K6.out
          have hits : its.map (·.2.2) = (lookC m).recs := HMP.out
          have hrl : its.length ≤ 2048 ∧ ∀ dd ∈ (lookC m).recs, dd.length ≤ 2048 := by
            have h9 := scanA_facts HSC.out (by rw [areaB_length m ha]; omega)
            rw [areaB_length m ha] at h9
            have h8 := room_ge l
            have h7 : (lookC m).recs = l := by rw [HCE.out]
            have h6 : its.length = l.length := by rw [← h7, ← hits]; simp
            refine ⟨by have := h9.2.1; have := h9.2.2.2.2; have := HN2.out; omega, fun dd hdd => ?_⟩
            rw [h7] at hdd
            have := h8.2 dd hdd; have := h9.2.1; have := h9.2.2.2.2; have := HN2.out; omega
          obtain ⟨hrl1, hrl2⟩ := hrl
          have HHT := Lib.hid hits
          have HLS := Lib.hid hrl2
          clear hits hrl2
          have hKS : ∀ w', Below Wc.heap.size Wc w' → (w'.cell? ⟨w.heap.size, 0, none⟩ = some (.int .i64 (s : Int)) ∧ w'.cell? ⟨w.heap.size, 1, none⟩ = some (.slice (some ⟨b, o, none⟩) m.2.length c) ∧ w'.cell? ⟨V.heap.size, 2, none⟩ = some (.slice Ar its.length cr)) := fun w' hW => ⟨(box2 (K2.out.next hW)).1, (box2 (K2.out.next hW)).2, (box5 (K6.out.next hW)).2.2.1⟩
          have HKS := Lib.hid hKS
          have hbs := HRW.out.1
          clear hKS d0 d1 d2 d3 d4 c0 c1
          refine region_S (fun w' => (w'.cell? ⟨w.heap.size, 0, none⟩ = some (.int .i64 (s : Int)) ∧ w'.cell? ⟨w.heap.size, 1, none⟩ = some (.slice (some ⟨b, o, none⟩) m.2.length c) ∧ w'.cell? ⟨V.heap.size, 2, none⟩ = some (.slice Ar its.length cr))) 10 (by kernel_rfl) ?_
          obtain ⟨W0, hW0⟩ : ∃ Zz, Zz = Wc.drew := ⟨_, rfl⟩
          have hb0 : Below Wc.heap.size Wc W0 := by rw [hW0]; exact (Below.refl _ Wc).drew
          rw [← hW0]
          clear hW0
          have HS0 := HKS.out _ hb0
          refine anyS_take (i := 0) rfl (by kernel_rfl) (by kernel_rfl) (by kernel_rfl) (by kernel_rfl) (fun _ _ _ h => h) (Or.inl ⟨by rfl, fun w' hS' => (by obtain ⟨s1, s2, s3⟩ := hS'; go_simp; try with_reducible rfl)⟩) HS0 ?_
          refine anyS_take (i := 1) rfl (by kernel_rfl) (by kernel_rfl) (by kernel_rfl) (by kernel_rfl) (fun _ _ _ h => h) (Or.inl ⟨by rfl, fun w' hS' => (by obtain ⟨s1, s2, s3⟩ := hS'; go_simp; try with_reducible rfl)⟩) HS0 ?_
          refine anyS_take (i := 2) rfl (by kernel_rfl) (by kernel_rfl) (by kernel_rfl) (by kernel_rfl) (fun _ _ _ h => h) (Or.inl ⟨by rfl, fun w' hS' => (by obtain ⟨s1, s2, s3⟩ := hS'; go_simp; try with_reducible rfl)⟩) HS0 ?_
          refine anyS_take (i := 3) rfl (by kernel_rfl) (by kernel_rfl) (by kernel_rfl) (by kernel_rfl) (fun _ _ _ h => h) (Or.inl ⟨by rfl, fun w' hS' => (by obtain ⟨s1, s2, s3⟩ := hS'; go_simp; try with_reducible rfl)⟩) HS0 ?_
          refine anyS_one (i := 4) (by kernel_rfl) rfl rfl (fun K hK => ?_)
          go_simp
          obtain ⟨W1, hW1⟩ : ∃ Zz, Zz = W0.alloc (.cells #[.slice Ad d.length cd] 22) := ⟨_, rfl⟩
          have hx : Below W0.heap.size W0 W1 := by rw [hW1]; exact al1 _ _
          have k7 : Bk W1 W0.heap.size 22 #[.slice Ad d.length cd] := by rw [hW1]; exact Bk.new _ _ _
          rw [← hW1]
          clear hW1
          have hb1 := bt hx hb0
          have HR1 := Lib.hid (HRW.out.next hb1)
          have l7 := k7.lt
          have l1 := hb1.size
          have lub : U.heap.size ≤ W1.heap.size := by omega
          refine hK _ _ (fun _ => HKS.out _ hb1) ?_
          clear hK K hx
          refine anyS_one (i := 5) (by kernel_rfl) rfl rfl (fun K hK => ?_)
          refine wp_append_rd _ (.tmp 42) (.tmp 44) _ (by rfl) U.heap.size 22 i1 _ 1 24 Tryz.underlying47 hj hw0 hw1 hw2 rfl (by omega) (.slice Ar its.length cr) its.length (its.map cellB) (by rfl) HR1.out.1 W1.heap.size (some ⟨W0.heap.size, 0, none⟩) 1 1 [.slice Ad d.length cd] (by rfl) (rd_cells (t := 22) k7 l7) (by simp [Value.oneCell']) (by simp only [maxLen]; omega) (by omega) lub ?_
          intro v2 W2 hown2 hg2 hat2
          have hbW2 : Below U.heap.size W1 W2 := (Below.refl _ W1).grown hg2 lub (fun k hk => (own_lt HR1.out.1 hk).1)
          have hbw : Below w.heap.size w W2 := (bt hb1 HB.out).trans (hbW2.mono hUw)
          have kf2 : Bk W2 w.heap.size 24 #[.int .i64 (s : Int), .slice (some ⟨b, o, none⟩) m.2.length c] := (K2.out.next hb1).below hbW2 hkU
          have kc2 : Bk W2 V.heap.size 61 #[.int .i64 (a : Int), .int .u32 (gen : Int), .slice Ar its.length cr, .int .i64 (fi : Int), .bool false] := Bk.grown (K6.out.next hb1) hg2 (own_ne HR1.out.1 (K6.out.next hb1) (by decide))
          obtain ⟨A2, q2', rfl, hq2, hrd2⟩ := HR1.out.with_ (HDD.out.below hbw |>.more hbw.size) hcd hown2 hg2
          rw [HHT.out] at hrd2
          have hlr : (lookC m).recs.length = its.length := by rw [← HHT.out]; simp
          have HRD2 := Lib.hid hrd2
          refine hK _ _ (fun _ => ⟨(box2 kf2).1, (box2 kf2).2, (box5 kc2).2.2.1⟩) ?_
          clear hK K hown2 hg2 hat2 hrd2
          refine anyS_one (i := 6) (by kernel_rfl) rfl rfl (fun K hK => ?_)
          have H9 := Rewrite_any m ((lookC m).recs ++ [d]) (some ⟨b, o, none⟩) A2 c q2' W2 ((HA.out.below hbw).more hbw.size) hc HRD2.out (by simp [hlr]; omega) (by
            intro dd hdd
            rcases List.mem_append.1 hdd with h | h
            · have := HLS.out dd h; omega
            · obtain rfl : dd = d := by simpa using h
              omega)
          rw [HSS.out, List.length_append, hlr] at H9
          simp only [List.length_cons, List.length_nil, Nat.zero_add] at H9
          obtain ⟨er, her⟩ : ∃ er, er = rewE m ((lookC m).recs ++ [d]) := ⟨_, rfl⟩
          rw [← her] at H9
          have HER := Lib.hid her
          have H9H := Lib.hid H9
          have HBW9 := Lib.hid hbw
          have KF2 := Lib.hid kf2
          have KC2 := Lib.hid kc2
          clear her H9 hbw kf2 kc2 hlr k7 hb0 hb1 hbW2
          go_simp
          refine H9H.out.mono ?_
          rintro e W3 ⟨v3, its3, rfl, hm3, hmap3, hb3⟩
          obtain ⟨A3, c3, rfl, _, _⟩ := own_read hm3.1
          have HM3 := Lib.hid hm3
          have HMP3 := Lib.hid hmap3
          have HB3 := Lib.hid (bt hb3 HBW9.out)
          have HS3 : Hid (W3.cell? ⟨w.heap.size, 0, none⟩ = some (.int .i64 (s : Int)) ∧ W3.cell? ⟨w.heap.size, 1, none⟩ = some (.slice (some ⟨b, o, none⟩) m.2.length c) ∧ W3.cell? ⟨V.heap.size, 2, none⟩ = some (.slice Ar its.length cr)) := ⟨(box2 (KF2.out.next hb3)).1, (box2 (KF2.out.next hb3)).2, (box5 (KC2.out.next hb3)).2.2.1⟩
          have lw2 := HBW9.out.size
          go_simp
          refine hK _ _ (fun _ => HS3.out) ?_
          clear hK K hm3 hmap3 hb3 HS0
          have HS4 := HS3.out
          refine anyS_take (i := 7) rfl (by kernel_rfl) (by kernel_rfl) (by kernel_rfl) (by kernel_rfl) (fun _ _ _ h => h) (Or.inl ⟨by rfl, fun w' hS' => (by obtain ⟨s1, s2, s3⟩ := hS'; go_simp; try with_reducible rfl)⟩) HS4 ?_
          refine anyS_take (i := 8) rfl (by kernel_rfl) (by kernel_rfl) (by kernel_rfl) (by kernel_rfl) (fun _ _ _ h => h) (Or.inl ⟨by rfl, fun w' hS' => (by obtain ⟨s1, s2, s3⟩ := hS'; go_simp; try with_reducible rfl)⟩) HS4 ?_
          refine anyS_one (i := 9) (by kernel_rfl) rfl rfl (fun K hK => ?_)
          go_simp
          refine hK _ _ (fun _ => HS4) ?_
          clear hK K
          refine anyS_one (i := 10) (by kernel_rfl) rfl rfl (fun K hK => ?_)
          go_simp
          refine hK _ _ (fun h => absurd rfl h) ?_
          clear hK K
          refine anyS_done (by kernel_rfl) ?_ _
          simp only [normPost]
          have HZ : Hid (appE m d = er ∧ appL m d = rewL m ((lookC m).recs ++ [d])) := by
            have h1 : appE m d = rewE m ((lookC m).recs ++ [d]) := by unfold appE; rw [if_pos HAE.out.1, if_pos HAE.out.2, if_neg (by rw [← HCL.out]; simp)]
            refine ⟨by rw [h1, HER.out], ?_⟩
            unfold appL rewL
            rw [h1]
            split
            · rw [if_neg (by rw [← HCL.out]; simp)]
            · rfl
          clear HS4
          go_wp2
          go_ret2
          exact ⟨_, its3, by rw [HZ.out.1]; rfl, HM3.out.mono lw2, by rw [HZ.out.2]; exact HMP3.out, HB3.out⟩
        | true =>
          have q1 : ¬ (65535 : Int) < (d.length : Int) := by omega
          have q2 : ¬ (n2 : Int) - (fi : Int) < 7 + (d.length : Int) := by omega
          have hapE : lookE m = 0 ∧ d.length ≤ 65535 ∧ (lookC m).fin + 7 + d.length ≤ hf m := ⟨h0, by omega, by rw [← HFI.out, hhf, ← HN2.out]; omega⟩
          have HAE := Lib.hid hapE
          clear hapE
          obtain ⟨h0n, hh0⟩ : ∃ h0n, h0n = a * n2 := ⟨_, rfl⟩
          have hh1 : h0n + n2 ≤ 2 * n2 := by
            rw [hh0]
            have : a * n2 ≤ 1 * n2 := Nat.mul_le_mul_right _ ha
            omega
          obtain ⟨pl, hpl⟩ : ∃ pl, pl = h0n + fi := ⟨_, rfl⟩
          have e3 : (a : Int) * (n2 : Int) = (h0n : Int) := by rw [hh0]; simp
          have e4 : (h0n : Int) + (fi : Int) = (pl : Int) := by omega
          have w3 : IntKind.i64.wrap (h0n : Int) = (h0n : Int) := IntWalk.i64_in _ (by omega)
          have w4 : IntKind.i64.wrap (pl : Int) = (pl : Int) := IntWalk.i64_in _ (by omega)
          have hplb : pl + 7 + d.length ≤ m.2.length := by omega
          have HH0 := Lib.hid hh0
          have HPL := Lib.hid hpl
          clear hh0 hpl
          go_wp2
          obtain ⟨Wc, hWc⟩ : ∃ Zz, Zz = V.alloc (.cells #[.int .i64 (a : Int), .int .u32 (gen : Int), .slice Ar its.length cr, .int .i64 (fi : Int), .bool true] 61) := ⟨_, rfl⟩
          have hbc : Below V.heap.size V Wc := by rw [hWc]; exact al1 _ _
          have k6 : Bk Wc V.heap.size 61 #[.int .i64 (a : Int), .int .u32 (gen : Int), .slice Ar its.length cr, .int .i64 (fi : Int), .bool true] := by rw [hWc]; exact Bk.new _ _ _
          rw [← hWc]
          clear hWc
          replace K2 := Lib.hid (K2.out.next hbc)
          replace HB := Lib.hid (bt hbc HB.out)
          replace HRW := Lib.hid (HRW.out.next hbc)
          have K6 := Lib.hid k6
          have lk6 := k6.lt
          clear c0 c1 hbc k6
          obtain ⟨c0, c1⟩ := box2 K2.out
          obtain ⟨d0, d1, d2, d3, d4⟩ := box5 K6.out
          have hKS : ∀ w', Below Wc.heap.size Wc w' → (w'.cell? ⟨w.heap.size, 0, none⟩ = some (.int .i64 (s : Int)) ∧ w'.cell? ⟨w.heap.size, 1, none⟩ = some (.slice (some ⟨b, o, none⟩) m.2.length c) ∧ w'.cell? ⟨V.heap.size, 0, none⟩ = some (.int .i64 (a : Int)) ∧ w'.cell? ⟨V.heap.size, 3, none⟩ = some (.int .i64 (fi : Int))) := fun w' hW => ⟨(box2 (K2.out.next hW)).1, (box2 (K2.out.next hW)).2, (box5 (K6.out.next hW)).1, (box5 (K6.out.next hW)).2.2.2.1⟩
          have HKS := Lib.hid hKS
          clear hKS d0 d1 d2 d3 d4 c0 c1
          refine region_S (fun w' => w'.cell? ⟨w.heap.size, 0, none⟩ = some (.int .i64 (s : Int)) ∧ w'.cell? ⟨w.heap.size, 1, none⟩ = some (.slice (some ⟨b, o, none⟩) m.2.length c) ∧ w'.cell? ⟨V.heap.size, 0, none⟩ = some (.int .i64 (a : Int)) ∧ w'.cell? ⟨V.heap.size, 3, none⟩ = some (.int .i64 (fi : Int))) 13 (by kernel_rfl) ?_
          obtain ⟨W0, hW0⟩ : ∃ Zz, Zz = Wc.drew := ⟨_, rfl⟩
          have hb0 : Below Wc.heap.size Wc W0 := by rw [hW0]; exact (Below.refl _ Wc).drew
          rw [← hW0]
          clear hW0
          have HS0 := HKS.out _ hb0
          refine anyS_take (i := 0) rfl (by kernel_rfl) (by kernel_rfl) (by kernel_rfl) (by kernel_rfl) (fun _ _ _ h => h) (Or.inl ⟨by rfl, fun w' hS' => (by obtain ⟨s1, s2, s3, s4⟩ := hS'; go_simp; try with_reducible rfl)⟩) HS0 ?_
          refine anyS_take (i := 2) rfl (by kernel_rfl) (by kernel_rfl) (by kernel_rfl) (by kernel_rfl) (fun _ _ _ h => h) (Or.inl ⟨by rfl, fun w' hS' => (by obtain ⟨s1, s2, s3, s4⟩ := hS'; go_simp; try with_reducible rfl)⟩) HS0 ?_
          refine anyS_take (i := 3) rfl (by kernel_rfl) (by kernel_rfl) (by kernel_rfl) (by kernel_rfl) (fun _ _ _ h => h) (Or.inl ⟨by rfl, fun w' hS' => (by obtain ⟨s1, s2, s3, s4⟩ := hS'; go_simp; try with_reducible rfl)⟩) HS0 ?_
          refine anyS_take (i := 4) rfl (by kernel_rfl) (by kernel_rfl) (by kernel_rfl) (by kernel_rfl) (fun _ _ _ h => h) (Or.inl ⟨by rfl, fun w' hS' => (by obtain ⟨s1, s2, s3, s4⟩ := hS'; go_simp; try with_reducible rfl)⟩) HS0 ?_
          refine anyS_take (i := 5) rfl (by kernel_rfl) (by kernel_rfl) (by kernel_rfl) (by kernel_rfl) (fun _ _ _ h => h) (Or.inl ⟨by rfl, fun w' hS' => (by obtain ⟨s1, s2, s3, s4⟩ := hS'; go_simp; try with_reducible rfl)⟩) HS0 ?_
          refine anyS_take (i := 6) rfl (by kernel_rfl) (by kernel_rfl) (by kernel_rfl) (by kernel_rfl) (fun _ _ _ h => h) (Or.inl ⟨by rfl, fun w' hS' => (by obtain ⟨s1, s2, s3, s4⟩ := hS'; go_simp; try with_reducible rfl)⟩) HS0 ?_
          refine anyS_take (i := 7) rfl (by kernel_rfl) (by kernel_rfl) (by kernel_rfl) (by kernel_rfl) (fun _ _ _ h => h) (Or.inl ⟨by rfl, fun w' hS' => (by obtain ⟨s1, s2, s3, s4⟩ := hS'; go_simp; try with_reducible rfl)⟩) HS0 ?_
          refine anyS_take (i := 8) rfl (by kernel_rfl) (by kernel_rfl) (by kernel_rfl) (by kernel_rfl) (fun _ _ _ h => h) (Or.inl ⟨by rfl, fun w' hS' => (by obtain ⟨s1, s2, s3, s4⟩ := hS'; go_simp; try with_reducible rfl)⟩) HS0 ?_
          refine anyS_take (i := 9) rfl (by kernel_rfl) (by kernel_rfl) (by kernel_rfl) (by kernel_rfl) (fun _ _ _ h => h) (Or.inl ⟨by rfl, fun w' hS' => (by obtain ⟨s1, s2, s3, s4⟩ := hS'; go_simp; try with_reducible rfl)⟩) HS0 ?_
          refine anyS_one (i := 1) (by kernel_rfl) rfl rfl (fun K hK => ?_)
          go_simp
          refine (begin_any (s : Int) m.2 _ c W0 ((HA.out.next HB.out).next hb0) (by omega)).mono ?_
          rintro e Wb ⟨sp, x0, rfl, hsp, hst, hx0, hbb⟩
          have hb1 := bt hbb hb0
          have HB1 := Lib.hid hb1
          have HST0 := Lib.hid (⟨hst, hx0⟩ : _ ∧ _)
          have lw0 := hb0.size
          have lwb0 : W0.heap.size ≤ Wb.heap.size := hbb.size
          go_simp
          refine hK _ _ (fun _ => HKS.out _ hb1) ?_
          clear hK K hst hx0 hbb hb1 HS0
          refine anyS_one (i := 10) (by kernel_rfl) rfl rfl (fun K hK => ?_)
          have HPK := Lib.hid (pack_any d Ad cd Wb ((HDD.out.next HB.out).next HB1.out) hcd (by omega))
          go_simp
          refine HPK.out.mono ?_
          rintro e W5 ⟨A3, c3, rfl, hc3, ho3, hb3⟩
          have HO3 := Lib.hid ho3
          have lw5 : Wb.heap.size ≤ W5.heap.size := hb3.size
          have HB5 := Lib.hid (bt hb3 HB1.out)
          have HST5 := Lib.hid (HST0.out.1.next hb3)
          have HS5 := HKS.out _ HB5.out
          go_simp
          refine hK _ _ (fun _ => HS5) ?_
          clear hK K ho3 hb3 HPK HB1
          refine anyS_one (i := 11) (by kernel_rfl) rfl rfl (fun K hK => ?_)
          go_simp
          refine hK _ _ (fun _ => HS5) ?_
          clear hK K
          refine anyS_one (i := 12) (by kernel_rfl) rfl rfl (fun K hK => ?_)
          go_simp
          refine hK _ _ (fun _ => HS5) ?_
          clear hK K
          refine anyS_one (i := 13) (by kernel_rfl) rfl rfl (fun K hK => ?_)
          go_simp
          refine hK _ _ (fun h => absurd rfl h) ?_
          clear hK K
          refine anyS_done (by kernel_rfl) ?_ _
          simp only [normPost]
          clear HS5
          have hx0 : x0.2.2 = m.2 := HST0.out.2
          have hx0l : x0.2.2.length = m.2.length := by rw [hx0]
          obtain ⟨A3', c3', e3', _, hr3⟩ := own_read HO3.out
          have ea : A3 = A3' ∧ c3 = c3' := by simpa using e3'
          obtain ⟨g3, o3, hA3, hg3, _⟩ := hr3.2 (by omega)
          rw [← ea.1] at hA3
          subst hA3
          have hcut := RdS.cut hr3 (k := 1) (cap := c3) (by omega) (by omega)
          have hne : ¬ c3 = 1 := by omega
          rw [if_neg hne, ← ea.1] at hcut
          obtain ⟨tl, htl⟩ : ∃ tl, tl = (recL d).tail := ⟨_, rfl⟩
          have htll : tl.length = 6 + d.length := by rw [htl, List.length_tail, recL_length]; omega
          have HRT : Hid (RdB W5 W5.heap.size (some ⟨g3, o3 + 1, none⟩) tl) := by
            show RdS _ _ _ _ _ _
            have h9 := hcut
            rw [show 7 + d.length - 1 = tl.length by omega] at h9
            rw [show (u8s (recL d)).drop (1 * 1) = u8s tl by rw [htl]; simp [u8s, List.drop_one, List.map_tail]] at h9
            simpa [Addr.add] using h9
          have HTL := Lib.hid htl
          have HTLL := Lib.hid htll
          have H6 := st_program W0.heap.size sp (s : Int) [] x0 (pl + 1) tl (some ⟨g3, o3 + 1, none⟩) (c3 - 1) W5 HST5.out hsp (by rw [hx0l, ← HSS.out]; exact HV2.out) HRT.out (by rw [hx0l]; omega) (by omega) (by simp)
          rw [Int.natCast_succ, htll] at H6
          have H6H := Lib.hid H6
          have j1 : (1 : Int) ≤ 7 + (d.length : Int) := by omega
          have j2 : (7 : Int) + (d.length : Int) ≤ (c3 : Int) := by omega
          have j3 : (1 : Int) ≤ (c3 : Int) := by omega
          have j4 : 7 + d.length - 1 = 6 + d.length := by omega
          clear H6 htl htll hcut hr3 e3' ea HST0
          go_wp2_with fail
          refine H6H.out.mono ?_
          rintro e W6 ⟨⟨u6, rfl⟩, ⟨l6, hlm6, hst6⟩, ht6⟩
          rw [← HTLL.out] at hlm6
          have hll6 : l6.length = tl.length := by have := congrArg List.length hlm6; simpa [memos_length] using this
          have hlx6 : ∀ y ∈ l6, y.2.2.length = m.2.length := by
            intro y hy
            have : y.2.2 ∈ l6.map (·.2.2) := List.mem_map.2 ⟨y, hy, rfl⟩
            rw [hlm6] at this
            have := List.mem_of_mem_drop this
            obtain ⟨r, _, hr⟩ := List.mem_map.1 this
            rw [← hr, memo_length]; exact hx0l
          have hadd6 : (([] : List Itm) ++ [x0] ++ l6).map (·.2.2) = addB ((([] : List Itm) ++ [x0]).map (·.2.2)) (andF tl) (pl + 1) tl.length := add_map [] x0 l6 _ _ _ hlm6
          have hO6 : W6.ownsRow Wb.heap.size 5 1 (.slice (some ⟨g3, o3, none⟩) (7 + d.length) c3) (7 + d.length) (u8s (recL d)) := by
            obtain ⟨v9, hk9, _⟩ := HST5.out
            exact ht6.own hk9 HO3.out (by decide) (by decide)
          have l5 := HB5.out.size
          have lw6 : W5.heap.size ≤ W6.heap.size := ht6.size
          have HB6 := Lib.hid (HB5.out.trans ((ht6.below hsp (by omega)).mono lw0))
          have l6s := HB6.out.size
          have hl6 : l6.length = 6 + d.length := by rw [hll6, HTLL.out]
          obtain ⟨p6, x6, rfl⟩ : ∃ p6 x6, l6 = p6 ++ [x6] := by
            have hne6 : l6 ≠ [] := by intro e; rw [e] at hl6; simp at hl6; omega
            exact ⟨l6.dropLast, l6.getLast hne6, (List.dropLast_concat_getLast hne6).symm⟩
          have hx6 : x6.2.2.length = m.2.length := hlx6 x6 (by simp)
          rw [← List.append_assoc] at hst6 hadd6
          have hpl6 : ([] ++ [x0] ++ p6).length ≤ 100000 := by
            simp at hl6 ⊢
            omega
          have HR6 : Hid (RdB W6 W6.heap.size (some ⟨g3, o3, none⟩) [80]) := by
            obtain ⟨A9, c9, e9, _, hr9⟩ := own_read hO6
            have ea9 : (some ⟨g3, o3, none⟩ : Option Addr) = A9 ∧ c3 = c9 := by simpa using e9
            have h9 := RdS.head_ hr9 (k := 1) (by omega)
            show RdS _ _ _ _ _ _
            rw [← ea9.1] at h9
            have e8 : (u8s (recL d)).take (1 * 1) = u8s [80] := by simp [recL, u8s, u8]
            rw [e8] at h9
            exact h9
          have H7 := st_program W0.heap.size sp (s : Int) ([] ++ [x0] ++ p6) x6 pl [80] (some ⟨g3, o3, none⟩) c3 W6 hst6 hsp (by rw [hx6, ← HSS.out]; exact HV2.out) HR6.out (by rw [hx6]; simp; omega) (by simp) hpl6
          have H7H := Lib.hid H7
          have HA6 := Lib.hid hadd6
          clear H7 hst6 hadd6 hlx6 hll6 hl6 hlm6 ht6 hO6 H6H HR6 HRT HO3 HST5
          go_wp2_with fail
          refine H7H.out.mono ?_
          rintro e W7 ⟨⟨u7, rfl⟩, ⟨l7, hlm7, hst7⟩, ht7⟩
          have HB7 := Lib.hid (HB6.out.trans ((ht7.below hsp (by omega)).mono lw0))
          have hadd7 : (([] : List Itm) ++ [x0] ++ p6 ++ [x6] ++ l7).map (·.2.2) = addB ((([] : List Itm) ++ [x0] ++ p6 ++ [x6]).map (·.2.2)) (andF [80]) pl 1 := add_map _ x6 l7 _ _ _ hlm7
          have HS7 := Lib.hid hst7
          have HA7 := Lib.hid hadd7
          clear hst7 hadd7 hlm7 ht7 H7H
          go_wp2_with fail
          refine (result_any _ sp (s : Int) _ W7 HS7.out).mono ?_
          rintro e _ ⟨v9, rfl, hm9, rfl⟩
          obtain ⟨A9, c9, rfl, _, _⟩ := own_read hm9.1
          obtain ⟨nn, hnn⟩ : ∃ nn, nn = ([] ++ [x0] ++ p6 ++ [x6] ++ l7).length := ⟨_, rfl⟩
          rw [← hnn] at hm9 ⊢
          clear hnn
          have HM9 := Lib.hid hm9
          have HZ : Hid (appE m d = 0 ∧ appL m d = appB m d) := by
            have h1 : appE m d = 0 := by unfold appE; rw [if_pos HAE.out.1, if_pos HAE.out.2, if_pos HCL.out.symm]
            exact ⟨h1, by unfold appL; rw [if_pos h1, if_pos HCL.out.symm]⟩
          have lwb := HB.out.size
          clear hm9
          go_wp2
          go_ret2
          refine ⟨_, _, ?_, HM9.out.mono (by omega), ?_, bt HB7.out HB.out⟩
          · rw [HZ.out.1]; rfl
          · rw [HZ.out.2, HA7.out, HA6.out]
            have f1 : (lookC m).area * hf m + (lookC m).fin = pl := by rw [HGA.out, ← HFI.out, hhf, ← HN2.out, ← HH0.out, ← HPL.out]
            unfold appB
            rw [f1, ← HTL.out, HTLL.out]
            simp [hx0]
  · go_enter Tryz.func18, Tryz.ntmps18
    go_wp2_with fail
    obtain ⟨U, hU⟩ : ∃ Zz, Zz = w.alloc (.cells #[.int .i64 m.1, .slice A m.2.length c] 24) := ⟨_, rfl⟩
    have hb1 : Below w.heap.size w U := by rw [hU]; exact al1 _ _
    have k2 : Bk U w.heap.size 24 #[.int .i64 m.1, .slice A m.2.length c] := by rw [hU]; exact Bk.new _ _ _
    rw [← hU]
    clear hU
    refine (look_any m A c _ (HA.out.next hb1) hc).mono ?_
    rintro e V ⟨v, its, rfl, hrw, hmap, hbV⟩
    obtain ⟨Ar, cr, rfl, hcr, _⟩ := own_read hrw.1
    have K2 := Lib.hid (k2.next hbV)
    have HB := Lib.hid (bt hbV hb1)
    have HRW := Lib.hid hrw
    have HMP := Lib.hid hmap
    have hUw := hb1.size
    have hkU : w.heap.size < U.heap.size := k2.lt
    have hUV := hbV.size
    clear hrw hmap hbV hb1 k2
    have e0 : (lookE m != 0) = true := by simp [h0]
    have HZ : Hid (appE m d = lookE m ∧ appL m d = []) := by
      have h1 : appE m d = lookE m := by unfold appE; rw [if_neg h0]
      exact ⟨h1, by unfold appL; rw [h1, if_neg h0]⟩
    obtain ⟨c0, c1⟩ := box2 K2.out
    go_wp2
    go_ret2
    exact ⟨.slice none 0 0, [], by rw [HZ.out.1]; rfl, Ms.nil _ _ _, by rw [HZ.out.2]; rfl, bt (al1 _ _) HB.out⟩
end Go.Proofs.YthebojaminploaaGreatDoor
