/- The law JournalRewrites, walked. -/
import Derived.Test.YtkeghidlolidmaaJRw
import Derived.Test.YtkeghidlolidmaaJwc
import Derived.Test.YtkeghidlolidmaaJwd
set_option maxRecDepth 100000
set_option linter.unusedVariables false
set_option linter.unusedSimpArgs false
namespace Go.Proofs.Ytkeghidlolidmaa
open Go.RowKit Go.Sort Go.Shelf

theorem at_getD {w : World} {B : Nat} {A : Option Addr} {bs : List UInt8} (h : RdB w B A bs) {k : Nat} (hk : k < bs.length) : ∃ b o, A = some ⟨b, o, none⟩ ∧ b < B ∧ w.cell? ⟨b, o + k, none⟩ = some (.int .u8 ((bs.getD k 0).toNat : Int)) := by
  obtain ⟨b, o, e, hb, z⟩ := h.at_ hk
  refine ⟨b, o, e, hb, ?_⟩
  rw [z, List.getD_eq_getElem?_getD, List.getElem?_eq_getElem hk]; rfl

set_option maxHeartbeats 4000000 in
theorem JournalRewrites_walk (m : Mem) (d : Rec) (keep : List Rec) (A Ad Ak : Option Addr) (c cd ck : Nat) (w : World) (hA : RdB w w.heap.size A m.2) (hc : m.2.length ≤ c) (hD : RdB w w.heap.size Ad d) (hcd : d.length ≤ cd) (hK : RdBs w w.heap.size Ak keep) (hk2 : ∀ d ∈ keep, d.length ≤ 9223372036854775807) (hkl : keep.length ≤ 9223372036854775807) :
    Calls Try.prog 7 #[.agg #[.int .i64 m.1, .slice A m.2.length c], .slice Ad d.length cd, .slice Ak keep.length ck] w fun e w' => e = .returned (.bool true) ∧ Below w.heap.size w w' := by
  have HB := Lib.hid (Below.refl w.heap.size w)
  have F_m := Lib.hid hA
  have F_d := Lib.hid hD
  have F_k := Lib.hid hK
  clear hA hD hK
  go_enter Try.func7, Try.ntmps7
  go_wp2_with fail
  refine (head_any _).mono ?_
  rintro e V1 ⟨rfl, hb⟩
  have hB := bt hb (al1 w _)
  have K_f : Hid (Bk V1 (w.heap.size) 24 #[.int .i64 m.1, .slice A m.2.length c]) := Bk.next (by first | exact Bk.new _ _ _ | exact (Bk.new _ _ _).alloc _ | exact ((Bk.new _ _ _).alloc _).alloc _ | exact bkOf (by simp [at?_alloc])) hb
  replace F_m := Lib.hid (F_m.out.next hB)
  replace F_d := Lib.hid (F_d.out.next hB)
  replace F_k := Lib.hid (F_k.out.next hB)
  replace HB := Lib.hid (bt hB HB.out)
  clear hb hB
  by_cases hfew : m.2.length ≤ 600 ∧ d.length ≤ 700
  · obtain ⟨c_f0, c_f1⟩ := box2 K_f.out
    have l_f := K_f.out.lt
    go_wp2_with fail
    clear c_f0 c_f1 l_f
    refine (few_lit true m d A Ad c cd _ (decide_eq_true hfew)).mono ?_
    rintro e V2 ⟨rfl, hb⟩
    have hB := hb
    replace F_m := Lib.hid (F_m.out.next hB)
    replace F_d := Lib.hid (F_d.out.next hB)
    replace F_k := Lib.hid (F_k.out.next hB)
    replace K_f := Lib.hid (K_f.out.next hB)
    replace HB := Lib.hid (bt hB HB.out)
    clear hb hB
    by_cases h40 : 40 < keep.length
    · have q40 : (40 : Int) < (keep.length : Int) := by omega
      obtain ⟨c_f0, c_f1⟩ := box2 K_f.out
      have l_f := K_f.out.lt
      go_wp2
      go_ret
      exact ⟨rfl, HB.out⟩
    · have q40 : ¬ (40 : Int) < (keep.length : Int) := by omega
      obtain ⟨c_f0, c_f1⟩ := box2 K_f.out
      have l_f := K_f.out.lt
      go_wp2_with fail
      clear c_f0 c_f1 l_f
      refine (Room_b keep Ak ck _ F_k.out (by omega)).mono ?_
      rintro e V3 ⟨rr, rfl, hrr, hb⟩
      have hB := hb
      replace F_m := Lib.hid (F_m.out.next hB)
      replace F_d := Lib.hid (F_d.out.next hB)
      replace F_k := Lib.hid (F_k.out.next hB)
      replace K_f := Lib.hid (K_f.out.next hB)
      replace HB := Lib.hid (bt hB HB.out)
      clear hb hB
      by_cases hr : (1000 : Int) < rr
      · have qr : (1000 : Int) < rr := hr
        obtain ⟨c_f0, c_f1⟩ := box2 K_f.out
        have l_f := K_f.out.lt
        go_wp2
        go_ret
        exact ⟨rfl, HB.out⟩
      · have qr : ¬ (1000 : Int) < rr := hr
        clear hr
        obtain ⟨g2, hg2⟩ : ∃ g2, rewE m keep = g2 := ⟨_, rfl⟩
        have HG2 := Lib.hid hg2
        obtain ⟨mb, hmb⟩ : ∃ mb, jvB m.1 m.2.length = mb := ⟨_, rfl⟩
        have HMB := Lib.hid hmb
        clear hg2 hmb
        by_cases h2 : g2 = 0
        · have h0 : lookE m = 0 := by
            have h9 := HG2.out
            rw [h2] at h9
            unfold rewE at h9
            split at h9
            · assumption
            · exact h9
          obtain ⟨a, l, en, hJ⟩ := Jr.of h0
          have ha := hJ.facts.1
          have h32 := jv_len hJ.1
          have h4k := jv_max hJ.1
          obtain ⟨b, o, rfl, hbb, _⟩ := F_m.out.addr (by omega)
          obtain ⟨hrf, _, F, z, hS, hFa, hza⟩ := rew_steps h0 keep (by rw [HG2.out]; exact h2)
          have hks := keep_small h0 hrf
          obtain rfl : mb = true := by rw [← HMB.out]; exact hJ.1
          have HJ := Lib.hid hJ
          have hla : (lookC m).area = a := by rw [hJ.look.2]
          rw [hla] at hFa hza
          obtain ⟨f1, hf1⟩ : ∃ f1, F.length = f1 + 1 := ⟨F.length - 1, by have := hS.ne; have : F.length ≠ 0 := fun e => this (List.length_eq_zero_iff.1 e); omega⟩
          have hLn : (rewM m keep).length = f1 + 1 + 1 := by unfold rewM; rw [List.length_map, hS.split, List.length_append, hf1]; rfl
          obtain ⟨H, hH⟩ : ∃ H, H = m.2.length / 2 := ⟨_, rfl⟩
          have HH := Lib.hid hH
          have hHb : 16 ≤ H ∧ H ≤ 2048 := by omega
          clear hH
          have hf1b : f1 ≤ 100000 := by have := hS.len; omega
          -- the memories, one by one
          have hmem : ∀ i, i < f1 + 2 → ∃ x, (rewM m keep)[i]? = some (mk m x) ∧ x.length = m.2.length ∧ areaB (mk m x) a = areaB m a ∧ x = (rewL m keep).getD i [] := by
            intro i hi
            have hil : i < (rewL m keep).length := by rw [hS.split, List.length_append, hf1]; simpa using hi
            refine ⟨(rewL m keep)[i], ?_, ?_⟩
            · unfold rewM; rw [List.getElem?_map, List.getElem?_eq_getElem hil]; rfl
            · have hm9 : (rewL m keep)[i] ∈ F ++ [z] := by rw [← hS.split]; exact List.getElem_mem hil
              have he9 : (rewL m keep)[i] = (rewL m keep).getD i [] := by rw [List.getD_eq_getElem?_getD, List.getElem?_eq_getElem hil]; rfl
              rcases List.mem_append.1 hm9 with h9 | h9
              · exact ⟨(hS.mid _ h9).1, hFa _ h9, he9⟩
              · obtain h8 : (rewL m keep)[i] = z := by simpa using h9
                rw [h8]
                exact ⟨hS.zlen, hza, by rw [← h8]; exact he9⟩
          have hch : Chn (rewL m keep) := by
            have h9 : rewL m keep = rewB m keep := by unfold rewL; rw [if_pos (by rw [HG2.out]; exact h2)]
            rw [h9]; exact chn_rew m keep
          have hzz : (rewM m keep)[f1 + 1]? = some (mk m z) := by
            unfold rewM
            rw [List.getElem?_map, hS.split, ← hf1, List.getElem?_append_right (Nat.le_refl _), Nat.sub_self]; rfl
          have HZZ := Lib.hid hzz
          have HZL := Lib.hid hS.zlen
          have HCJ : Hid (Cj (mk m z) keep) := ⟨hS.zok, hS.zrecs, hS.zfin, hS.zclean⟩
          clear hzz
          have HMEM := Lib.hid hmem
          have HCH := Lib.hid hch
          have HS := Lib.hid hS
          have HLN := Lib.hid hLn
          have HRF := Lib.hid hrf
          clear hJ hla hFa hza hmem hch hS hLn hrf hf1
          subst h2
          obtain ⟨c_f0, c_f1⟩ := box2 K_f.out
          have l_f := K_f.out.lt
          go_wp2_with fail
          clear c_f0 c_f1 l_f
          refine (Rewrite_lit (f1 + 1 + 1) 0 keep.length m keep (some ⟨b, o, none⟩) Ak c ck _ HLN.out HG2.out rfl F_m.out hc F_k.out (by omega) hk2).mono ?_
          rintro e V4 ⟨A6, c6, rfl, hc6, r6, hb⟩
          have hB := hb
          replace F_m := Lib.hid (F_m.out.next hB)
          replace F_d := Lib.hid (F_d.out.next hB)
          replace F_k := Lib.hid (F_k.out.next hB)
          replace K_f := Lib.hid (K_f.out.next hB)
          replace HB := Lib.hid (bt hB HB.out)
          clear hb hB
          have F_6 := Lib.hid (r6)
          clear r6
          obtain ⟨c_f0, c_f1⟩ := box2 K_f.out
          have l_f := K_f.out.lt
          go_wp2_with fail
          clear c_f0 c_f1 l_f
          refine (Memory_lit true m.1 (some ⟨b, o, none⟩) m.2.length c _ HMB.out).mono ?_
          rintro e V5 ⟨rfl, hb⟩
          have hB := hb
          replace F_m := Lib.hid (F_m.out.next hB)
          replace F_d := Lib.hid (F_d.out.next hB)
          replace F_k := Lib.hid (F_k.out.next hB)
          replace F_6 := Lib.hid (F_6.out.next hB)
          replace K_f := Lib.hid (K_f.out.next hB)
          replace HB := Lib.hid (bt hB HB.out)
          clear hb hB
          have q5 : (((f1 : Int) + 1 + 1) == 0) = false := by rw [beq_eq_false_iff_ne]; omega
          have HCA : Hid (∀ W, RdB W W.heap.size (some ⟨b, o, none⟩) m.2 → Calls Try.prog 28 #[.agg #[.int .i64 m.1, .slice (some ⟨b, o, none⟩) m.2.length c]] W fun e w' => e = .returned (.int .i64 (a : Int)) ∧ Below W.heap.size W w') := fun W hW => by
            have h9 := Area_any m b o c W h32 h4k hc hW
            have e9 : areaI m = (a : Int) := by unfold areaI; rw [HJ.out.2.1]
            rw [e9] at h9
            exact h9
          obtain ⟨c_f0, c_f1⟩ := box2 K_f.out
          have l_f := K_f.out.lt
          go_wp2_with fail
          clear c_f0 c_f1 l_f
          refine (HCA.out _ F_m.out).mono ?_
          rintro e V6 ⟨rfl, hb⟩
          have hB := hb
          replace F_m := Lib.hid (F_m.out.next hB)
          replace F_d := Lib.hid (F_d.out.next hB)
          replace F_k := Lib.hid (F_k.out.next hB)
          replace F_6 := Lib.hid (F_6.out.next hB)
          replace K_f := Lib.hid (K_f.out.next hB)
          replace HB := Lib.hid (bt hB HB.out)
          clear hb hB
          clear HCA
          obtain ⟨c_f0, c_f1⟩ := box2 K_f.out
          have l_f := K_f.out.lt
          go_wp2
          clear c_f0 c_f1 l_f
          go_loopw [7, 12] (fun up i wr => ∃ k : Nat, up = .bool true ∧ i = .int .i64 (k : Int) ∧ k ≤ f1 + 1 + 1 ∧ Below V6.heap.size V6 wr) (fun _ i _ => f1 + 1 + 1 - (intOf i).toNat)
          case atStart => exact ⟨0, rfl, rfl, Nat.zero_le _, Below.refl _ _⟩
          case round =>
            obtain ⟨k, rfl, rfl, hk, hb⟩ := hrel
            by_cases hlt : k < f1 + 1 + 1
            · obtain ⟨x, hx1, hx2, hx3, hx4⟩ := HMEM.out k (by omega)
              obtain ⟨bL, oL, Ai, ci, hAe, hbL, y0, y1, hci, hri⟩ := flash_at (F_6.out.next hb) hx1
              subst hAe
              rw [show (mk m x).2.length = m.2.length from hx2] at y1 hci
              obtain ⟨c_f0, c_f1⟩ := box2 (K_f.out.next hb)
              have k1 : (0 : Int) ≤ (k : Int) := by omega
              have k2 : (k : Int) < (f1 : Int) + 1 + 1 := by omega
              have HB4 := Lib.hid hb
              have HRI := Lib.hid hri
              have HX := Lib.hid (⟨hx1, hx2, hx3, hx4⟩ : _ ∧ _ ∧ _ ∧ _)
              have en : ((m.2.length : Int) != (m.2.length : Int)) = false := by simp
              clear hx1 hx2 hx3 hx4 hri hb
              go_wp2
              have Rc_f1 := cell_regrown c_f1
              have Ry1 := cell_regrown y1
              refine wp_region_quiet_below (by kernel_rfl) (by kernel_rfl) ?_
              repeat (first | go_big_quiet_step (fail) | quiet_step (fail))
              refine wpQuiet_nil ?_
              intro _ hw'
              obtain ⟨⟨dq, osq⟩, hw''⟩ := hw'
              subst hw''
              obtain ⟨V13, hV13⟩ : ∃ V, V = grow (redrawn wr dq) osq := ⟨_, rfl⟩
              have hbV13 : Below wr.heap.size wr V13 := by rw [hV13]; exact below_regrown _ _ _
              rw [← hV13]
              clear hV13
              clear Rc_f1
              clear Ry1
              clear c_f0 c_f1 y0 y1
              have HV13 := Lib.hid (bt hbV13 HB4.out)
              rcases Nat.eq_zero_or_pos k with hk0 | hk0
              · have HK0 := Lib.hid hk0
                clear hk0
                obtain ⟨c_f0, c_f1⟩ := box2 (K_f.out.next HV13.out)
                go_wp2
                go_loopw [13, 14] (fun df jj w4 => ∃ j : Nat, df = .int .i64 0 ∧ jj = .int .i64 (j : Int) ∧ j ≤ m.2.length ∧ Below V13.heap.size V13 w4) (fun _ jj _ => m.2.length - (intOf jj).toNat)
                case atStart => exact ⟨0, rfl, rfl, Nat.zero_le _, Below.refl _ _⟩
                case round =>
                  obtain ⟨j, rfl, rfl, hj, hb4⟩ := hrel
                  by_cases hjl : j < m.2.length
                  · obtain ⟨c_f0, c_f1⟩ := box2 (K_f.out.next (bt hb4 HV13.out))
                    have j1 : (0 : Int) ≤ (j : Int) := by omega
                    have j2 : (j : Int) < (m.2.length : Int) := by omega
                    have k4 : (k : Int) < (f1 : Int) + 1 + 1 := by omega
                    have k5 : (0 : Int) ≤ (k : Int) := by omega
                    obtain ⟨bL2, oL2, Ax, cx, e2, hbL2, y0, y1, hcx, hrx⟩ := flash_at (F_6.out.next (bt hb4 HV13.out)) HX.out.1
                    obtain ⟨rfl, rfl⟩ : bL = bL2 ∧ oL = oL2 := by simpa using e2
                    rw [show (mk m x).2.length = m.2.length from HX.out.2.1] at y1 hcx
                    obtain ⟨bx, ox, ex, hbx, zx⟩ := at_getD (bs := x) (k := j) hrx (by rw [HX.out.2.1]; exact hjl)
                    subst ex
                    obtain ⟨vx, hvx⟩ : ∃ v, v = x.getD j 0 := ⟨_, rfl⟩
                    rw [← hvx] at zx
                    obtain ⟨bf, of, ef, hbf, zf⟩ := at_getD (F_m.out.next (bt hb4 HV13.out)) hjl
                    obtain ⟨rfl, rfl⟩ : b = bf ∧ o = of := by simpa using ef
                    obtain ⟨vf, hvf⟩ : ∃ v, v = m.2.getD j 0 := ⟨_, rfl⟩
                    rw [← hvf] at zf
                    have HVX := Lib.hid hvx
                    have HVF := Lib.hid hvf
                    clear hvx hvf hrx e2 ef hbx hbf hbL2
                    have kz : decide ((0 : Int) < (k : Int)) = false := by have := HK0.out; simp; omega
                    have kz2 : decide (0 < k) = false := by have := HK0.out; simp; omega
                    go_wp2
                    refine wp_region_quiet_below (by kernel_rfl) (by kernel_rfl) ?_
                    repeat (first | go_big_quiet_step (fail) | quiet_step (fail))
                    refine wpQuiet_nil ?_
                    intro _ hw'
                    obtain ⟨⟨dq, osq⟩, hw''⟩ := hw'
                    subst hw''
                    obtain ⟨Va, hVa⟩ : ∃ V, V = grow (redrawn wr dq) osq := ⟨_, rfl⟩
                    have hbVa : Below wr.heap.size wr Va := by rw [hVa]; exact below_regrown _ _ _
                    rw [← hVa]
                    clear hVa
                    have HW4 : Hid (Below V13.heap.size V13 Va) := bt hbVa hb4
                    clear hbVa hb4 c_f0 c_f1 y0 y1 zx zf
                    obtain ⟨bL2, oL2, Ax2, cx2, e2, hbL2, y0, y1, hcx2, hrx⟩ := flash_at (F_6.out.next (bt HW4.out HV13.out)) HX.out.1
                    obtain ⟨rfl, rfl⟩ : bL = bL2 ∧ oL = oL2 := by simpa using e2
                    rw [show (mk m x).2.length = m.2.length from HX.out.2.1] at y1 hcx2
                    obtain ⟨bx2, ox2, ex, hbx, zx⟩ := at_getD (bs := x) (k := j) hrx (by rw [HX.out.2.1]; exact hjl)
                    subst ex
                    rw [← HVX.out] at zx
                    obtain ⟨bf, of, ef, hbf, zf⟩ := at_getD (F_m.out.next (bt HW4.out HV13.out)) hjl
                    obtain ⟨rfl, rfl⟩ : b = bf ∧ o = of := by simpa using ef
                    rw [← HVF.out] at zf
                    clear hrx e2 ef hbx hbf hbL2
                    obtain ⟨c_f0, c_f1⟩ := box2 (K_f.out.next (bt HW4.out HV13.out))
                    have HHC : Hid (∀ W, Calls Try.prog 30 #[.agg #[.int .i64 m.1, .slice (some ⟨b, o, none⟩) m.2.length c]] W fun e w' => e = .returned (.int .i64 (H : Int)) ∧ Below W.heap.size W w') := fun W => by rw [HH.out]; exact Half_any m.1 _ m.2.length c W (by omega)
                    obtain ⟨q, hq⟩ : ∃ q, q = j / H := ⟨_, rfl⟩
                    have hqI : (j : Int) / (H : Int) = (q : Int) := by rw [hq]; simp
                    have hqT : Int.tdiv (j : Int) (H : Int) = (q : Int) := by rw [Int.tdiv_eq_ediv_of_nonneg (by omega)]; exact hqI
                    have hH1 : ¬ (H : Int) = 0 := by omega
                    have hH2 : ((H : Int) == 0) = false := by rw [beq_eq_false_iff_ne]; exact hH1
                    have hqb : q ≤ j := by rw [hq]; exact Nat.div_le_self _ _
                    have wq : IntKind.i64.wrap (q : Int) = (q : Int) := IntWalk.i64_in _ (by omega)
                    have HQ := Lib.hid hq
                    clear hq
                    by_cases hqa : q = a
                    · have h7 : vx = vf := by
                        rw [HVX.out, HVF.out]
                        have e1 : hf (mk m x) = H := by rw [hf_mk m HX.out.2.1, HH.out]; rfl
                        have e2 : hf m = H := by rw [HH.out]; rfl
                        have hjq : j = a * H + j % H := by rw [← hqa, HQ.out, Nat.mul_comm]; exact (Nat.div_add_mod j H).symm
                        have hjm : j % H < H := Nat.mod_lt _ (by omega)
                        have h8 := area_getD' (mk m x) (a := a) (j := j % H) (by rw [e1]; exact hjm)
                        have h9 := area_getD' m (a := a) (j := j % H) (by rw [e2]; exact hjm)
                        rw [e1, ← hjq] at h8
                        rw [e2, ← hjq] at h9
                        show (mk m x).2.getD j 0 = _
                        rw [← h8, ← h9, HX.out.2.2.1]
                      have q7 : ((vx.toNat : Int) != (vf.toNat : Int)) = false := by simp [h7]
                      have q8 : ((q : Int) == (a : Int)) = true := by simp [hqa]
                      clear h7 hqa
                      go_wp2
                      have Rc_f0 := cell_regrown c_f0
                      have Rc_f1 := cell_regrown c_f1
                      have Ry1 := cell_regrown y1
                      have Rzx := cell_regrown zx
                      have Rzf := cell_regrown zf
                      have CH := fun (d : Nat) (os : Array Obj) => Calls.regrown_of (HHC.out (grow (redrawn Va d) os))
                      refine wp_region_quiet_below (by kernel_rfl) (by kernel_rfl) ?_
                      repeat (first | go_big_quiet_step (first | (with_reducible exact CH _ _)) | quiet_step (first | (with_reducible exact CH _ _)))
                      refine wpQuiet_nil ?_
                      intro _ hw'
                      obtain ⟨⟨dq, osq⟩, hw''⟩ := hw'
                      subst hw''
                      obtain ⟨Vb, hVb⟩ : ∃ V, V = grow (redrawn Va dq) osq := ⟨_, rfl⟩
                      have hbVb : Below Va.heap.size Va Vb := by rw [hVb]; exact below_regrown _ _ _
                      rw [← hVb]
                      clear hVb
                      clear Rc_f0
                      clear Rc_f1
                      clear Ry1
                      clear Rzx
                      clear Rzf
                      clear CH
                      have HB9 := Lib.hid (bt hbVb HW4.out)
                      clear hbVb c_f0 c_f1 y0 y1 zx zf
                      go_wp2
                      go_roundw
                      case rel => exact ⟨j + 1, rfl, by go_num, by omega, HB9.out⟩
                      case measure => first | (simp [intOf]; done) | (simp [intOf]; omega)
                    · have q8 : ((q : Int) == (a : Int)) = false := by rw [beq_eq_false_iff_ne]; omega
                      clear hqa
                      go_wp2
                      have Rc_f0 := cell_regrown c_f0
                      have Rc_f1 := cell_regrown c_f1
                      have CH := fun (d : Nat) (os : Array Obj) => Calls.regrown_of (HHC.out (grow (redrawn Va d) os))
                      refine wp_region_quiet_below (by kernel_rfl) (by kernel_rfl) ?_
                      repeat (first | go_big_quiet_step (first | (with_reducible exact CH _ _)) | quiet_step (first | (with_reducible exact CH _ _)))
                      refine wpQuiet_nil ?_
                      intro _ hw'
                      obtain ⟨⟨dq, osq⟩, hw''⟩ := hw'
                      subst hw''
                      obtain ⟨Vb, hVb⟩ : ∃ V, V = grow (redrawn Va dq) osq := ⟨_, rfl⟩
                      have hbVb : Below Va.heap.size Va Vb := by rw [hVb]; exact below_regrown _ _ _
                      rw [← hVb]
                      clear hVb
                      clear Rc_f0
                      clear Rc_f1
                      clear CH
                      have HB9 := Lib.hid (bt hbVb HW4.out)
                      clear hbVb c_f0 c_f1 y0 y1 zx zf
                      go_wp2
                      go_roundw
                      case rel => exact ⟨j + 1, rfl, by go_num, by omega, HB9.out⟩
                      case measure => first | (simp [intOf]; done) | (simp [intOf]; omega)
                  · obtain rfl : j = m.2.length := by omega
                    have q9 : ¬ ((m.2.length : Int) < (m.2.length : Int)) := by omega
                    obtain ⟨c_f0, c_f1⟩ := box2 (K_f.out.next (bt hb4 HV13.out))
                    have HB9 := Lib.hid (bt hb4 HV13.out)
                    have qd : (0 : Int) ≤ 1 := by omega
                    clear hb4
                    go_wp2
                    go_roundw
                    case rel => exact ⟨k + 1, rfl, by go_num, by omega, HB9.out⟩
                    case measure => first | (simp [intOf]; done) | (simp [intOf]; omega)
              · obtain ⟨xp, hp1, hp2, hp3, hp4⟩ := HMEM.out (k - 1) (by omega)
                have HNE : Hid (Near xp x) := by
                  have h9 := HCH.out (k - 1) (by have := HLN.out; unfold rewM at this; rw [List.length_map] at this; omega)
                  rw [show k - 1 + 1 = k by omega, ← hp4, ← HX.out.2.2.2] at h9
                  exact h9
                have HP := Lib.hid (⟨hp1, hp2⟩ : _ ∧ _)
                obtain ⟨kp, hkp⟩ : ∃ kp, kp = k - 1 := ⟨_, rfl⟩
                rw [← hkp] at HP
                have hkI : (k : Int) - 1 = (kp : Int) := by omega
                clear hp1 hp2 hp3 hp4 hkp
                obtain ⟨c_f0, c_f1⟩ := box2 (K_f.out.next HV13.out)
                go_wp2
                go_loopw [13, 14] (fun df jj w4 => ∃ j : Nat, df = .int .i64 (diffN xp x j : Int) ∧ jj = .int .i64 (j : Int) ∧ j ≤ m.2.length ∧ Below V13.heap.size V13 w4) (fun _ jj _ => m.2.length - (intOf jj).toNat)
                case atStart => exact ⟨0, rfl, rfl, Nat.zero_le _, Below.refl _ _⟩
                case round =>
                  obtain ⟨j, rfl, rfl, hj, hb4⟩ := hrel
                  by_cases hjl : j < m.2.length
                  · obtain ⟨c_f0, c_f1⟩ := box2 (K_f.out.next (bt hb4 HV13.out))
                    have j1 : (0 : Int) ≤ (j : Int) := by omega
                    have j2 : (j : Int) < (m.2.length : Int) := by omega
                    have k4 : (k : Int) < (f1 : Int) + 1 + 1 := by omega
                    have k5 : (0 : Int) ≤ (k : Int) := by omega
                    obtain ⟨bL2, oL2, Ax, cx, e2, hbL2, y0, y1, hcx, hrx⟩ := flash_at (F_6.out.next (bt hb4 HV13.out)) HX.out.1
                    obtain ⟨rfl, rfl⟩ : bL = bL2 ∧ oL = oL2 := by simpa using e2
                    rw [show (mk m x).2.length = m.2.length from HX.out.2.1] at y1 hcx
                    obtain ⟨bx, ox, ex, hbx, zx⟩ := at_getD (bs := x) (k := j) hrx (by rw [HX.out.2.1]; exact hjl)
                    subst ex
                    obtain ⟨vx, hvx⟩ : ∃ v, v = x.getD j 0 := ⟨_, rfl⟩
                    rw [← hvx] at zx
                    obtain ⟨bf, of, ef, hbf, zf⟩ := at_getD (F_m.out.next (bt hb4 HV13.out)) hjl
                    obtain ⟨rfl, rfl⟩ : b = bf ∧ o = of := by simpa using ef
                    obtain ⟨vf, hvf⟩ : ∃ v, v = m.2.getD j 0 := ⟨_, rfl⟩
                    rw [← hvf] at zf
                    have HVX := Lib.hid hvx
                    have HVF := Lib.hid hvf
                    clear hvx hvf hrx e2 ef hbx hbf hbL2
                    obtain ⟨bL3, oL3, Ap, cp, e3, hbL3, u0, u1, hcp, hrp⟩ := flash_at (F_6.out.next (bt hb4 HV13.out)) HP.out.1
                    obtain ⟨rfl, rfl⟩ : bL = bL3 ∧ oL = oL3 := by simpa using e3
                    rw [show (mk m xp).2.length = m.2.length from HP.out.2] at u1 hcp
                    obtain ⟨bp, op, ep, hbp, zp⟩ := at_getD (bs := xp) (k := j) hrp (by rw [HP.out.2]; exact hjl)
                    subst ep
                    obtain ⟨vp, hvp⟩ : ∃ v, v = xp.getD j 0 := ⟨_, rfl⟩
                    rw [← hvp] at zp
                    have HVP := Lib.hid hvp
                    obtain ⟨dn, hdn⟩ : ∃ dn, dn = diffN xp x j := ⟨_, rfl⟩
                    have hd1 : dn ≤ 1 := by rw [hdn]; exact diff_near HNE.out j
                    have HDN := Lib.hid hdn
                    rw [← hdn]
                    clear hvp hrp e3 hbp hbL3 u0 hdn
                    have kp0 : (0 : Int) < (k : Int) := by omega
                    have kp1 : (0 : Int) ≤ (kp : Int) := by omega
                    have kp2 : (kp : Int) < (f1 : Int) + 1 + 1 := by omega
                    have wk : IntKind.i64.wrap (kp : Int) = (kp : Int) := IntWalk.i64_in _ (by omega)
                    by_cases hv : vx = vp
                    · have qv : ((vx.toNat : Int) != (vp.toNat : Int)) = false := by simp [hv]
                      have HDE : Hid ((dn : Int) = (diffN xp x (j + 1) : Int)) := by
                        show _ = _
                        rw [diffN, if_pos (by rw [← HVX.out, ← HVP.out]; exact hv), HDN.out]; rfl
                      clear hv
                      go_wp2
                      have Ry1 := cell_regrown y1
                      have Rzx := cell_regrown zx
                      have Ru1 := cell_regrown u1
                      have Rzp := cell_regrown zp
                      refine wp_region_quiet_below (by kernel_rfl) (by kernel_rfl) ?_
                      repeat (first | go_big_quiet_step (fail) | quiet_step (fail))
                      refine wpQuiet_nil ?_
                      intro _ hw'
                      obtain ⟨⟨dq, osq⟩, hw''⟩ := hw'
                      subst hw''
                      obtain ⟨Va, hVa⟩ : ∃ V, V = grow (redrawn wr dq) osq := ⟨_, rfl⟩
                      have hbVa : Below wr.heap.size wr Va := by rw [hVa]; exact below_regrown _ _ _
                      rw [← hVa]
                      clear hVa
                      clear Ry1
                      clear Rzx
                      clear Ru1
                      clear Rzp
                      clear u1 zp
                      have HW4 : Hid (Below V13.heap.size V13 Va) := bt hbVa hb4
                      clear hbVa hb4 c_f0 c_f1 y0 y1 zx zf
                      obtain ⟨bL2, oL2, Ax2, cx2, e2, hbL2, y0, y1, hcx2, hrx⟩ := flash_at (F_6.out.next (bt HW4.out HV13.out)) HX.out.1
                      obtain ⟨rfl, rfl⟩ : bL = bL2 ∧ oL = oL2 := by simpa using e2
                      rw [show (mk m x).2.length = m.2.length from HX.out.2.1] at y1 hcx2
                      obtain ⟨bx2, ox2, ex, hbx, zx⟩ := at_getD (bs := x) (k := j) hrx (by rw [HX.out.2.1]; exact hjl)
                      subst ex
                      rw [← HVX.out] at zx
                      obtain ⟨bf, of, ef, hbf, zf⟩ := at_getD (F_m.out.next (bt HW4.out HV13.out)) hjl
                      obtain ⟨rfl, rfl⟩ : b = bf ∧ o = of := by simpa using ef
                      rw [← HVF.out] at zf
                      clear hrx e2 ef hbx hbf hbL2
                      obtain ⟨c_f0, c_f1⟩ := box2 (K_f.out.next (bt HW4.out HV13.out))
                      have HHC : Hid (∀ W, Calls Try.prog 30 #[.agg #[.int .i64 m.1, .slice (some ⟨b, o, none⟩) m.2.length c]] W fun e w' => e = .returned (.int .i64 (H : Int)) ∧ Below W.heap.size W w') := fun W => by rw [HH.out]; exact Half_any m.1 _ m.2.length c W (by omega)
                      obtain ⟨q, hq⟩ : ∃ q, q = j / H := ⟨_, rfl⟩
                      have hqI : (j : Int) / (H : Int) = (q : Int) := by rw [hq]; simp
                      have hqT : Int.tdiv (j : Int) (H : Int) = (q : Int) := by rw [Int.tdiv_eq_ediv_of_nonneg (by omega)]; exact hqI
                      have hH1 : ¬ (H : Int) = 0 := by omega
                      have hH2 : ((H : Int) == 0) = false := by rw [beq_eq_false_iff_ne]; exact hH1
                      have hqb : q ≤ j := by rw [hq]; exact Nat.div_le_self _ _
                      have wq : IntKind.i64.wrap (q : Int) = (q : Int) := IntWalk.i64_in _ (by omega)
                      have HQ := Lib.hid hq
                      clear hq
                      by_cases hqa : q = a
                      · have h7 : vx = vf := by
                          rw [HVX.out, HVF.out]
                          have e1 : hf (mk m x) = H := by rw [hf_mk m HX.out.2.1, HH.out]; rfl
                          have e2 : hf m = H := by rw [HH.out]; rfl
                          have hjq : j = a * H + j % H := by rw [← hqa, HQ.out, Nat.mul_comm]; exact (Nat.div_add_mod j H).symm
                          have hjm : j % H < H := Nat.mod_lt _ (by omega)
                          have h8 := area_getD' (mk m x) (a := a) (j := j % H) (by rw [e1]; exact hjm)
                          have h9 := area_getD' m (a := a) (j := j % H) (by rw [e2]; exact hjm)
                          rw [e1, ← hjq] at h8
                          rw [e2, ← hjq] at h9
                          show (mk m x).2.getD j 0 = _
                          rw [← h8, ← h9, HX.out.2.2.1]
                        have q7 : ((vx.toNat : Int) != (vf.toNat : Int)) = false := by simp [h7]
                        have q8 : ((q : Int) == (a : Int)) = true := by simp [hqa]
                        clear h7 hqa
                        go_wp2
                        have Rc_f0 := cell_regrown c_f0
                        have Rc_f1 := cell_regrown c_f1
                        have Ry1 := cell_regrown y1
                        have Rzx := cell_regrown zx
                        have Rzf := cell_regrown zf
                        have CH := fun (d : Nat) (os : Array Obj) => Calls.regrown_of (HHC.out (grow (redrawn Va d) os))
                        refine wp_region_quiet_below (by kernel_rfl) (by kernel_rfl) ?_
                        repeat (first | go_big_quiet_step (first | (with_reducible exact CH _ _)) | quiet_step (first | (with_reducible exact CH _ _)))
                        refine wpQuiet_nil ?_
                        intro _ hw'
                        obtain ⟨⟨dq, osq⟩, hw''⟩ := hw'
                        subst hw''
                        obtain ⟨Vb, hVb⟩ : ∃ V, V = grow (redrawn Va dq) osq := ⟨_, rfl⟩
                        have hbVb : Below Va.heap.size Va Vb := by rw [hVb]; exact below_regrown _ _ _
                        rw [← hVb]
                        clear hVb
                        clear Rc_f0
                        clear Rc_f1
                        clear Ry1
                        clear Rzx
                        clear Rzf
                        clear CH
                        have HB9 := Lib.hid (bt hbVb HW4.out)
                        clear hbVb c_f0 c_f1 y0 y1 zx zf
                        go_wp2
                        go_roundw
                        case rel => exact ⟨j + 1, by rw [HDE.out], by go_num, by omega, HB9.out⟩
                        case measure => first | (simp [intOf]; done) | (simp [intOf]; omega)
                      · have q8 : ((q : Int) == (a : Int)) = false := by rw [beq_eq_false_iff_ne]; omega
                        clear hqa
                        go_wp2
                        have Rc_f0 := cell_regrown c_f0
                        have Rc_f1 := cell_regrown c_f1
                        have CH := fun (d : Nat) (os : Array Obj) => Calls.regrown_of (HHC.out (grow (redrawn Va d) os))
                        refine wp_region_quiet_below (by kernel_rfl) (by kernel_rfl) ?_
                        repeat (first | go_big_quiet_step (first | (with_reducible exact CH _ _)) | quiet_step (first | (with_reducible exact CH _ _)))
                        refine wpQuiet_nil ?_
                        intro _ hw'
                        obtain ⟨⟨dq, osq⟩, hw''⟩ := hw'
                        subst hw''
                        obtain ⟨Vb, hVb⟩ : ∃ V, V = grow (redrawn Va dq) osq := ⟨_, rfl⟩
                        have hbVb : Below Va.heap.size Va Vb := by rw [hVb]; exact below_regrown _ _ _
                        rw [← hVb]
                        clear hVb
                        clear Rc_f0
                        clear Rc_f1
                        clear CH
                        have HB9 := Lib.hid (bt hbVb HW4.out)
                        clear hbVb c_f0 c_f1 y0 y1 zx zf
                        go_wp2
                        go_roundw
                        case rel => exact ⟨j + 1, by rw [HDE.out], by go_num, by omega, HB9.out⟩
                        case measure => first | (simp [intOf]; done) | (simp [intOf]; omega)
                    · have qv : ((vx.toNat : Int) != (vp.toNat : Int)) = true := by
                        rw [bne_iff_ne]
                        intro e
                        exact hv (UInt8.toNat_inj.1 (by omega))
                      have HDE : Hid ((dn : Int) + 1 = (diffN xp x (j + 1) : Int)) := by
                        show _ = _
                        rw [diffN, if_neg (by rw [← HVX.out, ← HVP.out]; exact hv), HDN.out]; rfl
                      have wd : IntKind.i64.wrap ((dn : Int) + 1) = (dn : Int) + 1 := IntWalk.i64_in _ (by omega)
                      clear hv
                      go_wp2
                      have Ry1 := cell_regrown y1
                      have Rzx := cell_regrown zx
                      have Ru1 := cell_regrown u1
                      have Rzp := cell_regrown zp
                      refine wp_region_quiet_below (by kernel_rfl) (by kernel_rfl) ?_
                      repeat (first | go_big_quiet_step (fail) | quiet_step (fail))
                      refine wpQuiet_nil ?_
                      intro _ hw'
                      obtain ⟨⟨dq, osq⟩, hw''⟩ := hw'
                      subst hw''
                      obtain ⟨Va, hVa⟩ : ∃ V, V = grow (redrawn wr dq) osq := ⟨_, rfl⟩
                      have hbVa : Below wr.heap.size wr Va := by rw [hVa]; exact below_regrown _ _ _
                      rw [← hVa]
                      clear hVa
                      clear Ry1
                      clear Rzx
                      clear Ru1
                      clear Rzp
                      clear u1 zp
                      have HW4 : Hid (Below V13.heap.size V13 Va) := bt hbVa hb4
                      clear hbVa hb4 c_f0 c_f1 y0 y1 zx zf
                      go_wp2
                      obtain ⟨bL2, oL2, Ax2, cx2, e2, hbL2, y0, y1, hcx2, hrx⟩ := flash_at (F_6.out.next (bt HW4.out HV13.out)) HX.out.1
                      obtain ⟨rfl, rfl⟩ : bL = bL2 ∧ oL = oL2 := by simpa using e2
                      rw [show (mk m x).2.length = m.2.length from HX.out.2.1] at y1 hcx2
                      obtain ⟨bx2, ox2, ex, hbx, zx⟩ := at_getD (bs := x) (k := j) hrx (by rw [HX.out.2.1]; exact hjl)
                      subst ex
                      rw [← HVX.out] at zx
                      obtain ⟨bf, of, ef, hbf, zf⟩ := at_getD (F_m.out.next (bt HW4.out HV13.out)) hjl
                      obtain ⟨rfl, rfl⟩ : b = bf ∧ o = of := by simpa using ef
                      rw [← HVF.out] at zf
                      clear hrx e2 ef hbx hbf hbL2
                      obtain ⟨c_f0, c_f1⟩ := box2 (K_f.out.next (bt HW4.out HV13.out))
                      have HHC : Hid (∀ W, Calls Try.prog 30 #[.agg #[.int .i64 m.1, .slice (some ⟨b, o, none⟩) m.2.length c]] W fun e w' => e = .returned (.int .i64 (H : Int)) ∧ Below W.heap.size W w') := fun W => by rw [HH.out]; exact Half_any m.1 _ m.2.length c W (by omega)
                      obtain ⟨q, hq⟩ : ∃ q, q = j / H := ⟨_, rfl⟩
                      have hqI : (j : Int) / (H : Int) = (q : Int) := by rw [hq]; simp
                      have hqT : Int.tdiv (j : Int) (H : Int) = (q : Int) := by rw [Int.tdiv_eq_ediv_of_nonneg (by omega)]; exact hqI
                      have hH1 : ¬ (H : Int) = 0 := by omega
                      have hH2 : ((H : Int) == 0) = false := by rw [beq_eq_false_iff_ne]; exact hH1
                      have hqb : q ≤ j := by rw [hq]; exact Nat.div_le_self _ _
                      have wq : IntKind.i64.wrap (q : Int) = (q : Int) := IntWalk.i64_in _ (by omega)
                      have HQ := Lib.hid hq
                      clear hq
                      by_cases hqa : q = a
                      · have h7 : vx = vf := by
                          rw [HVX.out, HVF.out]
                          have e1 : hf (mk m x) = H := by rw [hf_mk m HX.out.2.1, HH.out]; rfl
                          have e2 : hf m = H := by rw [HH.out]; rfl
                          have hjq : j = a * H + j % H := by rw [← hqa, HQ.out, Nat.mul_comm]; exact (Nat.div_add_mod j H).symm
                          have hjm : j % H < H := Nat.mod_lt _ (by omega)
                          have h8 := area_getD' (mk m x) (a := a) (j := j % H) (by rw [e1]; exact hjm)
                          have h9 := area_getD' m (a := a) (j := j % H) (by rw [e2]; exact hjm)
                          rw [e1, ← hjq] at h8
                          rw [e2, ← hjq] at h9
                          show (mk m x).2.getD j 0 = _
                          rw [← h8, ← h9, HX.out.2.2.1]
                        have q7 : ((vx.toNat : Int) != (vf.toNat : Int)) = false := by simp [h7]
                        have q8 : ((q : Int) == (a : Int)) = true := by simp [hqa]
                        clear h7 hqa
                        go_wp2
                        have Rc_f0 := cell_regrown c_f0
                        have Rc_f1 := cell_regrown c_f1
                        have Ry1 := cell_regrown y1
                        have Rzx := cell_regrown zx
                        have Rzf := cell_regrown zf
                        have CH := fun (d : Nat) (os : Array Obj) => Calls.regrown_of (HHC.out (grow (redrawn Va d) os))
                        refine wp_region_quiet_below (by kernel_rfl) (by kernel_rfl) ?_
                        repeat (first | go_big_quiet_step (first | (with_reducible exact CH _ _)) | quiet_step (first | (with_reducible exact CH _ _)))
                        refine wpQuiet_nil ?_
                        intro _ hw'
                        obtain ⟨⟨dq, osq⟩, hw''⟩ := hw'
                        subst hw''
                        obtain ⟨Vb, hVb⟩ : ∃ V, V = grow (redrawn Va dq) osq := ⟨_, rfl⟩
                        have hbVb : Below Va.heap.size Va Vb := by rw [hVb]; exact below_regrown _ _ _
                        rw [← hVb]
                        clear hVb
                        clear Rc_f0
                        clear Rc_f1
                        clear Ry1
                        clear Rzx
                        clear Rzf
                        clear CH
                        have HB9 := Lib.hid (bt hbVb HW4.out)
                        clear hbVb c_f0 c_f1 y0 y1 zx zf
                        go_wp2
                        go_roundw
                        case rel => exact ⟨j + 1, by rw [← HDE.out], by go_num, by omega, HB9.out⟩
                        case measure => first | (simp [intOf]; done) | (simp [intOf]; omega)
                      · have q8 : ((q : Int) == (a : Int)) = false := by rw [beq_eq_false_iff_ne]; omega
                        clear hqa
                        go_wp2
                        have Rc_f0 := cell_regrown c_f0
                        have Rc_f1 := cell_regrown c_f1
                        have CH := fun (d : Nat) (os : Array Obj) => Calls.regrown_of (HHC.out (grow (redrawn Va d) os))
                        refine wp_region_quiet_below (by kernel_rfl) (by kernel_rfl) ?_
                        repeat (first | go_big_quiet_step (first | (with_reducible exact CH _ _)) | quiet_step (first | (with_reducible exact CH _ _)))
                        refine wpQuiet_nil ?_
                        intro _ hw'
                        obtain ⟨⟨dq, osq⟩, hw''⟩ := hw'
                        subst hw''
                        obtain ⟨Vb, hVb⟩ : ∃ V, V = grow (redrawn Va dq) osq := ⟨_, rfl⟩
                        have hbVb : Below Va.heap.size Va Vb := by rw [hVb]; exact below_regrown _ _ _
                        rw [← hVb]
                        clear hVb
                        clear Rc_f0
                        clear Rc_f1
                        clear CH
                        have HB9 := Lib.hid (bt hbVb HW4.out)
                        clear hbVb c_f0 c_f1 y0 y1 zx zf
                        go_wp2
                        go_roundw
                        case rel => exact ⟨j + 1, by rw [← HDE.out], by go_num, by omega, HB9.out⟩
                        case measure => first | (simp [intOf]; done) | (simp [intOf]; omega)
                  · obtain rfl : j = m.2.length := by omega
                    have q9 : ¬ ((m.2.length : Int) < (m.2.length : Int)) := by omega
                    obtain ⟨c_f0, c_f1⟩ := box2 (K_f.out.next (bt hb4 HV13.out))
                    have HB9 := Lib.hid (bt hb4 HV13.out)
                    have qd : (diffN xp x m.2.length : Int) ≤ 1 := by have := diff_near HNE.out m.2.length; omega
                    clear hb4
                    go_wp2
                    go_roundw
                    case rel => exact ⟨k + 1, rfl, by go_num, by omega, HB9.out⟩
                    case measure => first | (simp [intOf]; done) | (simp [intOf]; omega)
            · obtain rfl : k = f1 + 1 + 1 := by omega
              have q9 : ¬ ((f1 : Int) + 1 + 1 < (f1 : Int) + 1 + 1) := by omega
              replace F_m := Lib.hid (F_m.out.next hb)
              replace F_d := Lib.hid (F_d.out.next hb)
              replace F_k := Lib.hid (F_k.out.next hb)
              replace F_6 := Lib.hid (F_6.out.next hb)
              replace K_f := Lib.hid (K_f.out.next hb)
              replace HB := Lib.hid (bt hb HB.out)
              clear hb
              obtain ⟨b9, o9, Ah, ch, rfl, hb9, y0, y1, hch, hrh⟩ := flash_at F_6.out HZZ.out
              rw [show (mk m z).1 = m.1 from rfl] at y0
              rw [show (mk m z).2.length = m.2.length from HZL.out] at y1 hch
              have F_h := Lib.hid (show RdB wr wr.heap.size Ah z from hrh)
              clear hrh
              have p1 : (0 : Int) ≤ (f1 : Int) + 1 := by omega
              have p2 : (f1 : Int) + 1 < (f1 : Int) + 1 + 1 := by omega
              have p3 : ((f1 : Int) + 1).toNat = f1 + 1 := by omega
              obtain ⟨rm, hrm⟩ : ∃ rm, rm = 5 + room keep := ⟨_, rfl⟩
              have hrk : room keep ≤ 4096 := by have := HRF.out; have : hf m = H := HH.out.symm; omega
              have HRM := Lib.hid hrm
              have hfz : hf (mk m z) = H := by rw [hf_mk m HZL.out, HH.out]; rfl
              have HFZ := Lib.hid hfz
              clear hrm hfz
              by_cases hfit : rm + 7 + d.length ≤ H
              · have hap := cj_fits HCJ.out d (by omega) (by rw [HFZ.out]; have := HRM.out; omega)
                obtain ⟨hapE, F2, z2, hsp, hF2, hz2l, hcj2⟩ := hap
                have HAE := Lib.hid hapE
                have hll2 : (appM (mk m z) d).length ≤ 1000000 := by unfold appM; rw [List.length_map, hsp, List.length_append]; simp; omega
                have HLL2 := Lib.hid hll2
                have hlm2 : lastM (mk m z) (appM (mk m z) d) 0 = mk (mk m z) z2 := lastM_map hsp
                have HLM2 := Lib.hid hlm2
                have HCJ2 := Lib.hid hcj2
                clear hapE hsp hF2 hz2l hcj2 hll2 hlm2
                have qf : (rm : Int) + 7 + (d.length : Int) ≤ (H : Int) := by omega
                clear hfit
                have wr1 : IntKind.i64.wrap ((rm : Int) + 7) = (rm : Int) + 7 := IntWalk.i64_in _ (by have := HRM.out; omega)
                have wr2 : IntKind.i64.wrap ((rm : Int) + 7 + (d.length : Int)) = (rm : Int) + 7 + (d.length : Int) := IntWalk.i64_in _ (by have := HRM.out; omega)
                obtain ⟨n2, hn2⟩ : ∃ n2, (appM (mk m z) d).length = n2 := ⟨_, rfl⟩
                have HN2 := Lib.hid hn2
                clear hn2
                have HAP2 : Hid (∀ W, RdB W W.heap.size Ah z → RdB W W.heap.size Ad d → Calls Try.prog 17 #[.agg #[.int .i64 m.1, .slice Ah m.2.length ch], .slice Ad d.length cd] W fun e w' => ∃ A c, e = .returned (.tuple #[.slice A n2 c, .int .i64 0]) ∧ n2 ≤ c ∧ RdFs w' w'.heap.size A (appM (mk m z) d) ∧ Below W.heap.size W w') := fun W hA hD => by
                  have h9 := Append_lit n2 0 d.length (mk m z) d Ah Ad ch cd W HN2.out HAE.out rfl hA (by rw [show (mk m z).2.length = m.2.length from HZL.out]; exact hch) hD hcd (by omega)
                  rw [show (mk m z).2.length = m.2.length from HZL.out] at h9
                  exact h9
                obtain ⟨c_f0, c_f1⟩ := box2 K_f.out
                have l_f := K_f.out.lt
                go_wp2_with fail
                clear c_f0 c_f1 l_f
                refine (HAP2.out _ (F_h.out.next (al1 _ _)) (F_d.out.next (al1 _ _))).mono ?_
                rintro e V7 ⟨A3, c3, rfl, hc3, r3, hb⟩
                have hB := bt hb (al1 wr _)
                have K_t : Hid (Bk V7 (wr.heap.size) 24 #[.int .i64 m.1, .slice Ah m.2.length ch]) := Bk.next (by first | exact Bk.new _ _ _ | exact (Bk.new _ _ _).alloc _ | exact ((Bk.new _ _ _).alloc _).alloc _ | exact bkOf (by simp [at?_alloc])) hb
                replace F_m := Lib.hid (F_m.out.next hB)
                replace F_d := Lib.hid (F_d.out.next hB)
                replace F_k := Lib.hid (F_k.out.next hB)
                replace F_6 := Lib.hid (F_6.out.next hB)
                replace F_h := Lib.hid (F_h.out.next hB)
                replace K_f := Lib.hid (K_f.out.next hB)
                replace HB := Lib.hid (bt hB HB.out)
                clear hb hB
                have F_3 := Lib.hid (r3)
                clear r3 y0 y1 HAP2
                have HRO : Hid (∀ W, Below V7.heap.size V7 W → Calls Try.prog 14 #[.slice Ak keep.length ck] W fun e w' => e = .returned (.int .i64 (rm : Int)) ∧ Below W.heap.size W w') := fun W hW => Room_x keep keep.length rm _ ck W (F_k.out.next hW) rfl (by omega) (by omega) HRM.out
                have HHC : Hid (∀ W, Calls Try.prog 30 #[.agg #[.int .i64 m.1, .slice (some ⟨b, o, none⟩) m.2.length c]] W fun e w' => e = .returned (.int .i64 (H : Int)) ∧ Below W.heap.size W w') := fun W => by rw [HH.out]; exact Half_any m.1 _ m.2.length c W (by omega)
                obtain ⟨c_f0, c_f1⟩ := box2 K_f.out
                have l_f := K_f.out.lt
                go_wp2
                have Rc_f0 := cell_regrown c_f0
                have Rc_f1 := cell_regrown c_f1
                have CR := fun (d : Nat) (os : Array Obj) => Calls.regrown_of (HRO.out (grow (redrawn V7 d) os) (below_regrown V7 d os))
                have CH := fun (d : Nat) (os : Array Obj) => Calls.regrown_of (HHC.out (grow (redrawn V7 d) os))
                refine wp_region_quiet_below (by kernel_rfl) (by kernel_rfl) ?_
                repeat (first | go_big_quiet_step (first | (with_reducible exact CR _ _) | (with_reducible exact CH _ _)) | quiet_step (first | (with_reducible exact CR _ _) | (with_reducible exact CH _ _)))
                refine wpQuiet_nil ?_
                intro _ hw'
                obtain ⟨⟨dq, osq⟩, hw''⟩ := hw'
                subst hw''
                obtain ⟨Vz, hVz⟩ : ∃ V, V = grow (redrawn V7 dq) osq := ⟨_, rfl⟩
                have hbVz : Below V7.heap.size V7 Vz := by rw [hVz]; exact below_regrown _ _ _
                rw [← hVz]
                clear hVz
                clear Rc_f0
                clear Rc_f1
                clear CR
                clear CH
                clear HRO HHC
                clear c_f0 c_f1 l_f
                replace F_m := Lib.hid (F_m.out.next hbVz)
                replace F_d := Lib.hid (F_d.out.next hbVz)
                replace F_k := Lib.hid (F_k.out.next hbVz)
                replace F_6 := Lib.hid (F_6.out.next hbVz)
                replace F_h := Lib.hid (F_h.out.next hbVz)
                replace F_3 := Lib.hid (F_3.out.next hbVz)
                replace K_f := Lib.hid (K_f.out.next hbVz)
                replace K_t := Lib.hid (K_t.out.next hbVz)
                replace HB := Lib.hid (bt hbVz HB.out)
                clear hbVz
                obtain ⟨lm, hlm⟩ : ∃ lm, lm = lastM (mk m z) (appM (mk m z) d) 0 := ⟨_, rfl⟩
                have HLM := Lib.hid hlm
                have HLC : Hid (∀ W Al cl, RdB W W.heap.size Ah z → RdFs W W.heap.size Al (appM (mk m z) d) → Calls Try.prog 25 #[.agg #[.int .i64 m.1, .slice Ah m.2.length ch], .slice Al n2 cl, .int .i64 0] W (flashPost lm W)) := fun W Al cl hA hl => by
                  have h9 := last_lit lm n2 (mk m z) (appM (mk m z) d) 0 Ah Al ch cl W hlm.symm HN2.out hA (by rw [show (mk m z).2.length = m.2.length from HZL.out]; exact hch) hl HLL2.out
                  rw [show (mk m z).2.length = m.2.length from HZL.out] at h9
                  exact h9
                clear hlm
                obtain ⟨c_f0, c_f1⟩ := box2 K_f.out
                have l_f := K_f.out.lt
                obtain ⟨c_t0, c_t1⟩ := box2 K_t.out
                have l_t := K_t.out.lt
                go_wp2_with fail
                clear c_f0 c_f1 l_f
                clear c_t0 c_t1 l_t
                refine (HLC.out _ A3 c3 F_h.out F_3.out).mono ?_
                rintro e V8 ⟨A4, c4, rfl, hc4, r4, hb⟩
                have hB := hb
                replace F_m := Lib.hid (F_m.out.next hB)
                replace F_d := Lib.hid (F_d.out.next hB)
                replace F_k := Lib.hid (F_k.out.next hB)
                replace F_6 := Lib.hid (F_6.out.next hB)
                replace F_h := Lib.hid (F_h.out.next hB)
                replace F_3 := Lib.hid (F_3.out.next hB)
                replace K_f := Lib.hid (K_f.out.next hB)
                replace K_t := Lib.hid (K_t.out.next hB)
                replace HB := Lib.hid (bt hB HB.out)
                clear hb hB
                have F_4 := Lib.hid (r4)
                clear r4 HLC
                obtain ⟨c_f0, c_f1⟩ := box2 K_f.out
                have l_f := K_f.out.lt
                obtain ⟨c_t0, c_t1⟩ := box2 K_t.out
                have l_t := K_t.out.lt
                go_wp2_with fail
                clear c_f0 c_f1 l_f
                clear c_t0 c_t1 l_t
                refine (with_lit keep.length keep d Ak Ad ck cd _ rfl F_k.out F_d.out hcd (by omega)).mono ?_
                rintro e V9 ⟨A5, c5, rfl, hc5, r5, hb⟩
                have hB := hb
                replace F_m := Lib.hid (F_m.out.next hB)
                replace F_d := Lib.hid (F_d.out.next hB)
                replace F_k := Lib.hid (F_k.out.next hB)
                replace F_6 := Lib.hid (F_6.out.next hB)
                replace F_h := Lib.hid (F_h.out.next hB)
                replace F_3 := Lib.hid (F_3.out.next hB)
                replace F_4 := Lib.hid (F_4.out.next hB)
                replace K_f := Lib.hid (K_f.out.next hB)
                replace K_t := Lib.hid (K_t.out.next hB)
                replace HB := Lib.hid (bt hB HB.out)
                clear hb hB
                have F_5 := Lib.hid (r5)
                clear r5
                obtain ⟨sb, hsb⟩ : ∃ sb, hldB lm (keep ++ [d]) = sb := ⟨_, rfl⟩
                have HSB := Lib.hid hsb
                clear hsb
                obtain rfl : sb = true := by rw [← HSB.out, HLM.out, HLM2.out]; exact decide_eq_true ⟨HCJ2.out.1, HCJ2.out.2.1⟩
                obtain ⟨c_f0, c_f1⟩ := box2 K_f.out
                have l_f := K_f.out.lt
                obtain ⟨c_t0, c_t1⟩ := box2 K_t.out
                have l_t := K_t.out.lt
                go_wp2_with fail
                clear c_f0 c_f1 l_f
                clear c_t0 c_t1 l_t
                refine (holds_lit true (keep.length + 1) lm (keep ++ [d]) A4 A5 c4 c5 _ HSB.out (by rw [List.length_append]; rfl) F_4.out hc4 F_5.out (by rw [List.length_append]; simp; omega) (by intro x hx; rcases List.mem_append.1 hx with hx | hx; (have := hks.2 x hx; omega); (obtain rfl : x = d := by simpa using hx); omega)).mono ?_
                rintro e V10 ⟨rfl, hb⟩
                have hB := hb
                replace F_m := Lib.hid (F_m.out.next hB)
                replace F_d := Lib.hid (F_d.out.next hB)
                replace F_k := Lib.hid (F_k.out.next hB)
                replace F_6 := Lib.hid (F_6.out.next hB)
                replace F_h := Lib.hid (F_h.out.next hB)
                replace F_3 := Lib.hid (F_3.out.next hB)
                replace F_4 := Lib.hid (F_4.out.next hB)
                replace F_5 := Lib.hid (F_5.out.next hB)
                replace K_f := Lib.hid (K_f.out.next hB)
                replace K_t := Lib.hid (K_t.out.next hB)
                replace HB := Lib.hid (bt hB HB.out)
                clear hb hB
                have HHO : Hid (∀ W, RdB W W.heap.size Ah z → RdBs W W.heap.size Ak keep → Calls Try.prog 26 #[.agg #[.int .i64 m.1, .slice Ah m.2.length ch], .slice Ak keep.length ck] W fun e w' => e = .returned (.bool true) ∧ Below W.heap.size W w') := fun W hA hk => by
                  have h9 := holds_lit true keep.length (mk m z) keep Ah Ak ch ck W (decide_eq_true ⟨HCJ.out.1, HCJ.out.2.1⟩) rfl hA (by rw [show (mk m z).2.length = m.2.length from HZL.out]; exact hch) hk (by omega) (fun x hx => by have := hks.2 x hx; omega)
                  rw [show (mk m z).2.length = m.2.length from HZL.out] at h9
                  exact h9
                obtain ⟨c_f0, c_f1⟩ := box2 K_f.out
                have l_f := K_f.out.lt
                obtain ⟨c_t0, c_t1⟩ := box2 K_t.out
                have l_t := K_t.out.lt
                go_wp2_with fail
                clear c_f0 c_f1 l_f
                clear c_t0 c_t1 l_t
                refine (HHO.out _ F_h.out F_k.out).mono ?_
                rintro e V11 ⟨rfl, hb⟩
                have hB := hb
                replace F_m := Lib.hid (F_m.out.next hB)
                replace F_d := Lib.hid (F_d.out.next hB)
                replace F_k := Lib.hid (F_k.out.next hB)
                replace F_6 := Lib.hid (F_6.out.next hB)
                replace F_h := Lib.hid (F_h.out.next hB)
                replace F_3 := Lib.hid (F_3.out.next hB)
                replace F_4 := Lib.hid (F_4.out.next hB)
                replace F_5 := Lib.hid (F_5.out.next hB)
                replace K_f := Lib.hid (K_f.out.next hB)
                replace K_t := Lib.hid (K_t.out.next hB)
                replace HB := Lib.hid (bt hB HB.out)
                clear hb hB
                obtain ⟨c_f0, c_f1⟩ := box2 K_f.out
                have l_f := K_f.out.lt
                obtain ⟨c_t0, c_t1⟩ := box2 K_t.out
                have l_t := K_t.out.lt
                go_wp2
                go_ret
                exact ⟨rfl, HB.out⟩
              · have hapE := cj_full HCJ.out d (by rw [HFZ.out]; have := HRM.out; omega)
                have HAE := Lib.hid hapE
                have hll2 : (appM (mk m z) d).length ≤ 1000000 := by rw [appM_bad (by rw [hapE]; decide)]; simp
                have HLL2 := Lib.hid hll2
                clear hapE hll2
                have qf : ¬ (rm : Int) + 7 + (d.length : Int) ≤ (H : Int) := by omega
                clear hfit
                have wr1 : IntKind.i64.wrap ((rm : Int) + 7) = (rm : Int) + 7 := IntWalk.i64_in _ (by have := HRM.out; omega)
                have wr2 : IntKind.i64.wrap ((rm : Int) + 7 + (d.length : Int)) = (rm : Int) + 7 + (d.length : Int) := IntWalk.i64_in _ (by have := HRM.out; omega)
                obtain ⟨n2, hn2⟩ : ∃ n2, (appM (mk m z) d).length = n2 := ⟨_, rfl⟩
                have HN2 := Lib.hid hn2
                clear hn2
                have HAP2 : Hid (∀ W, RdB W W.heap.size Ah z → RdB W W.heap.size Ad d → Calls Try.prog 17 #[.agg #[.int .i64 m.1, .slice Ah m.2.length ch], .slice Ad d.length cd] W fun e w' => ∃ A c, e = .returned (.tuple #[.slice A n2 c, .int .i64 10]) ∧ n2 ≤ c ∧ RdFs w' w'.heap.size A (appM (mk m z) d) ∧ Below W.heap.size W w') := fun W hA hD => by
                  have h9 := Append_lit n2 10 d.length (mk m z) d Ah Ad ch cd W HN2.out HAE.out rfl hA (by rw [show (mk m z).2.length = m.2.length from HZL.out]; exact hch) hD hcd (by omega)
                  rw [show (mk m z).2.length = m.2.length from HZL.out] at h9
                  exact h9
                obtain ⟨c_f0, c_f1⟩ := box2 K_f.out
                have l_f := K_f.out.lt
                go_wp2_with fail
                clear c_f0 c_f1 l_f
                refine (HAP2.out _ (F_h.out.next (al1 _ _)) (F_d.out.next (al1 _ _))).mono ?_
                rintro e V7 ⟨A3, c3, rfl, hc3, r3, hb⟩
                have hB := bt hb (al1 wr _)
                have K_t : Hid (Bk V7 (wr.heap.size) 24 #[.int .i64 m.1, .slice Ah m.2.length ch]) := Bk.next (by first | exact Bk.new _ _ _ | exact (Bk.new _ _ _).alloc _ | exact ((Bk.new _ _ _).alloc _).alloc _ | exact bkOf (by simp [at?_alloc])) hb
                replace F_m := Lib.hid (F_m.out.next hB)
                replace F_d := Lib.hid (F_d.out.next hB)
                replace F_k := Lib.hid (F_k.out.next hB)
                replace F_6 := Lib.hid (F_6.out.next hB)
                replace F_h := Lib.hid (F_h.out.next hB)
                replace K_f := Lib.hid (K_f.out.next hB)
                replace HB := Lib.hid (bt hB HB.out)
                clear hb hB
                have F_3 := Lib.hid (r3)
                clear r3 y0 y1 HAP2
                have HRO : Hid (∀ W, Below V7.heap.size V7 W → Calls Try.prog 14 #[.slice Ak keep.length ck] W fun e w' => e = .returned (.int .i64 (rm : Int)) ∧ Below W.heap.size W w') := fun W hW => Room_x keep keep.length rm _ ck W (F_k.out.next hW) rfl (by omega) (by omega) HRM.out
                have HHC : Hid (∀ W, Calls Try.prog 30 #[.agg #[.int .i64 m.1, .slice (some ⟨b, o, none⟩) m.2.length c]] W fun e w' => e = .returned (.int .i64 (H : Int)) ∧ Below W.heap.size W w') := fun W => by rw [HH.out]; exact Half_any m.1 _ m.2.length c W (by omega)
                obtain ⟨c_f0, c_f1⟩ := box2 K_f.out
                have l_f := K_f.out.lt
                go_wp2
                have Rc_f0 := cell_regrown c_f0
                have Rc_f1 := cell_regrown c_f1
                have CR := fun (d : Nat) (os : Array Obj) => Calls.regrown_of (HRO.out (grow (redrawn V7 d) os) (below_regrown V7 d os))
                have CH := fun (d : Nat) (os : Array Obj) => Calls.regrown_of (HHC.out (grow (redrawn V7 d) os))
                refine wp_region_quiet_below (by kernel_rfl) (by kernel_rfl) ?_
                repeat (first | go_big_quiet_step (first | (with_reducible exact CR _ _) | (with_reducible exact CH _ _)) | quiet_step (first | (with_reducible exact CR _ _) | (with_reducible exact CH _ _)))
                refine wpQuiet_nil ?_
                intro _ hw'
                obtain ⟨⟨dq, osq⟩, hw''⟩ := hw'
                subst hw''
                obtain ⟨Vz, hVz⟩ : ∃ V, V = grow (redrawn V7 dq) osq := ⟨_, rfl⟩
                have hbVz : Below V7.heap.size V7 Vz := by rw [hVz]; exact below_regrown _ _ _
                rw [← hVz]
                clear hVz
                clear Rc_f0
                clear Rc_f1
                clear CR
                clear CH
                clear HRO HHC
                clear c_f0 c_f1 l_f
                replace F_m := Lib.hid (F_m.out.next hbVz)
                replace F_d := Lib.hid (F_d.out.next hbVz)
                replace F_k := Lib.hid (F_k.out.next hbVz)
                replace F_6 := Lib.hid (F_6.out.next hbVz)
                replace F_h := Lib.hid (F_h.out.next hbVz)
                replace F_3 := Lib.hid (F_3.out.next hbVz)
                replace K_f := Lib.hid (K_f.out.next hbVz)
                replace K_t := Lib.hid (K_t.out.next hbVz)
                replace HB := Lib.hid (bt hbVz HB.out)
                clear hbVz
                obtain ⟨lm, hlm⟩ : ∃ lm, lm = lastM (mk m z) (appM (mk m z) d) 10 := ⟨_, rfl⟩
                have HLM := Lib.hid hlm
                have HLC : Hid (∀ W Al cl, RdB W W.heap.size Ah z → RdFs W W.heap.size Al (appM (mk m z) d) → Calls Try.prog 25 #[.agg #[.int .i64 m.1, .slice Ah m.2.length ch], .slice Al n2 cl, .int .i64 10] W (flashPost lm W)) := fun W Al cl hA hl => by
                  have h9 := last_lit lm n2 (mk m z) (appM (mk m z) d) 10 Ah Al ch cl W hlm.symm HN2.out hA (by rw [show (mk m z).2.length = m.2.length from HZL.out]; exact hch) hl HLL2.out
                  rw [show (mk m z).2.length = m.2.length from HZL.out] at h9
                  exact h9
                clear hlm
                obtain ⟨c_f0, c_f1⟩ := box2 K_f.out
                have l_f := K_f.out.lt
                obtain ⟨c_t0, c_t1⟩ := box2 K_t.out
                have l_t := K_t.out.lt
                go_wp2_with fail
                clear c_f0 c_f1 l_f
                clear c_t0 c_t1 l_t
                refine (HLC.out _ A3 c3 F_h.out F_3.out).mono ?_
                rintro e V8 ⟨A4, c4, rfl, hc4, r4, hb⟩
                have hB := hb
                replace F_m := Lib.hid (F_m.out.next hB)
                replace F_d := Lib.hid (F_d.out.next hB)
                replace F_k := Lib.hid (F_k.out.next hB)
                replace F_6 := Lib.hid (F_6.out.next hB)
                replace F_h := Lib.hid (F_h.out.next hB)
                replace F_3 := Lib.hid (F_3.out.next hB)
                replace K_f := Lib.hid (K_f.out.next hB)
                replace K_t := Lib.hid (K_t.out.next hB)
                replace HB := Lib.hid (bt hB HB.out)
                clear hb hB
                have F_4 := Lib.hid (r4)
                clear r4 HLC
                obtain ⟨c_f0, c_f1⟩ := box2 K_f.out
                have l_f := K_f.out.lt
                obtain ⟨c_t0, c_t1⟩ := box2 K_t.out
                have l_t := K_t.out.lt
                go_wp2_with fail
                clear c_f0 c_f1 l_f
                clear c_t0 c_t1 l_t
                refine (with_lit keep.length keep d Ak Ad ck cd _ rfl F_k.out F_d.out hcd (by omega)).mono ?_
                rintro e V9 ⟨A5, c5, rfl, hc5, r5, hb⟩
                have hB := hb
                replace F_m := Lib.hid (F_m.out.next hB)
                replace F_d := Lib.hid (F_d.out.next hB)
                replace F_k := Lib.hid (F_k.out.next hB)
                replace F_6 := Lib.hid (F_6.out.next hB)
                replace F_h := Lib.hid (F_h.out.next hB)
                replace F_3 := Lib.hid (F_3.out.next hB)
                replace F_4 := Lib.hid (F_4.out.next hB)
                replace K_f := Lib.hid (K_f.out.next hB)
                replace K_t := Lib.hid (K_t.out.next hB)
                replace HB := Lib.hid (bt hB HB.out)
                clear hb hB
                have F_5 := Lib.hid (r5)
                clear r5
                obtain ⟨sb, hsb⟩ : ∃ sb, hldB lm (keep ++ [d]) = sb := ⟨_, rfl⟩
                have HSB := Lib.hid hsb
                clear hsb
                obtain ⟨c_f0, c_f1⟩ := box2 K_f.out
                have l_f := K_f.out.lt
                obtain ⟨c_t0, c_t1⟩ := box2 K_t.out
                have l_t := K_t.out.lt
                go_wp2_with fail
                clear c_f0 c_f1 l_f
                clear c_t0 c_t1 l_t
                refine (holds_lit sb (keep.length + 1) lm (keep ++ [d]) A4 A5 c4 c5 _ HSB.out (by rw [List.length_append]; rfl) F_4.out hc4 F_5.out (by rw [List.length_append]; simp; omega) (by intro x hx; rcases List.mem_append.1 hx with hx | hx; (have := hks.2 x hx; omega); (obtain rfl : x = d := by simpa using hx); omega)).mono ?_
                rintro e V10 ⟨rfl, hb⟩
                have hB := hb
                replace F_m := Lib.hid (F_m.out.next hB)
                replace F_d := Lib.hid (F_d.out.next hB)
                replace F_k := Lib.hid (F_k.out.next hB)
                replace F_6 := Lib.hid (F_6.out.next hB)
                replace F_h := Lib.hid (F_h.out.next hB)
                replace F_3 := Lib.hid (F_3.out.next hB)
                replace F_4 := Lib.hid (F_4.out.next hB)
                replace F_5 := Lib.hid (F_5.out.next hB)
                replace K_f := Lib.hid (K_f.out.next hB)
                replace K_t := Lib.hid (K_t.out.next hB)
                replace HB := Lib.hid (bt hB HB.out)
                clear hb hB
                have HHO : Hid (∀ W, RdB W W.heap.size Ah z → RdBs W W.heap.size Ak keep → Calls Try.prog 26 #[.agg #[.int .i64 m.1, .slice Ah m.2.length ch], .slice Ak keep.length ck] W fun e w' => e = .returned (.bool true) ∧ Below W.heap.size W w') := fun W hA hk => by
                  have h9 := holds_lit true keep.length (mk m z) keep Ah Ak ch ck W (decide_eq_true ⟨HCJ.out.1, HCJ.out.2.1⟩) rfl hA (by rw [show (mk m z).2.length = m.2.length from HZL.out]; exact hch) hk (by omega) (fun x hx => by have := hks.2 x hx; omega)
                  rw [show (mk m z).2.length = m.2.length from HZL.out] at h9
                  exact h9
                obtain ⟨c_f0, c_f1⟩ := box2 K_f.out
                have l_f := K_f.out.lt
                obtain ⟨c_t0, c_t1⟩ := box2 K_t.out
                have l_t := K_t.out.lt
                go_wp2_with fail
                clear c_f0 c_f1 l_f
                clear c_t0 c_t1 l_t
                refine (HHO.out _ F_h.out F_k.out).mono ?_
                rintro e V11 ⟨rfl, hb⟩
                have hB := hb
                replace F_m := Lib.hid (F_m.out.next hB)
                replace F_d := Lib.hid (F_d.out.next hB)
                replace F_k := Lib.hid (F_k.out.next hB)
                replace F_6 := Lib.hid (F_6.out.next hB)
                replace F_h := Lib.hid (F_h.out.next hB)
                replace F_3 := Lib.hid (F_3.out.next hB)
                replace F_4 := Lib.hid (F_4.out.next hB)
                replace F_5 := Lib.hid (F_5.out.next hB)
                replace K_f := Lib.hid (K_f.out.next hB)
                replace K_t := Lib.hid (K_t.out.next hB)
                replace HB := Lib.hid (bt hB HB.out)
                clear hb hB
                obtain ⟨c_f0, c_f1⟩ := box2 K_f.out
                have l_f := K_f.out.lt
                obtain ⟨c_t0, c_t1⟩ := box2 K_t.out
                have l_t := K_t.out.lt
                go_wp2
                go_ret
                exact ⟨rfl, HB.out⟩
        · have hz3 : rewM m keep = [] := rewM_bad (by rw [HG2.out]; exact h2)
          have hz4 : (rewM m keep).length = 0 := by rw [hz3]; rfl
          have z2 : (g2 != 0) = true := by simp [h2]
          have HZ4 := Lib.hid hz4
          clear hz3 hz4
          obtain ⟨c_f0, c_f1⟩ := box2 K_f.out
          have l_f := K_f.out.lt
          go_wp2_with fail
          clear c_f0 c_f1 l_f
          refine (Rewrite_lit 0 g2 keep.length m keep A Ak c ck _ HZ4.out HG2.out rfl F_m.out hc F_k.out (by omega) hk2).mono ?_
          rintro e V4 ⟨A6, c6, rfl, hc6, r6, hb⟩
          have hB := hb
          replace F_m := Lib.hid (F_m.out.next hB)
          replace F_d := Lib.hid (F_d.out.next hB)
          replace F_k := Lib.hid (F_k.out.next hB)
          replace K_f := Lib.hid (K_f.out.next hB)
          replace HB := Lib.hid (bt hB HB.out)
          clear hb hB
          clear r6
          obtain ⟨c_f0, c_f1⟩ := box2 K_f.out
          have l_f := K_f.out.lt
          go_wp2_with fail
          clear c_f0 c_f1 l_f
          refine (Memory_lit mb m.1 A m.2.length c _ HMB.out).mono ?_
          rintro e V5 ⟨rfl, hb⟩
          have hB := hb
          replace F_m := Lib.hid (F_m.out.next hB)
          replace F_d := Lib.hid (F_d.out.next hB)
          replace F_k := Lib.hid (F_k.out.next hB)
          replace K_f := Lib.hid (K_f.out.next hB)
          replace HB := Lib.hid (bt hB HB.out)
          clear hb hB
          obtain ⟨c_f0, c_f1⟩ := box2 K_f.out
          have l_f := K_f.out.lt
          go_wp2
          go_ret
          exact ⟨rfl, HB.out⟩
  · obtain ⟨c_f0, c_f1⟩ := box2 K_f.out
    have l_f := K_f.out.lt
    go_wp2_with fail
    clear c_f0 c_f1 l_f
    refine (few_lit false m d A Ad c cd _ (decide_eq_false hfew)).mono ?_
    rintro e V2 ⟨rfl, hb⟩
    have hB := hb
    replace F_m := Lib.hid (F_m.out.next hB)
    replace F_d := Lib.hid (F_d.out.next hB)
    replace F_k := Lib.hid (F_k.out.next hB)
    replace K_f := Lib.hid (K_f.out.next hB)
    replace HB := Lib.hid (bt hB HB.out)
    clear hb hB
    obtain ⟨c_f0, c_f1⟩ := box2 K_f.out
    have l_f := K_f.out.lt
    go_wp2
    go_ret
    exact ⟨rfl, HB.out⟩
end Go.Proofs.Ytkeghidlolidmaa
