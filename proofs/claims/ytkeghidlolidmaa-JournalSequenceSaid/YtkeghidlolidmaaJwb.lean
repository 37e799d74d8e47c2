/- The law JournalSequence, walked. -/
import Derived.Test.YtkeghidlolidmaaJX
import Derived.Test.YtkeghidlolidmaaJq
set_option maxRecDepth 100000
set_option linter.unusedVariables false
set_option linter.unusedSimpArgs false
namespace Go.Proofs.Ytkeghidlolidmaa
open Go.RowKit Go.Sort Go.Shelf

/-- the law's last, of memories of the call's own -/
theorem last_ms (base : Nat) (f1 s : Int) (n : Nat) (pre : List Itm) (x : Itm) (v : Value) (A : Option Addr) (c : Nat) (w : World) (hm : Ms base s (pre ++ [x]) v w) (hl : pre.length ≤ 1000000) :
    Calls Try.prog 25 #[.agg #[.int .i64 f1, .slice A n c], v, .int .i64 0] w fun e w' => e = .returned (.agg #[.int .i64 s, .slice x.1 x.2.2.length x.2.1]) ∧ Below w.heap.size w w' := by
  obtain ⟨g, cap, rfl⟩ : ∃ g cap, v = .slice (some ⟨g, 0, none⟩) (pre.length + 1) cap := by
    obtain ⟨g, cap, hv⟩ := ownsRow_succ (k := pre.length) (by simpa using hm.1)
    exact ⟨g, cap, hv⟩
  obtain ⟨q1, q2⟩ := cellsE_get s (pre ++ [x]) pre.length x (by simp)
  have hr := RdS.of_own (A := some ⟨g, 0, none⟩) (n := pre.length + 1) (by simpa using hm.1)
  obtain ⟨b, o, e, _, hc⟩ := hr.2 (by omega)
  obtain ⟨rfl, rfl⟩ : g = b ∧ 0 = o := by simpa using e
  have z0 := hc _ _ q1
  have z1 := hc _ _ q2
  rw [Nat.zero_add] at z0 z1
  have lg : g < w.heap.size := (own_lt hm.1 rfl).2
  have e0 : ((0 : Int) != 0) = false := rfl
  have e1 : (((pre.length : Int) + 1) == 0) = false := by rw [beq_eq_false_iff_ne]; omega
  have i1 : (0 : Int) ≤ (pre.length : Int) := by omega
  have i2 : (pre.length : Int) < (pre.length : Int) + 1 := by omega
  clear e hc hr q1 q2 hm
  go_enter Try.func25, Try.ntmps25
  go_wp2
  obtain ⟨X, hX⟩ : ∃ Zz, Zz = ((w.alloc (.cells #[.int .i64 f1, .slice A n c] 24)).alloc (.cells #[.int .i64 s, .slice x.1 x.2.2.length x.2.1] 24)) := ⟨_, rfl⟩
  have kX : Bk X (w.heap.size + 1) 24 #[.int .i64 s, .slice x.1 x.2.2.length x.2.1] := by rw [hX]; exact bkOf (by simp [at?_alloc])
  have hbX : Below w.heap.size w X := by rw [hX]; exact al2 _ _ _
  rw [← hX]
  obtain ⟨u0, u1⟩ := box2 kX
  clear hX
  exact bodyPost_ret (v := .agg #[.int .i64 s, .slice x.1 x.2.2.length x.2.1]) (by simp [results, Try.results25, go_sem, u0, u1]) rfl ⟨rfl, hbX⟩

/-- between two rounds -/
structure Sq (w : World) (l : List Rec) (base Bf : Nat) (s : Int) (N : Nat) (k : Nat) (fm : Mem) (ws : List Itm) (A : Option Addr) (c : Nat) (v : Value) (wr : World) : Prop where
  kl : k ≤ l.length
  wk : ws.length ≤ k
  own : wr.ownsRow base 22 1 v ws.length (ws.map cellB)
  items : ∀ x ∈ ws, RdB w w.heap.size x.1 x.2.2 ∧ x.2.2.length ≤ x.2.1 ∧ x.2.2.length ≤ 700
  box : Bk wr Bf 24 #[.int .i64 s, .slice A N c]
  rd : RdB wr wr.heap.size A fm.2
  nc : N ≤ c
  sep : ∀ g, v.ownBlock = some g → ∀ b o, A = some ⟨b, o, none⟩ → b ≠ g
  fs : fm.1 = s
  fl : fm.2.length = N
  cj : Cj fm (ws.map (·.2.2))
  below : Below w.heap.size w wr
  bs : base ≤ wr.heap.size

set_option maxHeartbeats 800000 in
theorem JournalSequence_walk (a0 a1 : Int) (l : List Rec) (Al : Option Addr) (cl : Nat) (lo0 : -9223372036854775808 ≤ a0) (hi0 : a0 ≤ 9223372036854775807) (lo1 : -9223372036854775808 ≤ a1) (hi1 : a1 ≤ 9223372036854775807) (w : World) (hL : RdBs w w.heap.size Al l) (hk2 : ∀ d ∈ l, d.length ≤ 9223372036854775807) (hkl : l.length ≤ 9223372036854775807) :
    Calls Try.prog 5 #[.int .i64 a0, .int .i64 a1, .slice Al l.length cl] w fun e w' => e = .returned (.bool true) ∧ Below w.heap.size w w' := by
  obtain ⟨i1, hj, hw0, hw1, hw2⟩ := info_parts info_bs
  have HL := Lib.hid hL
  have HB := Lib.hid (Below.refl w.heap.size w)
  clear hL
  go_enter Try.func5, Try.ntmps5
  go_wp2_with fail
  refine (head_any _).mono ?_
  rintro e V1 ⟨rfl, hb⟩
  replace HB := Lib.hid (bt hb HB.out)
  clear hb
  go_wp2_with fail
  refine (Format_any a0 a1 _ lo0 hi0 lo1 hi1).mono ?_
  rintro e V2 ⟨A0, c0, rfl, hc0, r0, hb⟩
  replace HB := Lib.hid (bt hb HB.out)
  clear hb
  obtain ⟨M0, hM0⟩ : ∃ M, M = fmtM a0 a1 := ⟨_, rfl⟩
  obtain ⟨E0, hE0⟩ : ∃ E, E = fmtE a0 a1 := ⟨_, rfl⟩
  rw [← hM0] at hc0 r0 ⊢
  rw [← hE0]
  have HM0 := Lib.hid hM0
  have HE0 := Lib.hid hE0
  have F0 := Lib.hid r0
  clear hM0 hE0 r0
  by_cases h0 : E0 = 0
  · by_cases h600 : M0.2.length ≤ 600
    · by_cases h40 : l.length ≤ 40
      · have z1 : ¬ (600 : Int) < (M0.2.length : Int) := by omega
        have z2 : ¬ (40 : Int) < (l.length : Int) := by omega
        obtain ⟨hcj, h4k, h32⟩ := fmt_ok (s := a0) (k := a1) (by rw [← HE0.out, h0])
        rw [← HM0.out] at hcj h4k h32
        have HCJ := Lib.hid hcj
        obtain ⟨s, hs⟩ : ∃ s, s = M0.1 := ⟨_, rfl⟩
        obtain ⟨N, hN⟩ : ∃ N, N = M0.2.length := ⟨_, rfl⟩
        rw [← hs, ← hN]
        rw [← hN] at hc0 z1 h4k h32 h600
        have HS := Lib.hid hs
        have HN := Lib.hid hN
        subst h0
        obtain ⟨H, hH⟩ : ∃ H, H = N / 2 := ⟨_, rfl⟩
        have hHI : (N : Int) / 2 = (H : Int) := by omega
        have HH := Lib.hid hH
        have hHb : H ≤ 2048 := by omega
        clear hcj hs hN hH
        go_wp2
        obtain ⟨Bf, hBf⟩ : ∃ Bf, Bf = V2.heap.size := ⟨_, rfl⟩
        obtain ⟨U3, hU3⟩ : ∃ Zz, Zz = V2.alloc (.cells #[.int .i64 s, .slice A0 N c0] 24) := ⟨_, rfl⟩
        have k3 : Bk U3 Bf 24 #[.int .i64 s, .slice A0 N c0] := by rw [hU3, hBf]; exact Bk.new _ _ _
        have hb3 : Below V2.heap.size V2 U3 := by rw [hU3]; exact al1 _ _
        have hwB : w.heap.size ≤ Bf := by rw [hBf]; exact HB.out.size
        rw [← hU3, ← hBf]
        have SQ0 : Hid (Sq w l w.heap.size Bf s N 0 M0 [] A0 c0 (.slice none 0 0) U3) := ⟨Nat.zero_le _, Nat.le_refl _, World.ownsRow_nil _ _ _ _, by simp, k3, F0.out.next hb3, hc0, by intro g hg; simp [Value.ownBlock] at hg, HS.out.symm, HN.out.symm, HCJ.out, bt hb3 HB.out, (bt hb3 HB.out).size⟩
        clear hU3 hBf k3 hb3 F0
        go_loopw [7, 10, 11, 12] (fun up v us i wr => ∃ (k : Nat) (fm : Mem) (ws : List Itm) (A : Option Addr) (c : Nat), up = .bool true ∧ us = .int .i64 (5 + (room (ws.map (·.2.2)) : Int)) ∧ i = .int .i64 (k : Int) ∧ Sq w l w.heap.size Bf s N k fm ws A c v wr) (fun _ _ _ i _ => l.length - (intOf i).toNat)
        case atStart => exact ⟨0, M0, [], A0, c0, rfl, by simp [room], rfl, SQ0.out⟩
        case round =>
          obtain ⟨k, fm, ws, A, c, rfl, rfl, rfl, sq⟩ := hrel
          have SQ := Lib.hid sq
          have hkl := sq.kl
          have hNc := sq.nc
          obtain ⟨c80, c81⟩ := box2 sq.box
          have lBf := sq.box.lt
          obtain ⟨Av, cv, rfl, _, _⟩ := own_read sq.own
          have hwr := sq.below.size
          have hHf : hf fm = H := by unfold hf; rw [sq.fl, HH.out]
          have hrw : 5 + room (ws.map (·.2.2)) ≤ H := by
            obtain ⟨a, l', e', hJ⟩ := Jr.of sq.cj.1
            have hf4 := hJ.facts.2.2.2.1
            have h9 := sq.cj.2.2.1
            rw [hJ.look.2] at h9
            rw [hHf] at hf4
            have : e' = 5 + room (ws.map (·.2.2)) := h9
            omega
          have HHF := Lib.hid hHf
          obtain ⟨us, hus⟩ : ∃ us, us = 5 + room (ws.map (·.2.2)) := ⟨_, rfl⟩
          have husI : (5 : Int) + (room (ws.map (·.2.2)) : Int) = (us : Int) := by omega
          rw [husI]
          rw [← hus] at hrw
          have HUS := Lib.hid hus
          clear husI hus hHf
          by_cases hlt : k < l.length
          · obtain ⟨b5, o5, A', c', rfl, hb5, hcell, hcc, hrd⟩ := (HL.out.next sq.below).at_ hlt
            obtain ⟨b6, o6, A6, c6, e6, hb6, hcell6, hcc6, hrd6⟩ := HL.out.at_ hlt
            obtain ⟨rfl, rfl⟩ : b5 = b6 ∧ o5 = o6 := by simpa using e6
            have h66 := (sq.below.cell (p := ⟨b5, o5 + k, none⟩) hb6).symm.trans hcell
            rw [hcell6] at h66
            obtain ⟨rfl, _, rfl⟩ : A6 = A' ∧ True ∧ c6 = c' := by
              injection h66 with h66; injection h66 with e1 e2 e3; exact ⟨e1, trivial, e3⟩
            obtain ⟨d, hd⟩ : ∃ d, d = l[k] := ⟨_, rfl⟩
            rw [← hd] at hcell hcc hrd hrd6
            have HD := Lib.hid hd
            have RD := Lib.hid hrd
            have RD6 := Lib.hid hrd6
            have k1 : (0 : Int) ≤ (k : Int) := by omega
            have k2 : (k : Int) < (l.length : Int) := by omega
            clear sq hd hrd hrd6 e6 hcell6 hcc6 h66
            by_cases h7 : 700 < d.length
            · have q7 : (700 : Int) < (d.length : Int) := by omega
              go_wp2
              go_ret
              exact ⟨rfl, SQ.out.below⟩
            · have q7 : ¬ (700 : Int) < (d.length : Int) := by omega
              go_wp2
              have hKS : ∀ w', Below wr.heap.size wr w' → (w'.cell? ⟨Bf, 0, none⟩ = some (.int .i64 s) ∧ w'.cell? ⟨Bf, 1, none⟩ = some (.slice A N c) ∧ w'.cell? ⟨b5, o5 + k, none⟩ = some (.slice A6 d.length c6)) := fun w' hW => ⟨(box2 (SQ.out.box.next hW)).1, (box2 (SQ.out.box.next hW)).2, (hW.cell (p := ⟨b5, o5 + k, none⟩) (by omega)).trans hcell⟩
              have HKS := Lib.hid hKS
              clear hKS c80 c81
              refine region_S (fun w' => w'.cell? ⟨Bf, 0, none⟩ = some (.int .i64 s) ∧ w'.cell? ⟨Bf, 1, none⟩ = some (.slice A N c) ∧ w'.cell? ⟨b5, o5 + k, none⟩ = some (.slice A6 d.length c6)) 10 (by kernel_rfl) ?_
              obtain ⟨W0, hW0⟩ : ∃ Zz, Zz = wr.drew := ⟨_, rfl⟩
              have hb0 : Below wr.heap.size wr W0 := by rw [hW0]; exact (Below.refl _ wr).drew
              rw [← hW0]
              clear hW0
              have HS0 := HKS.out _ hb0
              refine anyS_take (i := 0) rfl (by kernel_rfl) (by kernel_rfl) (by kernel_rfl) (by kernel_rfl) (fun _ _ _ h => h) (Or.inl ⟨by rfl, fun w' hS' => (by obtain ⟨s1, s2, s3⟩ := hS'; go_simp; try with_reducible rfl)⟩) HS0 ?_
              refine anyS_take (i := 1) rfl (by kernel_rfl) (by kernel_rfl) (by kernel_rfl) (by kernel_rfl) (fun _ _ _ h => h) (Or.inl ⟨by rfl, fun w' hS' => (by obtain ⟨s1, s2, s3⟩ := hS'; go_simp; try with_reducible rfl)⟩) HS0 ?_
              refine anyS_take (i := 2) rfl (by kernel_rfl) (by kernel_rfl) (by kernel_rfl) (by kernel_rfl) (fun _ _ _ h => h) (Or.inl ⟨by rfl, fun w' hS' => (by obtain ⟨s1, s2, s3⟩ := hS'; go_simp; try with_reducible rfl)⟩) HS0 ?_
              refine anyS_take (i := 3) rfl (by kernel_rfl) (by kernel_rfl) (by kernel_rfl) (by kernel_rfl) (fun _ _ _ h => h) (Or.inl ⟨by rfl, fun w' hS' => (by obtain ⟨s1, s2, s3⟩ := hS'; go_simp; try with_reducible rfl)⟩) HS0 ?_
              refine anyS_take (i := 4) rfl (by kernel_rfl) (by kernel_rfl) (by kernel_rfl) (by kernel_rfl) (fun _ _ _ h => h) (Or.inl ⟨by rfl, fun w' hS' => (by obtain ⟨s1, s2, s3⟩ := hS'; go_simp; try with_reducible rfl)⟩) HS0 ?_
              refine anyS_one (i := 5) (by kernel_rfl) rfl rfl (fun K hK => ?_)
              have HAP := Append_any fm d A A6 c c6 W0 (SQ.out.rd.next hb0) (by rw [SQ.out.fl]; exact hNc) (RD.out.next hb0) hcc (by omega)
              rw [SQ.out.fs, SQ.out.fl] at HAP
              obtain ⟨er, her⟩ : ∃ er, er = appE fm d := ⟨_, rfl⟩
              rw [← her] at HAP
              have HER := Lib.hid her
              have HAPH := Lib.hid HAP
              clear HAP her
              go_simp
              refine HAPH.out.mono ?_
              rintro e W1 ⟨v1, its, rfl, hm1, hmap1, hb1⟩
              obtain ⟨A1, c1, rfl, _, _⟩ := own_read hm1.1
              have HM1 := Lib.hid hm1
              have HMP := Lib.hid hmap1
              have hbW := bt hb1 hb0
              have HS1 := HKS.out _ hbW
              go_simp
              refine hK _ _ (fun _ => HS1) ?_
              clear hK K hm1 hmap1 HS0 HAPH
              refine anyS_take (i := 6) rfl (by kernel_rfl) (by kernel_rfl) (by kernel_rfl) (by kernel_rfl) (fun _ _ _ h => h) (Or.inl ⟨by rfl, fun w' hS' => (by obtain ⟨s1, s2, s3⟩ := hS'; go_simp; try with_reducible rfl)⟩) HS1 ?_
              refine anyS_take (i := 7) rfl (by kernel_rfl) (by kernel_rfl) (by kernel_rfl) (by kernel_rfl) (fun _ _ _ h => h) (Or.inl ⟨by rfl, fun w' hS' => (by obtain ⟨s1, s2, s3⟩ := hS'; go_simp; try with_reducible rfl)⟩) HS1 ?_
              refine anyS_take (i := 8) rfl (by kernel_rfl) (by kernel_rfl) (by kernel_rfl) (by kernel_rfl) (fun _ _ _ h => h) (Or.inl ⟨by rfl, fun w' hS' => (by obtain ⟨s1, s2, s3⟩ := hS'; go_simp; try with_reducible rfl)⟩) HS1 ?_
              refine anyS_one (i := 9) (by kernel_rfl) rfl rfl (fun K hK => ?_)
              go_simp
              refine hK _ _ (fun _ => HS1) ?_
              clear hK K
              refine anyS_one (i := 10) (by kernel_rfl) rfl rfl (fun K hK => ?_)
              go_simp
              refine hK _ _ (fun h => absurd rfl h) ?_
              clear hK K
              refine anyS_done (by kernel_rfl) ?_ _
              simp only [normPost]
              obtain ⟨c80, c81, hcell2⟩ := HS1
              have HBW := Lib.hid hbW
              have lw1 := hbW.size
              clear hb1 hb0 hbW HKS hcell
              have w7 : IntKind.i64.wrap ((us : Int) + 7) = (us : Int) + 7 := IntWalk.i64_in _ (by omega)
              have w8 : IntKind.i64.wrap ((us : Int) + 7 + (d.length : Int)) = (us : Int) + 7 + (d.length : Int) := IntWalk.i64_in _ (by omega)
              by_cases h8 : H < us + 7 + d.length
              · have q8 : (H : Int) < (us : Int) + 7 + (d.length : Int) := by omega
                have hE : appE fm d = 10 := cj_full SQ.out.cj d (by rw [HHF.out]; have := HUS.out; omega)
                obtain rfl : er = 10 := by rw [HER.out]; exact hE
                clear hE
                go_wp2
                go_quiet (fail)
                obtain ⟨W2, hW2⟩ : ∃ Zz, Zz = W1.drewN nq := ⟨_, rfl⟩
                have hb2 : Below W1.heap.size W1 W2 := by rw [hW2]; exact belowDrew (Below.refl _ W1) _
                rw [← hW2]
                clear hW2
                have hB2 := bt hb2 HBW.out
                have SQ2 : Hid (Sq w l w.heap.size Bf s N (k + 1) fm ws A c (.slice Av ws.length cv) W2) := ⟨by omega, by have := SQ.out.wk; omega, own_on SQ.out.own hB2, SQ.out.items, SQ.out.box.next hB2, SQ.out.rd.next hB2, hNc, SQ.out.sep, SQ.out.fs, SQ.out.fl, SQ.out.cj, bt hB2 SQ.out.below, by have := SQ.out.bs; have := hB2.size; omega⟩
                have HUI : Hid ((us : Int) = 5 + (room (ws.map (·.2.2)) : Int)) := by show _ = _; have := HUS.out; omega
                clear hb2 hB2 c80 c81 hcell2
                go_wp2
                go_roundw
                case rel => exact ⟨k + 1, fm, ws, A, c, rfl, by rw [HUI.out], by go_num, SQ2.out⟩
                case measure => simp [intOf]; omega
              · have q8 : ¬ (H : Int) < (us : Int) + 7 + (d.length : Int) := by omega
                obtain ⟨hE, F, z, hL, hFl, hzl, hcz⟩ := cj_fits SQ.out.cj d (by omega) (by rw [HHF.out]; have := HUS.out; omega)
                obtain rfl : er = 0 := by rw [HER.out]; exact hE
                rw [hL] at HMP
                obtain ⟨pr, x, rfl⟩ : ∃ pr x, its = pr ++ [x] := by
                  have hne : its ≠ [] := by intro e; have := HMP.out; rw [e] at this; simp at this
                  exact ⟨its.dropLast, its.getLast hne, (List.dropLast_concat_getLast hne).symm⟩
                have hx : x.2.2 = z := by
                  have h9 := HMP.out
                  rw [List.map_append] at h9
                  have := List.append_inj_right' h9 (by simp)
                  simpa using this
                have hpl : pr.length ≤ 1000000 := by
                  have h9 := congrArg List.length HMP.out
                  simp at h9
                  omega
                have hxl : x.2.2.length = N := by rw [hx, hzl, SQ.out.fl]
                have HX := Lib.hid hx
                have HXL := Lib.hid hxl
                have HCZ := Lib.hid hcz
                clear hE hL hFl hzl hcz hx hxl
                go_wp2
                go_quiet (fail)
                obtain ⟨W2, hW2⟩ : ∃ Zz, Zz = W1.drewN nq := ⟨_, rfl⟩
                have hb2 : Below W1.heap.size W1 W2 := by rw [hW2]; exact belowDrew (Below.refl _ W1) _
                rw [← hW2]
                clear hW2
                have hB2 := bt hb2 HBW.out
                have HM2 := Lib.hid (HM1.out.next hb2)
                have HO2 := Lib.hid (own_on SQ.out.own hB2)
                have K82 := Lib.hid (SQ.out.box.next hB2)
                have hc3 := (hb2.cell (p := ⟨b5, o5 + k, none⟩) (Nat.lt_of_lt_of_le hb5 lw1)).trans hcell2
                have HBB2 := Lib.hid (bt hB2 SQ.out.below)
                have l2 := HBB2.out.size
                have lwk := SQ.out.wk
                have lb2 : wr.heap.size ≤ W2.heap.size := hB2.size
                clear hb2 hB2 c80 c81 hcell2 HM1 HBW
                go_wp2_with (at_builtin; refine wpList_append_rd _ rfl (.tmp 90) (.tmp 95) _ rfl w.heap.size 22 i1 _ 1 24 Try.underlying25 hj hw0 hw1 hw2 rfl (by omega) (.slice Av ws.length cv) ws.length (ws.map cellB) rfl (HO2.out.alloc _) (W2.heap.size + 1) (some ⟨W2.heap.size, 0, none⟩) 1 1 [.slice A6 d.length c6] rfl (rd_cells (t := 22) (cs := #[.slice A6 d.length c6]) (Bk.new _ _ _) (by omega)) (by simp [Value.oneCell']) (by simp only [maxLen]; omega) (by omega) (by simp; omega) ?_; intro v3 W3 hown3 hg3 hat3; have hO3 : (W2.alloc (.cells #[.slice A6 d.length c6] 22)).ownsRow w.heap.size 22 1 (.slice Av ws.length cv) ws.length (ws.map cellB) := (HO2.out.alloc _); have K83 : Bk W3 Bf 24 #[.int .i64 s, .slice A N c] := (Bk.grown (K82.out.alloc _) hg3 (own_ne hO3 (K82.out.alloc _) (by decide))); have hb3 : Below w.heap.size w W3 := ((HBB2.out.alloc l2 _).grown hg3 (by simp; omega) (fun k hk => (own_lt hO3 hk).1)); have HM3 : Hid (Ms W0.heap.size s (pr ++ [x]) (.slice A1 (pr ++ [x]).length c1) W3) := (by have hm2 := HM2.out.next (al1 W2 (.cells #[.slice A6 d.length c6] 22)); exact hm2.keep (fun g hg => hg3.block g (own_lt hm2.1 hg).2 (fun e => own_apart hm2.1 hO3 (by decide) hg e.symm)) (fun y hy g hg => hg3.block g (own_lt (hm2.2 y hy) hg).2 (fun e => own_apart (hm2.2 y hy) hO3 (by decide) hg e.symm))); obtain ⟨A3, c3, rfl, _, _⟩ := own_read hown3; have HO3 := Lib.hid hown3; have KK83 := Lib.hid K83; have HB3 := Lib.hid hb3; clear hO3 hown3 hg3 hat3 K83 hb3 hc3; obtain ⟨c80, c81⟩ := box2 KK83.out)
                have hm3 := HM3.out
                rw [show (pr ++ [x]).length = pr.length + 1 by simp] at hm3
                have HM3' := Lib.hid hm3
                refine (last_ms W0.heap.size s s N pr x _ A c W3 HM3'.out hpl).mono ?_
                rintro e V4 ⟨rfl, hb4⟩
                rw [HXL.out]
                have K84 := KK83.out.next hb4
                have HK84 := Lib.hid K84
                have HO4 := Lib.hid (own_on HO3.out hb4)
                have HX4 := Lib.hid (own_on (hm3.2 x (by simp)) hb4)
                have HB4 := Lib.hid (bt hb4 HB3.out)
                have l4 : w.heap.size ≤ V4.heap.size := HB4.out.size
                clear hm3 HM3 HM3' hb4 c80 c81
                obtain ⟨c80, c81⟩ := box2 K84
                have f80 := K84.frozen 0
                have f81 := K84.frozen 1
                have lB4 := K84.lt
                clear K84
                go_wp2
                obtain ⟨X, hX⟩ : ∃ Zz, Zz = (V4.setCell ⟨Bf, 0, none⟩ (.int .i64 s)).setCell ⟨Bf, 1, none⟩ (.slice x.1 N x.2.1) := ⟨_, rfl⟩
                rw [← hX]
                have kX : Bk X Bf 24 #[.int .i64 s, .slice x.1 N x.2.1] := by rw [hX]; simpa using (HK84.out.set 0 (.int .i64 s)).set 1 (.slice x.1 N x.2.1)
                have tX : SameOut (fun g => g = Bf) V4 X := by rw [hX]; exact (SameOut.setCell (Pv := fun g => g = Bf) V4 (a := ⟨Bf, 0, none⟩) rfl _).trans (SameOut.setCell (Pv := fun g => g = Bf) _ (a := ⟨Bf, 1, none⟩) rfl _)
                have hOX := own_keep HO4.out (w' := X) (fun g hg => tX.block g (own_lt HO4.out hg).2 (fun e => own_ne HO4.out HK84.out (by decide) (by rw [hg, e])))
                have hxX := own_keep HX4.out (w' := X) (fun g hg => tX.block g (own_lt HX4.out hg).2 (fun e => own_ne HX4.out HK84.out (by decide) (by rw [hg, e])))
                obtain ⟨A9, c9, e9, hc9, hr9⟩ := own_read hxX
                have ea9 : x.1 = A9 ∧ x.2.1 = c9 := by simpa [cellB] using e9
                have hbX : Below w.heap.size w X := HB4.out.trans ⟨tX.os, tX.tape, tX.output, tX.size, fun g hg => tX.block g (by omega) (by omega)⟩
                have SQ9 : Hid (Sq w l w.heap.size Bf s N (k + 1) (mk fm x.2.2) (ws ++ [(A6, c6, d)]) x.1 x.2.1 (.slice A3 (ws.length + 1) c3) X) := by
                  refine ⟨by omega, by rw [List.length_append]; simp; omega, ?_, ?_, kX, ?_, ?_, ?_, SQ.out.fs, HXL.out, ?_, hbX, hbX.size⟩
                  · rw [List.length_append, List.map_append]
                    exact hOX
                  · intro y hy
                    rcases List.mem_append.1 hy with hy | hy
                    · exact SQ.out.items y hy
                    · obtain rfl : y = (A6, c6, d) := by simpa using hy
                      exact ⟨RD6.out, hcc, by show d.length ≤ 700; omega⟩
                  · show RdB X X.heap.size x.1 x.2.2
                    rw [ea9.1]; exact hr9
                  · rw [ea9.2, ← HXL.out]; exact hc9
                  · intro g hg b o hb
                    have h9 : (cellB x).ownBlock = some b := by unfold cellB; rw [hb]; simp [Value.ownBlock]
                    intro e
                    exact own_apart hxX hOX (by decide) h9 (by rw [hg, e])
                  · rw [List.map_append, HX.out]; exact HCZ.out
                have HUI : Hid ((us : Int) + 7 + (d.length : Int) = 5 + (room ((ws ++ [((A6, c6, d) : Itm)]).map (·.2.2)) : Int)) := by
                  show _ = _
                  have := HUS.out
                  rw [List.map_append, room_append]
                  simp [room]
                  omega
                clear hX kX tX hOX hxX e9 ea9 hr9 hc9 hbX c80 c81 f80 f81
                go_wp2
                go_roundw
                case rel => exact ⟨k + 1, mk fm x.2.2, ws ++ [(A6, c6, d)], x.1, x.2.1, rfl, by rw [HUI.out], by go_num, SQ9.out⟩
                case measure => simp [intOf]; omega
          · obtain rfl : k = l.length := by omega
            have q9 : ¬ ((l.length : Int) < (l.length : Int)) := by omega
            have hww := sq.wk
            obtain ⟨_, _, e9, _, hr9⟩ := own_read sq.own
            have hrb : RdBs wr wr.heap.size Av (ws.map (·.2.2)) := by
              refine rdBs_of ?_ (fun x hx => ⟨((sq.items x hx).1.below sq.below).more sq.below.size, (sq.items x hx).2.1⟩)
              obtain ⟨A8, c8, e8, _, hr8⟩ := own_read sq.own
              have ea8 : Av = A8 ∧ cv = c8 := by simpa using e8
              rw [ea8.1]; exact hr8
            have HRB := Lib.hid hrb
            have hh : hldB fm (ws.map (·.2.2)) = true := by unfold hldB; exact decide_eq_true ⟨sq.cj.1, sq.cj.2.1⟩
            have H9 := holds_lit true ws.length fm (ws.map (·.2.2)) A Av c cv wr hh (by simp) sq.rd (by rw [sq.fl]; exact hNc) HRB.out (by simp; omega) (fun x hx => by obtain ⟨y, hy, rfl⟩ := List.mem_map.1 hx; have := (sq.items y hy).2.2; omega)
            rw [sq.fs, sq.fl] at H9
            have H9H := Lib.hid H9
            clear H9 hh hrb sq e9 hr9
            go_wp2_with fail
            refine H9H.out.mono ?_
            rintro e V9 ⟨rfl, hb9⟩
            have HB9 := Lib.hid (bt hb9 SQ.out.below)
            clear hb9
            go_wp2
            go_ret
            exact ⟨rfl, HB9.out⟩
      · subst h0
        have z1 : ¬ (600 : Int) < (M0.2.length : Int) := by omega
        have z2 : (40 : Int) < (l.length : Int) := by omega
        go_wp2
        go_ret
        exact ⟨rfl, bt (al1 _ _) HB.out⟩
    · subst h0
      have z1 : (600 : Int) < (M0.2.length : Int) := by omega
      go_wp2
      go_ret
      exact ⟨rfl, bt (al1 _ _) HB.out⟩
  · have z0 : (E0 != 0) = true := by simp [h0]
    go_wp2
    go_ret
    exact ⟨rfl, bt (al1 _ _) HB.out⟩
end Go.Proofs.Ytkeghidlolidmaa
