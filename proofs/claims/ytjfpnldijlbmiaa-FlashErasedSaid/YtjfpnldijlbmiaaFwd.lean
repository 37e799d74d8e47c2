/- The walk of the law FlashErased. -/
import Derived.Test.YtjfpnldijlbmiaaFn
import Derived.Test.YtjfpnldijlbmiaaFwb
set_option linter.unusedVariables false
set_option linter.unusedSimpArgs false
namespace Go.Proofs.Ytjfpnldijlbmiaa
open Go.RowKit

theorem New_lit (M : Mem) (s k : Int) (w : World) (hM : newM s k = M) (hE : newE s k = 0) (hs0 : -9223372036854775808 ≤ s) (hs1 : s ≤ 9223372036854775807) (hp0 : -9223372036854775808 ≤ k) (hp1 : k ≤ 9223372036854775807) :
    Calls Try.prog 11 #[.int .i64 s, .int .i64 k] w (MemPost w M (.int .i64 0)) := by
  subst hM
  refine (New_any s k w hs0 hs1 hp0 hp1).mono fun e w' ⟨A, c, he, hc, hr, hb, _⟩ => ⟨A, c, ?_, hc, hr, hb⟩
  rw [he, hE]
theorem small_new {s k : Int} (h1 : 1 ≤ s) (h2 : s ≤ 64) (h3 : 1 ≤ k) (h4 : k ≤ 4) : newE s k = 0 ∧ newM s k = (s, List.replicate (s * k).toNat 255) ∧ validB s (s * k).toNat = true ∧ s ≤ s * k ∧ s * k ≤ 256 := by
  have d : 64 ≤ 4096 / s := by rw [Int.le_ediv_iff_mul_le (by omega)]; omega
  have e : newE s k = 0 := by unfold newE; rw [if_pos ⟨h1, by omega, h3, by omega⟩]
  have m1 : s * 1 ≤ s * k := Int.mul_le_mul_of_nonneg_left h3 (by omega)
  have m2 : s * k ≤ s * 4 := Int.mul_le_mul_of_nonneg_left h4 (by omega)
  refine ⟨e, by unfold newM; rw [if_pos e], (valid_iff _ _).2 ⟨h1, by omega, by omega, by omega, ?_⟩, by omega, by omega⟩
  rw [Int.toNat_of_nonneg (by omega)]
  exact Int.mul_emod_right _ _
theorem u8_255 (x : UInt8) : 255 &&& x = x := by
  apply UInt8.toBitVec_inj.1
  rw [UInt8.toBitVec_and]
  exact BitVec.allOnes_and
theorem erased_byte (s : Int) (N : Nat) (k : Int) (ds : List UInt8) (h : progE (s, List.replicate N 255) k ds = 0) (j : Nat) (hj : j < (doneM (s, List.replicate N 255) k ds).2.length) :
    (doneM (s, List.replicate N 255) k ds).2[j] = if k ≤ j ∧ (j : Int) < k + ds.length then ds.getD (j - k.toNat) 0 else 255 := by
  obtain ⟨a, b, c⟩ := prog0 h
  have e1 : (doneM (s, List.replicate N 255) k ds).2[j] = (doneM (s, List.replicate N 255) k ds).2.getD j 0 := by
    rw [List.getD_eq_getElem?_getD, List.getElem?_eq_getElem hj]; rfl
  have hjN : j < (List.replicate N (255 : UInt8)).length := by
    simp only [doneM, h, if_true, memo_length] at hj; exact hj
  have e2 : (List.replicate N (255 : UInt8)).getD j 0 = 255 := by
    rw [List.getD_eq_getElem?_getD, List.getElem?_eq_getElem hjN, List.getElem_replicate]; rfl
  rw [e1]
  simp only [doneM, h, if_true]
  rw [memo_get _ _ _ _ _ hjN, e2]
  by_cases hh : k.toNat ≤ j ∧ j < k.toNat + ds.length
  · rw [if_pos hh, if_pos (by omega)]; exact u8_255 _
  · rw [if_neg hh, if_neg (by omega)]

set_option maxRecDepth 100000 in
set_option maxHeartbeats 4000000 in
theorem FlashErased_walk (a b at_ : Int) (ds : List UInt8) (Ad : Option Addr) (cd : Nat) (w : World) (hD : RdB w w.heap.size Ad ds)
    (a0 : 0 ≤ a) (a1 : a ≤ 255) (b0 : 0 ≤ b) (b1 : b ≤ 255) (t0 : 0 ≤ at_) (t1 : at_ ≤ 65535) (hdx : ds.length ≤ maxLen) :
    Calls Try.prog 5 #[.int .u8 a, .int .u8 b, .int .u16 at_, .slice Ad ds.length cd] w fun e w' => e = .returned (.bool true) ∧ Below w.heap.size w w' := by
  unfold maxLen at hdx
  obtain ⟨s, hs⟩ : ∃ s, s = 1 + a % 64 := ⟨_, rfl⟩
  obtain ⟨k, hk⟩ : ∃ k, k = 1 + b % 4 := ⟨_, rfl⟩
  obtain ⟨q1, q2, q3, q4, q5⟩ := small_new (s := s) (k := k) (by omega) (by omega) (by omega) (by omega)
  obtain ⟨N, hN⟩ : ∃ N : Nat, (s * k).toNat = N := ⟨_, rfl⟩
  rw [hN] at q2 q3
  have n0 : 1 ≤ N := by omega
  have n1 : N ≤ 256 := by omega
  obtain ⟨M, hM⟩ : ∃ M : Mem, M = (s, List.replicate N 255) := ⟨_, rfl⟩
  have hMl : M.2.length = N := by rw [hM]; simp
  have Q1 := Lib.hid q1
  have Q2 := Lib.hid (q2.trans hM.symm)
  have q3' : validB M.1 M.2.length = true := by rw [hM]; simpa using q3
  have Q3 := Lib.hid q3'
  have HM := Lib.hid hM
  subst hN
  clear q1 q2 q3 q3' q4 q5 hM
  obtain ⟨N, hN⟩ : ∃ N : Nat, (s * k).toNat = N := ⟨_, rfl⟩
  rw [hN] at hMl n0 n1 HM
  subst hs
  subst hk
  clear hN
  rw [← hMl] at n0 n1
  have HMl := Lib.hid hMl
  clear hMl
  have HB : Below w.heap.size w w := Below.refl _ _
  go_enter Try.func5, Try.ntmps5
  have H_hD := Lib.hid hD
  clear hD
  go_wp2_with fail
  have hD := H_hD.out
  clear H_hD
  refine (head_any _).mono ?_
  rintro e V1 ⟨rfl, hb⟩
  have hB := hb
  have hD := hD.next hB
  have HB := bt hB HB
  clear hb hB
  have H_hD := Lib.hid hD
  clear hD
  go_wp2_with fail
  have hD := H_hD.out
  clear H_hD
  refine (New_lit M (1 + a % 64) (1 + b % 4) _ Q2.out Q1.out (by omega) (by omega) (by omega) (by omega)).mono ?_
  rintro e V2 ⟨A1, c1, rfl, hc1, r1, hb⟩
  have hB := hb
  have hD := hD.next hB
  have HB := bt hB HB
  clear hb hB
  by_cases hd : (ds.length : Int) ≤ (M.2.length : Int)
  · have hz : ((M.2.length : Int) == 0) = false := by rw [beq_eq_false_iff_ne]; omega
    obtain ⟨i, hi⟩ : ∃ i : Nat, at_ % ((M.2.length : Int) - (ds.length : Int) + 1) = (i : Int) := ⟨(at_ % ((M.2.length : Int) - (ds.length : Int) + 1)).toNat, (Int.toNat_of_nonneg (Int.emod_nonneg _ (by omega))).symm⟩
    have hil : (i : Int) < (M.2.length : Int) - (ds.length : Int) + 1 := by have := Int.emod_lt_of_pos at_ (b := ((M.2.length : Int) - (ds.length : Int) + 1)) (by omega); omega
    have HP := Lib.hid (prog0_of (ds := ds) Q3.out (Int.natCast_nonneg i) (by omega))
    obtain ⟨G, hG⟩ : ∃ G, doneM M (i : Int) ds = G := ⟨_, rfl⟩
    have hGl : G.2.length = M.2.length := by rw [← hG, doneM, if_pos HP.out]; exact memo_length _ _ _ _
    have HG := Lib.hid hG
    clear hG
    have H_hD := Lib.hid hD
    clear hD
    have H_r1 := Lib.hid r1
    clear r1
    go_wp2_with fail
    have hD := H_hD.out
    clear H_hD
    have r1 := H_r1.out
    clear H_r1
    refine (done_lit G true M (i : Int) ds A1 Ad c1 cd _ HG.out (by simp [doneB, HP.out]) (r1.next (al1 _ _)) (hD.next (al1 _ _)) (by omega) (by omega) (by omega) (by omega)).mono ?_
    rintro e V3 ⟨A2, c2, rfl, hc2, r2, hb⟩
    have hB := bt hb (al1 V2 _)
    have hD := hD.next hB
    have r1 := r1.next hB
    have kf : Bk V3 V2.heap.size 24 _ := ((Bk.new _ _ _)).next hb
    have HB := bt hB HB
    clear hb hB
    have hml : ((G.2.length : Int) != (M.2.length : Int)) = false := by simp [hGl]
    have HGL := Lib.hid hGl
    clear hGl
    obtain ⟨xf0, xf1, _, _⟩ := boxFacts kf
    have lf := kf.lt
    have H_hD := Lib.hid hD
    clear hD
    have H_r1 := Lib.hid r1
    clear r1
    have H_r2 := Lib.hid r2
    clear r2
    have HBH := Lib.hid HB
    clear HB
    go_wp2
    go_loopw [89] (fun i wr => ∃ j : Nat, i = .int .i64 j ∧ j ≤ G.2.length ∧ wr = V3.alloc (.cells #[.int .i64 G.1, .slice A2 G.2.length c2] 24)) (fun i _ => G.2.length - (intOf i).toNat)
    case atStart => exact ⟨0, rfl, Nat.zero_le _, rfl⟩
    case round =>
      obtain ⟨j, rfl, hj, rfl⟩ := hrel
      by_cases hlt : j < G.2.length
      · obtain ⟨a1, o1, rfl, g1, q1⟩ := H_r2.out.at_ hlt
        have ev : G.2[j] = if (i : Int) ≤ j ∧ (j : Int) < i + ds.length then ds.getD (j - (i : Int).toNat) 0 else 255 := by
          have h0 := HG.out
          rw [HM.out] at h0
          have hp := HP.out
          rw [HM.out] at hp
          have h1 : j < (doneM (1 + a % 64, List.replicate N 255) i ds).2.length := by rw [h0]; exact hlt
          have e := erased_byte _ _ _ _ hp j h1
          simp only [h0] at e
          exact e
        have hj3 : (j : Int) ≤ 256 := by have := HGL.out; omega
        by_cases hq : (i : Int) ≤ j
        · by_cases hq2 : (j : Int) < i + ds.length
          · rw [if_pos ⟨hq, hq2⟩] at ev
            obtain ⟨d, hde⟩ : ∃ d : Nat, (j : Int) - (i : Int) = (d : Int) := ⟨j - i, by omega⟩
            have hdl : d < ds.length := by omega
            obtain ⟨a2, o2, rfl, g2, q2⟩ := H_hD.out.at_ hdl
            rw [show j - (i : Int).toNat = d from by omega, List.getD_eq_getElem?_getD, List.getElem?_eq_getElem hdl, Option.getD_some] at ev
            rw [ev] at q1
            clear ev
            go_wp2
            go_roundw
            case rel => exact ⟨j + 1, by go_num, by omega, by trivial⟩
            case measure => simp [intOf]; omega
          · rw [if_neg (fun h => hq2 h.2)] at ev
            replace q1 : V3.cell? ⟨a1, o1 + j, none⟩ = some (.int .u8 255) := by rw [q1, ev]; rfl
            clear ev
            go_wp2
            go_roundw
            case rel => exact ⟨j + 1, by go_num, by omega, by trivial⟩
            case measure => simp [intOf]; omega
        · rw [if_neg (fun h => hq h.1)] at ev
          replace q1 : V3.cell? ⟨a1, o1 + j, none⟩ = some (.int .u8 255) := by rw [q1, ev]; rfl
          clear ev
          go_wp2
          go_roundw
          case rel => exact ⟨j + 1, by go_num, by omega, by trivial⟩
          case measure => simp [intOf]; omega
      · go_wp2
        go_ret
        exact ⟨rfl, bt (al1 _ _) HBH.out⟩
  · have hz : ((M.2.length : Int) == 0) = false := by rw [beq_eq_false_iff_ne]; omega
    have hz2 : 0 < M.2.length := by omega
    have hz3 : M.2.length < ds.length := by omega
    have H_hD := Lib.hid hD
    clear hD
    have H_r1 := Lib.hid r1
    clear r1
    have HBH := Lib.hid HB
    clear HB
    go_wp2
    go_ret
    exact ⟨rfl, bt (al1 _ _) HBH.out⟩
end Go.Proofs.Ytjfpnldijlbmiaa
