/- TopVoidsArrive: the walk where all is valid. -/
import Derived.Test.YthihhmlgpokomaaWu
import Derived.Maps.OwnSet
set_option maxRecDepth 100000
set_option linter.unusedVariables false
set_option linter.unusedSimpArgs false
namespace Go.Proofs.Ythihhmlgpokomaa
open Go.RowKit Go.Maps

set_option maxHeartbeats 4000000 in
theorem law_main (hR : RcvOk) (l : List Cd) (v : List Vd) (ord : List UInt8) (A B O : Option Addr) (c cb co : Nat) (number epoch : Int) (w : World) (hcb : v.length ≤ cb) (hA : RdC w w.heap.size A l) (hB : RdV w w.heap.size B v) (hO : RdB w w.heap.size O ord)
    (h1a : l.length ≤ 80) (h1b : v.length ≤ 80) (h2 : ¬ v = []) (g4 : (ord.length : Int) ≤ 200) (hC : COk l) (hV : VOk v) (h6 : 1 ≤ number ∧ number ≤ 1000000) (h7 : 0 ≤ epoch ∧ epoch ≤ 1000000) :
    Calls Try.prog 3 #[.slice A l.length c, .slice B v.length cb, .slice O ord.length co, .int .i64 number, .int .i64 epoch] w fun e w' => e = .returned (.bool true) ∧ Below w.heap.size w w' := by
  have hf : decide (l.length ≤ 80 ∧ v.length ≤ 80) = true := decide_eq_true ⟨h1a, h1b⟩
  have HF := Lib.hid hf
  have hv0 : 0 < v.length := List.length_pos_iff.2 h2
  have g1 : ((v.length : Int) == 0) = false := by rw [beq_eq_false_iff_ne]; omega
  have g5 : decide ((200 : Int) < (ord.length : Int)) = false := decide_eq_false (by omega)
  have HB := Lib.hid (Below.refl w.heap.size w)
  have F_a := Lib.hid hA
  have F_b := Lib.hid hB
  have F_o := Lib.hid hO
  have HC := Lib.hid hC
  have HV := Lib.hid hV
  have HNN := Lib.hid h6
  have HEE := Lib.hid h7
  have hq1 : decide (1 ≤ number ∧ number ≤ 1000000) = true := decide_eq_true h6
  have hq2 : decide (0 ≤ epoch ∧ epoch ≤ 1000000) = true := decide_eq_true h7
  have HN := Lib.hid hq1
  have HE := Lib.hid hq2
  clear hf hA hB hO hC hV h6 h7 hq1 hq2
  go_enter Try.func3, Try.ntmps3
  go_wp2_with fail
  refine (Hub_yes hR _).mono ?_
  rintro e V1 ⟨rfl, hb⟩
  have hB := hb
  replace F_a := Lib.hid (F_a.out.next hB)
  replace F_b := Lib.hid (F_b.out.next hB)
  replace F_o := Lib.hid (F_o.out.next hB)
  replace HB := Lib.hid (bt hB HB.out)
  clear hb hB
  go_wp2_with fail
  refine (Few_lit true _ _ HF.out A B c cb _).mono ?_
  rintro e w' ⟨rfl, rfl⟩
  go_wp2_with fail
  refine (rValid_yes l A c _ HC.out (by omega) F_a.out).mono ?_
  rintro e V2 ⟨rfl, hb⟩
  have hB := hb
  replace F_a := Lib.hid (F_a.out.next hB)
  replace F_b := Lib.hid (F_b.out.next hB)
  replace F_o := Lib.hid (F_o.out.next hB)
  replace HB := Lib.hid (bt hB HB.out)
  clear hb hB
  go_wp2_with fail
  refine (rVoids_yes v B cb _ HV.out (by omega) F_b.out).mono ?_
  rintro e V3 ⟨rfl, hb⟩
  have hB := hb
  replace F_a := Lib.hid (F_a.out.next hB)
  replace F_b := Lib.hid (F_b.out.next hB)
  replace F_o := Lib.hid (F_o.out.next hB)
  replace HB := Lib.hid (bt hB HB.out)
  clear hb hB
  go_wp2_with fail
  refine (rNumber_lit true number _ HN.out).mono ?_
  rintro e w' ⟨rfl, rfl⟩
  go_wp2_with fail
  refine (rEpoch_lit true epoch _ HE.out).mono ?_
  rintro e w' ⟨rfl, rfl⟩
  obtain ⟨q, hq⟩ : ∃ q, (arrS (ksU v.length ord)).1 = q := ⟨_, rfl⟩
  have hql : q ≤ v.length := by
    have h9 := (arr_iv (ksU v.length ord) (ksU_lt hv0 ord) _ (Nat.le_refl _)).le
    rw [List.take_of_length_le (Nat.le_refl _), hq] at h9
    exact h9
  have HQ := Lib.hid hq
  obtain ⟨u, hu⟩ : ∃ u, v.take q = u := ⟨_, rfl⟩
  have hul : u.length = q := by rw [← hu, List.length_take]; omega
  have HU := Lib.hid hu
  have HUL := Lib.hid hul
  have HUV : Hid (VOk u) := Lib.hid (by rw [← hu]; exact HV.out.take _)
  have hql2 : (q : Int) ≤ (v.length : Int) := by omega
  have hqc : (q : Int) ≤ (cb : Int) := by omega
  have hq0 : (0 : Int) ≤ (q : Int) := by omega
  have g6 : decide (v.length < q) = false := decide_eq_false (by omega)
  have g7 : decide ((v.length : Int) < (q : Int)) = false := decide_eq_false (by omega)
  clear hq hu hul
  go_wp2_with fail
  refine (Arrive_lit hR q v ord B O v.length ord.length cb co _ rfl rfl HQ.out HV.out hv0 (by omega) F_b.out F_o.out).mono ?_
  rintro e V4 ⟨A9, c9, rfl, hc9, hr9, hb⟩
  have hB := hb
  replace F_a := Lib.hid (F_a.out.next hB)
  replace F_b := Lib.hid (F_b.out.next hB)
  replace F_o := Lib.hid (F_o.out.next hB)
  replace HB := Lib.hid (bt hB HB.out)
  clear hb hB
  rw [HU.out] at hr9
  have F_u := Lib.hid (hr9)
  clear hr9
  go_wp2_with fail
  refine (rSame_yes u q q HUL.out HUL.out A9 B c9 cb _ (by rw [HUL.out]; omega) F_u.out (by rw [← HU.out]; exact RdX.take vdE_len F_b.out hql)).mono ?_
  rintro e V5 ⟨rfl, hb⟩
  have hB := hb
  replace F_a := Lib.hid (F_a.out.next hB)
  replace F_b := Lib.hid (F_b.out.next hB)
  replace F_o := Lib.hid (F_o.out.next hB)
  replace F_u := Lib.hid (F_u.out.next hB)
  replace HB := Lib.hid (bt hB HB.out)
  clear hb hB
  have hmm := @run_makeMap Try.prog
  go_wp2
  clear hmm
  obtain ⟨Bm, hBm⟩ : ∃ Bm, Bm = V5.heap.size := ⟨_, rfl⟩
  have HST : Hid ((V5.alloc (.map #[] 0)).ownsMap Try.prog 3 (plainElem (H := Unit) Try.prog 4) Bm 0 (thereD ((ksU v.length ord).take 0))) := Lib.hid (by rw [hBm]; exact World.ownsMap_made _ _ _ _)
  have HAL : Hid (Below V5.heap.size V5 (V5.alloc (.map #[] 0))) := Lib.hid (al1 _ _)
  have HBM := Lib.hid hBm
  rw [← hBm]
  clear hBm
  go_loopw [88] (fun i wr => ∃ k : Nat, i = .int .i64 (k : Int) ∧ k ≤ ord.length ∧ wr.ownsMap Try.prog 3 (plainElem (H := Unit) Try.prog 4) Bm k (thereD ((ksU v.length ord).take k)) ∧ Below V5.heap.size V5 wr) (fun i _ => ord.length - (intOf i).toNat)
  case atStart => exact ⟨0, rfl, Nat.zero_le _, HST.out, HAL.out⟩
  case round =>
    obtain ⟨k, rfl, hk, hown, hb⟩ := hrel
    have HOWN := Lib.hid hown
    have HBK := Lib.hid hb
    clear hown hb
    by_cases hlt : k < ord.length
    · obtain ⟨b, o, rfl, hbb, x0⟩ := (F_o.out.next HBK.out).at_ hlt
      obtain ⟨x, hx⟩ : ∃ x, x = ord[k] := ⟨_, rfl⟩
      rw [← hx] at x0
      obtain ⟨t, ht⟩ : ∃ t, t = kthU v.length x := ⟨_, rfl⟩
      have htl : t < v.length := by rw [ht]; exact Nat.mod_lt _ hv0
      have hrem : (x.toNat : Int).tmod (v.length : Int) = (t : Int) := by rw [ht]; rfl
      have HT := Lib.hid ht
      have HXE := Lib.hid hx
      have k1 : (0 : Int) ≤ (k : Int) := by omega
      have k2 : (k : Int) < (ord.length : Int) := by omega
      have k3 : (v.length : Int) ≠ 0 := by omega
      have hx8 : (x.toNat : Int) < 256 := by have := x.toNat_lt; omega
      have hx0 : (0 : Int) ≤ (x.toNat : Int) := by omega
      have t0 : (0 : Int) ≤ (t : Int) := by omega
      have t1 : (t : Int) < (v.length : Int) := by omega
      have hkey : keyOf Try.prog 3 (.int .i64 (t : Int)) = some (litN t) := keyOf_int_mk Try.underlying3 (WalkArith.wf_i64 (by omega))
      clear ht hx
      go_wp2_with (at_mapUpdate; refine wpList_mapUpdate_own _ rfl _ _ _ 33 rfl 3 4 mlaw Try.underlying33 _ Bm k _ rfl HOWN.out (by unfold maxLen; omega) _ _ _ rfl rfl hkey _ [] (plainElem_bool Try.underlying4 true) ?_; intro w1 hown1 hgrow1)
      have HO1 : Hid (w1.ownsMap Try.prog 3 (plainElem (H := Unit) Try.prog 4) Bm (k + 1) (thereD ((ksU v.length ord).take (k + 1)))) := Lib.hid (by rw [thereD_snoc (by rw [ksU_len]; exact hlt), ksU_get hlt, ← HXE.out, ← HT.out]; exact hown1)
      have HB1 := Lib.hid (HBK.out.grown hgrow1 HBK.out.size (fun j hj => by cases hj; exact Nat.le_of_eq HBM.out.symm))
      clear hown1 hgrow1
      go_roundw
      case rel => exact ⟨k + 1, by go_num, by omega, HO1.out, HB1.out⟩
      case measure => simp [intOf]; omega
    · obtain rfl : k = ord.length := by omega
      have HMX : Hid (MpX wr Bm (ksU v.length ord)) := Lib.hid (by
        have h9 := HOWN.out
        rw [List.take_of_length_le (by rw [ksU_len]; exact Nat.le_refl _)] at h9
        exact ⟨_, by omega, h9⟩)
      replace F_a := Lib.hid (F_a.out.next HBK.out)
      replace F_b := Lib.hid (F_b.out.next HBK.out)
      replace F_u := Lib.hid (F_u.out.next HBK.out)
      replace HB := Lib.hid (bt HBK.out HB.out)
      clear F_o HOWN HBK
      obtain ⟨S, hS⟩ : ∃ S, Maps.size (thereD (ksU v.length ord)) = S := ⟨_, rfl⟩
      obtain ⟨K1, hK1⟩ : ∃ K, accK l v number epoch = K := ⟨_, rfl⟩
      obtain ⟨E1, hE1⟩ : ∃ K, accE l v number epoch = K := ⟨_, rfl⟩
      obtain ⟨K2, hK2⟩ : ∃ K, accK l u number epoch = K := ⟨_, rfl⟩
      obtain ⟨E2, hE2⟩ : ∃ K, accE l u number epoch = K := ⟨_, rfl⟩
      obtain ⟨m9, hm9⟩ : ∃ m, (lateL l u v epoch).length = m := ⟨_, rfl⟩
      have HS := Lib.hid hS
      have HK1 := Lib.hid hK1
      have HE1 := Lib.hid hE1
      have HK2 := Lib.hid hK2
      have HE2 := Lib.hid hE2
      have HM9 := Lib.hid hm9
      clear hS hK1 hE1 hK2 hE2 hm9
      have F_m := Lib.hid (HMX.out)
      clear HMX
      go_wp2_with fail
      refine (Accepts_len K1 E1 l v number epoch l.length v.length A B c cb _ rfl rfl HK1.out HE1.out HC.out HV.out HNN.out HEE.out F_a.out F_b.out).mono ?_
      rintro e V21 ⟨rfl, hb⟩
      have hB := hb
      replace F_a := Lib.hid (F_a.out.next hB)
      replace F_b := Lib.hid (F_b.out.next hB)
      replace F_u := Lib.hid (F_u.out.next hB)
      replace F_m := Lib.hid (F_m.out.next hB)
      replace HB := Lib.hid (bt hB HB.out)
      clear hb hB
      go_wp2_with fail
      refine (Accepts_len K2 E2 l u number epoch l.length q A A9 c c9 _ rfl HUL.out HK2.out HE2.out HC.out HUV.out HNN.out HEE.out F_a.out F_u.out).mono ?_
      rintro e V22 ⟨rfl, hb⟩
      have hB := hb
      replace F_a := Lib.hid (F_a.out.next hB)
      replace F_b := Lib.hid (F_b.out.next hB)
      replace F_u := Lib.hid (F_u.out.next hB)
      replace F_m := Lib.hid (F_m.out.next hB)
      replace HB := Lib.hid (bt hB HB.out)
      clear hb hB
      go_wp2_with fail
      refine (Late_len m9 l u v epoch l.length q v.length A A9 B c c9 cb _ rfl HUL.out rfl HM9.out HC.out HUV.out HV.out HEE.out F_a.out F_u.out F_b.out).mono ?_
      rintro e V23 ⟨A10, c10, rfl, hb⟩
      have hB := hb
      replace F_a := Lib.hid (F_a.out.next hB)
      replace F_b := Lib.hid (F_b.out.next hB)
      replace F_u := Lib.hid (F_u.out.next hB)
      replace F_m := Lib.hid (F_m.out.next hB)
      replace HB := Lib.hid (bt hB HB.out)
      clear hb hB
      have hlen := fun ty => F_m.out.len HS.out ty
      by_cases hs : S < v.length
      · have hs1 : (S : Int) < (v.length : Int) := by omega
        by_cases hE : E1 = 0
        · have HAT := Lib.hid (acc_take (l := l) (v := v) (n := number) (e := epoch) q (by rw [HE1.out]; exact hE))
          subst hE
          obtain rfl : E2 = 0 := by rw [← HE2.out, ← HU.out]; exact HAT.out.1
          obtain rfl : K2 = K1 := by rw [← HK2.out, ← HK1.out, ← HU.out]; exact HAT.out.2.symm
          go_wp2
          go_ret
          exact ⟨rfl, HB.out⟩
        · go_wp2
          go_ret
          exact ⟨rfl, HB.out⟩
      · have hqv : q = v.length := by
          have hall := there_all (ks := ksU v.length ord) (n := v.length) (fun x hx => by
            obtain ⟨i, hi, rfl⟩ := List.getElem_of_mem hx
            exact ksU_lt hv0 ord i hi) (S := (S : Int)) (by rw [HS.out]) (by omega)
          have := arr_all (ksU v.length ord) (ksU_lt hv0 ord) hall
          rw [HQ.out] at this
          exact this
        have huv : u = v := by rw [← HU.out, hqv]; exact List.take_of_length_le (Nat.le_refl _)
        obtain rfl : E2 = E1 := by rw [← HE2.out, ← HE1.out, huv]
        obtain rfl : K2 = K1 := by rw [← HK2.out, ← HK1.out, huv]
        obtain rfl : m9 = 0 := by rw [← HM9.out, huv, late_same]; rfl
        clear huv
        subst hqv
        have hsn : ¬ ((S : Int) < (v.length : Int)) := by omega
        by_cases hE : E2 = 0
        · subst hE
          go_wp2
          go_ret
          exact ⟨rfl, HB.out⟩
        · go_wp2
          go_ret
          exact ⟨rfl, HB.out⟩
end Go.Proofs.Ythihhmlgpokomaa
