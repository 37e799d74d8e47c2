/- The walk of the law FlashErasing. -/
import Derived.Test.YtjfpnldijlbmiaaFn
import Derived.Test.YtjfpnldijlbmiaaFwb
set_option linter.unusedVariables false
set_option linter.unusedSimpArgs false
namespace Go.Proofs.Ytjfpnldijlbmiaa
open Go.RowKit

def eraM (m : Mem) (k : Int) : Mem := (m.1, memo eraF m.2 (k * m.1).toNat m.1.toNat)
theorem era0_memo {m : Mem} {k : Int} (h : eraE m k = 0) (f : Nat → UInt8 → UInt8) (q i : Nat) : eraE (m.1, memo f m.2 q i) k = 0 := by
  obtain ⟨a, b, c⟩ := eraE_ok h
  exact (era_in (m := (m.1, memo f m.2 q i)) (by simpa [memo_length] using a) b (by simpa [memo_length] using c)).1
theorem eraL_eq {m : Mem} {k : Int} (h : eraE m k = 0) : eraL m k = (memos eraF m.2 (k * m.1).toNat m.1.toNat).map fun b => (m.1, b) := by simp [eraL, h]
theorem eraL_len {m : Mem} {k : Int} (h : eraE m k = 0) : ((eraL m k).length : Int) = m.1 + 1 := by
  obtain ⟨a, b, c⟩ := eraE_ok h
  have := (valid_iff _ _).1 a
  simp [eraL_eq h, memos_length]; omega
theorem era_last {m : Mem} {k : Int} (h : eraE m k = 0) : lastM (eraL m k) (eraE m k) (m.1 + 1) = eraM m k ∧ lastB (eraL m k) (eraE m k) (m.1 + 1) = true := by
  obtain ⟨a, b, c⟩ := eraE_ok h
  have hv := (valid_iff _ _).1 a
  have hB : lastB (eraL m k) (eraE m k) (m.1 + 1) = true := by
    simp [lastB, h, eraL_len h]; omega
  refine ⟨?_, hB⟩
  rw [lastM, if_pos hB, eraL_eq h, List.getLastD_eq_getLast?, List.getLast?_eq_getElem?, List.length_map, memos_length, Nat.add_sub_cancel, List.getElem?_map, memos_get _ _ _ _ _ (by omega)]
  rfl
theorem eraM_len (m : Mem) (k : Int) : (eraM m k).2.length = m.2.length := memo_length _ _ _ _
theorem era_at {m : Mem} {k : Int} (h : eraE m k = 0) {x : Mem} {i : Nat} (hx : (eraL m k)[i]? = some x) :
    x.2.length = m.2.length ∧ x.1 = m.1 ∧ eraE x k = 0 ∧ eraM x k = eraM m k := by
  have hi : i < m.1.toNat + 1 := by
    rcases Nat.lt_or_ge i (m.1.toNat + 1) with h' | h'
    · exact h'
    · rw [eraL_eq h, List.getElem?_eq_none (by simpa [memos_length] using h')] at hx; cases hx
  rw [eraL_eq h, List.getElem?_map, memos_get _ _ _ _ _ hi] at hx
  obtain rfl : (m.1, memo eraF m.2 (k * m.1).toNat i) = x := by simpa using hx
  refine ⟨memo_length _ _ _ _, rfl, era0_memo h _ _ _, ?_⟩
  unfold eraM
  simp only [memo_erase _ _ _ _ (Nat.le_of_lt_succ hi)]
theorem era_byte {m : Mem} {k : Int} (h : eraE m k = 0) (j : Nat) (hj : j < m.2.length) (hj' : j < (eraM m k).2.length) :
    (eraM m k).2[j] = if (j : Int) / m.1 = k then 255 else m.2[j] := by
  obtain ⟨a, b, c⟩ := eraE_ok h
  obtain ⟨v1, v2, v3, v4, v5⟩ := (valid_iff _ _).1 a
  have hs := sector_in v1 v5 b c
  have e := memo_get eraF m.2 (k * m.1).toNat m.1.toNat j hj
  have e1 : (eraM m k).2[j] = (memo eraF m.2 (k * m.1).toNat m.1.toNat).getD j 0 := by
    rw [List.getD_eq_getElem?_getD, List.getElem?_eq_getElem (by simpa [memo_length] using hj)]; rfl
  have e2 : m.2[j] = m.2.getD j 0 := by rw [List.getD_eq_getElem?_getD, List.getElem?_eq_getElem hj]; rfl
  rw [e1, e, e2]
  have hq : (j : Int) / m.1 = k ↔ (k * m.1).toNat ≤ j ∧ j < (k * m.1).toNat + m.1.toNat := by
    have d := Int.mul_ediv_add_emod (j : Int) m.1
    have r0 := Int.emod_nonneg (j : Int) (b := m.1) (by omega)
    have r1 := Int.emod_lt_of_pos (j : Int) (b := m.1) (by omega)
    constructor
    · rintro rfl
      rw [Int.mul_comm] at d
      omega
    · rintro ⟨h1, h2⟩
      rw [Int.ediv_eq_iff_of_pos (by omega)]
      constructor
      · omega
      · omega
  by_cases hh : (j : Int) / m.1 = k
  · rw [if_pos hh, if_pos (hq.1 hh)]; rfl
  · rw [if_neg hh, if_neg (fun h => hh (hq.2 h))]

set_option maxRecDepth 100000 in
set_option maxHeartbeats 4000000 in
theorem FlashErasing_walk (m : Mem) (A : Option Addr) (c : Nat) (k st : Int) (w : World) (hA : RdB w w.heap.size A m.2) (hcap : m.2.length ≤ c)
    (p0 : -9223372036854775808 ≤ k) (p1 : k ≤ 9223372036854775807) (b0 : 0 ≤ st) (b1 : st ≤ 65535) (hmx : m.2.length ≤ maxLen) :
    Calls Try.prog 8 #[.agg #[.int .i64 m.1, .slice A m.2.length c], .int .i64 k, .int .u16 st] w fun e w' => e = .returned (.bool true) ∧ Below w.heap.size w w' := by
  unfold maxLen at hmx
  by_cases h1 : m.2.length ≤ 300
  · have h1' : (m.2.length : Int) ≤ 300 := by omega
    have HB : Below w.heap.size w _ := al1 w (.cells #[.int .i64 m.1, .slice A m.2.length c] 24)
    have kf : Bk (w.alloc (.cells #[.int .i64 m.1, .slice A m.2.length c] 24)) w.heap.size 24 #[.int .i64 m.1, .slice A m.2.length c] := Bk.new _ _ _
    have rf := hA.next HB
    clear hA
    go_enter Try.func8, Try.ntmps8
    obtain ⟨xf0, xf1, _, _⟩ := boxFacts kf
    have lf := kf.lt
    have H_rf := Lib.hid rf
    clear rf
    go_wp2_with fail
    have rf := H_rf.out
    clear H_rf
    clear xf0 xf1 lf
    refine (head_any _).mono ?_
    rintro e V1 ⟨rfl, hb⟩
    have hB := hb
    have kf := kf.next hB
    have rf := rf.next hB
    have HB := bt hB HB
    clear hb hB
    obtain ⟨xf0, xf1, _, _⟩ := boxFacts kf
    have lf := kf.lt
    have H_rf := Lib.hid rf
    clear rf
    go_wp2_with fail
    have rf := H_rf.out
    clear H_rf
    clear xf0 xf1 lf
    refine (Erase_any m k A c _ rf (by omega) p0 p1).mono ?_
    rintro e V2 ⟨A1, c1, rfl, hc1, r1, hb⟩
    have hB := hb
    have kf := kf.next hB
    have rf := rf.next hB
    have HB := bt hB HB
    clear hb hB
    by_cases he : eraE m k = 0
    · have hl : 0 < (eraL m k).length := by have := eraL_len he; have := (valid_iff _ _).1 (eraE_ok he).1; omega
      have hs1 : 1 ≤ m.1 := ((valid_iff _ _).1 (eraE_ok he).1).1
      have hs2 : m.1 ≤ 512 := ((valid_iff _ _).1 (eraE_ok he).1).2.1
      have hk0 : 0 ≤ k := (eraE_ok he).2.1
      have HLL := Lib.hid (eraL_le m k)
      have HE := Lib.hid he
      have HAG := Lib.hid (fun (x : Mem) (i : Nat) (hx : (eraL m k)[i]? = some x) => era_at he hx)
      have HML := Lib.hid (eraM_len m k)
      have hml : (((eraM m k).2.length : Int) != (m.2.length : Int)) = false := by simp [eraM_len]
      have he' : (eraE m k != 0) = false := by simp [he]
      clear he
      obtain ⟨xf0, xf1, _, _⟩ := boxFacts kf
      have lf := kf.lt
      have H_rf := Lib.hid rf
      clear rf
      have H_r1 := Lib.hid r1
      clear r1
      go_wp2_with fail
      have rf := H_rf.out
      clear H_rf
      have r1 := H_r1.out
      clear H_r1
      clear xf0 xf1 lf
      refine (last_lit (eraM m k) true (eraL m k) (eraE m k) (m.1 + 1) A1 c1 _ (era_last HE.out).1 (era_last HE.out).2 r1 (by have := HLL.out; omega) (by omega) (by omega)).mono ?_
      rintro e V3 ⟨A2, c2, rfl, hc2, r2, hb⟩
      have hB := hb
      have kf := kf.next hB
      have rf := rf.next hB
      have r1 := r1.next hB
      have HB := bt hB HB
      clear hb hB
      obtain ⟨xf0, xf1, _, _⟩ := boxFacts kf
      have lf := kf.lt
      have H_rf := Lib.hid rf
      clear rf
      have H_r1 := Lib.hid r1
      clear r1
      have H_r2 := Lib.hid r2
      clear r2
      have HBH := Lib.hid HB
      clear HB
      go_wp2
      go_loopw [65] (fun i wr => ∃ j : Nat, i = .int .i64 j ∧ j ≤ (eraM m k).2.length ∧ wr = V3.alloc (.cells #[.int .i64 (eraM m k).1, .slice A2 (eraM m k).2.length c2] 24)) (fun i _ => (eraM m k).2.length - (intOf i).toNat)
      case atStart => exact ⟨0, rfl, Nat.zero_le _, rfl⟩
      case round =>
        obtain ⟨j, rfl, hj, rfl⟩ := hrel
        by_cases hlt : j < (eraM m k).2.length
        · have hlt2 : j < m.2.length := by have := HML.out; omega
          obtain ⟨a1, o1, rfl, g1, q1⟩ := H_r2.out.at_ hlt
          obtain ⟨a2, o2, rfl, g2, q2⟩ := H_rf.out.at_ hlt2
          have d0 : 0 ≤ (j : Int) / m.1 := Int.ediv_nonneg (by omega) (by omega)
          have d1 : (j : Int) / m.1 ≤ j := Int.ediv_le_self _ (by omega)
          have ev := era_byte HE.out j hlt2 hlt
          by_cases hq : (j : Int) / m.1 = k
          · rw [if_pos hq] at ev
            replace q1 : V3.cell? ⟨a1, o1 + j, none⟩ = some (.int .u8 255) := by rw [q1, ev]; rfl
            have hq' : ((j : Int) / m.1 == k) = true := by simp [hq]
            have hq2 : ((j : Int) / m.1 != k) = false := by simp [hq]
            clear ev hq
            go_wp2
            go_roundw
            case rel => exact ⟨j + 1, by go_num, by omega, by trivial⟩
            case measure => simp [intOf]; omega
          · rw [if_neg hq] at ev
            replace q1 : V3.cell? ⟨a1, o1 + j, none⟩ = some (.int .u8 (m.2[j].toNat : Int)) := by rw [q1, ev]
            have hq' : ((j : Int) / m.1 == k) = false := by simp [hq]
            have hq2 : ((j : Int) / m.1 != k) = true := by simp [hq]
            clear ev hq
            go_wp2
            go_roundw
            case rel => exact ⟨j + 1, by go_num, by omega, by trivial⟩
            case measure => simp [intOf]; omega
        · have HB := HBH.out
          clear xf0 xf1 lf
          have rf := H_rf.out
          clear H_rf
          have r1 := H_r1.out
          clear H_r1
          have r2 := H_r2.out
          clear H_r2
          obtain ⟨i, hi⟩ : ∃ i : Nat, st % ((eraL m k).length : Int) = (i : Int) := ⟨(st % ((eraL m k).length : Int)).toNat, (Int.toNat_of_nonneg (Int.emod_nonneg _ (by omega))).symm⟩
          have hil : i < (eraL m k).length := by have := Int.emod_lt_of_pos st (b := ((eraL m k).length : Int)) (by omega); omega
          obtain ⟨b, o, A', c', rfl, hb1, y0, y1, y2, rx⟩ := r1.at_ hil
          obtain ⟨x, hx⟩ : ∃ x, x = (eraL m k)[i] := ⟨_, rfl⟩
          rw [← hx] at y0 y1 y2 rx
          have HX := Lib.hid (HAG.out x i (by rw [hx]; exact List.getElem?_eq_getElem hil))
          have hx1 : x.1 = m.1 := HX.out.2.1
          have HX1 := Lib.hid hx1
          clear hx hx1
          obtain ⟨xf0, xf1, _, _⟩ := boxFacts kf
          have lf := kf.lt
          have H_rf := Lib.hid rf
          clear rf
          have H_r1 := Lib.hid r1
          clear r1
          have H_r2 := Lib.hid r2
          clear r2
          have H_rx := Lib.hid rx
          clear rx
          go_wp2_with fail
          have rf := H_rf.out
          clear H_rf
          have r1 := H_r1.out
          clear H_r1
          have r2 := H_r2.out
          clear H_r2
          have rx := H_rx.out
          clear H_rx
          clear xf0 xf1 lf
          refine (Erase_lit (eraL x k) 0 x k A' c' _ rfl HX.out.2.2.1 (rx.next (al1 _ _)) (by have := HX.out.1; omega) p0 p1).mono ?_
          rintro e V4 ⟨A3, c3, rfl, hc3, r3, hb⟩
          have hB := bt hb (al1 V3 _)
          have kf := kf.next hB
          have rf := rf.next hB
          have r1 := r1.next hB
          have r2 := r2.next hB
          have rx := rx.next hB
          have kg : Bk V4 V3.heap.size 24 _ := ((Bk.new _ _ _)).next hb
          have HB := bt hB HB
          clear hb hB
          clear y0 y1
          obtain ⟨xf0, xf1, _, _⟩ := boxFacts kf
          have lf := kf.lt
          obtain ⟨xg0, xg1, _, _⟩ := boxFacts kg
          have lg := kg.lt
          have H_rf := Lib.hid rf
          clear rf
          have H_r1 := Lib.hid r1
          clear r1
          have H_r2 := Lib.hid r2
          clear r2
          have H_rx := Lib.hid rx
          clear rx
          have H_r3 := Lib.hid r3
          clear r3
          go_wp2_with fail
          have rf := H_rf.out
          clear H_rf
          have r1 := H_r1.out
          clear H_r1
          have r2 := H_r2.out
          clear H_r2
          have rx := H_rx.out
          clear H_rx
          have r3 := H_r3.out
          clear H_r3
          clear xf0 xf1 lf
          clear xg0 xg1 lg
          refine (last_lit (eraM m k) true (eraL x k) 0 (m.1 + 1) A3 c3 _ (by have := (era_last HX.out.2.2.1).1; rwa [HX.out.2.2.1, HX.out.2.2.2, HX1.out] at this) (by have := (era_last HX.out.2.2.1).2; rwa [HX.out.2.2.1, HX1.out] at this) r3 (by have := eraL_le x k; omega) (by omega) (by omega)).mono ?_
          rintro e V5 ⟨A4, c4, rfl, hc4, r4, hb⟩
          have hB := hb
          have kf := kf.next hB
          have kg := kg.next hB
          have rf := rf.next hB
          have r1 := r1.next hB
          have r2 := r2.next hB
          have rx := rx.next hB
          have r3 := r3.next hB
          have HB := bt hB HB
          clear hb hB
          obtain ⟨xf0, xf1, _, _⟩ := boxFacts kf
          have lf := kf.lt
          obtain ⟨xg0, xg1, _, _⟩ := boxFacts kg
          have lg := kg.lt
          have H_rf := Lib.hid rf
          clear rf
          have H_r1 := Lib.hid r1
          clear r1
          have H_r2 := Lib.hid r2
          clear r2
          have H_rx := Lib.hid rx
          clear rx
          have H_r3 := Lib.hid r3
          clear r3
          have H_r4 := Lib.hid r4
          clear r4
          go_wp2_with fail
          have rf := H_rf.out
          clear H_rf
          have r1 := H_r1.out
          clear H_r1
          have r2 := H_r2.out
          clear H_r2
          have rx := H_rx.out
          clear H_rx
          have r3 := H_r3.out
          clear H_r3
          have r4 := H_r4.out
          clear H_r4
          clear xf0 xf1 lf
          clear xg0 xg1 lg
          refine (Same_same (eraM m k) A4 A2 c4 c2 _ (r4.next (al1 _ _)) (r2.next (al1 _ _)) (by have := HML.out; omega)).mono ?_
          rintro e V6 ⟨rfl, hb⟩
          have hB := bt hb (al1 V5 _)
          have kf := kf.next hB
          have kg := kg.next hB
          have rf := rf.next hB
          have r1 := r1.next hB
          have r2 := r2.next hB
          have rx := rx.next hB
          have r3 := r3.next hB
          have r4 := r4.next hB
          have kh : Bk V6 V5.heap.size 24 _ := ((Bk.new _ _ _)).next hb
          have HB := bt hB HB
          clear hb hB
          obtain ⟨xf0, xf1, _, _⟩ := boxFacts kf
          have lf := kf.lt
          obtain ⟨xg0, xg1, _, _⟩ := boxFacts kg
          have lg := kg.lt
          obtain ⟨xh0, xh1, _, _⟩ := boxFacts kh
          have lh := kh.lt
          have H_rf := Lib.hid rf
          clear rf
          have H_r1 := Lib.hid r1
          clear r1
          have H_r2 := Lib.hid r2
          clear r2
          have H_rx := Lib.hid rx
          clear rx
          have H_r3 := Lib.hid r3
          clear r3
          have H_r4 := Lib.hid r4
          clear r4
          have HBH := Lib.hid HB
          clear HB
          go_wp2
          go_ret
          exact ⟨rfl, HBH.out⟩
    · have hl : (eraL m k).length = 0 := by simp [eraL, he]
      have he' : (eraE m k != 0) = true := by simp [he]
      clear he
      obtain ⟨xf0, xf1, _, _⟩ := boxFacts kf
      have lf := kf.lt
      have H_rf := Lib.hid rf
      clear rf
      have H_r1 := Lib.hid r1
      clear r1
      have HBH := Lib.hid HB
      clear HB
      go_wp2
      go_ret
      exact ⟨rfl, HBH.out⟩
  · have h1' : 300 < (m.2.length : Int) := by omega
    have HB : Below w.heap.size w _ := al1 w (.cells #[.int .i64 m.1, .slice A m.2.length c] 24)
    have kf : Bk (w.alloc (.cells #[.int .i64 m.1, .slice A m.2.length c] 24)) w.heap.size 24 #[.int .i64 m.1, .slice A m.2.length c] := Bk.new _ _ _
    have rf := hA.next HB
    clear hA
    go_enter Try.func8, Try.ntmps8
    obtain ⟨xf0, xf1, _, _⟩ := boxFacts kf
    have lf := kf.lt
    have H_rf := Lib.hid rf
    clear rf
    go_wp2_with fail
    have rf := H_rf.out
    clear H_rf
    clear xf0 xf1 lf
    refine (head_any _).mono ?_
    rintro e V1 ⟨rfl, hb⟩
    have hB := hb
    have kf := kf.next hB
    have rf := rf.next hB
    have HB := bt hB HB
    clear hb hB
    obtain ⟨xf0, xf1, _, _⟩ := boxFacts kf
    have lf := kf.lt
    have H_rf := Lib.hid rf
    clear rf
    have HBH := Lib.hid HB
    clear HB
    go_wp2
    go_ret
    exact ⟨rfl, HBH.out⟩
end Go.Proofs.Ytjfpnldijlbmiaa
