/- The walk of the law FlashAgain. -/
import Derived.Test.YtjfpnldijlbmiaaFn
import Derived.Test.YtjfpnldijlbmiaaFwa
set_option linter.unusedVariables false
set_option linter.unusedSimpArgs false
namespace Go.Proofs.Ytjfpnldijlbmiaa
open Go.RowKit

theorem again_at {m : Mem} {p : Int} {ds : List UInt8} (h : progE m p ds = 0) {x : Mem} {i : Nat} (hx : (progL m p ds)[i]? = some x) :
    x.2.length = m.2.length ∧ doneM x p ds = doneM m p ds ∧ doneB x p ds = true := by
  have hl : progL m p ds = (memos (andF ds) m.2 p.toNat ds.length).map fun b => (m.1, b) := by simp [progL, h]
  have hi : i < ds.length + 1 := by
    rcases Nat.lt_or_ge i (ds.length + 1) with h' | h'
    · exact h'
    · rw [hl, List.getElem?_eq_none (by simpa [memos_length] using h')] at hx; cases hx
  rw [hl, List.getElem?_map, memos_get _ _ _ _ _ hi] at hx
  obtain rfl : (m.1, memo (andF ds) m.2 p.toNat i) = x := by simpa using hx
  have h0 := prog0_memo h (andF ds) p.toNat i
  refine ⟨memo_length _ _ _ _, ?_, by simp [doneB, h0]⟩
  rw [doneM, if_pos h0, doneM, if_pos h]
  simp only [memo_again _ _ _ _ _ (Nat.le_of_lt_succ hi)]
theorem again_done {m : Mem} {p : Int} {ds : List UInt8} (h : progE m p ds = 0) : doneM (doneM m p ds) p ds = doneM m p ds ∧ doneB (doneM m p ds) p ds = true ∧ (doneM m p ds).2.length = m.2.length := by
  have h0 := prog0_memo h (andF ds) p.toNat ds.length
  have e : doneM m p ds = (m.1, memo (andF ds) m.2 p.toNat ds.length) := by rw [doneM, if_pos h]
  rw [e]
  refine ⟨?_, by simp [doneB, h0], memo_length _ _ _ _⟩
  rw [doneM, if_pos h0]
  simp only [memo_again _ _ _ _ _ (Nat.le_refl _)]
theorem done_lit (M : Mem) (b : Bool) (m : Mem) (p : Int) (ds : List UInt8) (A Ad : Option Addr) (c cd : Nat) (w : World) (hM : doneM m p ds = M) (hbb : doneB m p ds = b) (hA : RdB w w.heap.size A m.2) (hAd : RdB w w.heap.size Ad ds) (hn : m.2.length ≤ 1000000000) (hd : ds.length ≤ 100000000) (hp0 : -9223372036854775808 ≤ p) (hp1 : p ≤ 9223372036854775807) :
    Calls Try.prog 22 #[.agg #[.int .i64 m.1, .slice A m.2.length c], .int .i64 p, .slice Ad ds.length cd] w (MemPost w M (.bool b)) := by
  rw [← hM, ← hbb]; exact done_any m p ds A Ad c cd w hA hAd hn hd hp0 hp1
theorem progL_none {m : Mem} {p : Int} {ds : List UInt8} (h : progE m p ds ≠ 0) : progL m p ds = [] := by simp [progL, h]
theorem progL_len {m : Mem} {p : Int} {ds : List UInt8} (h : progE m p ds = 0) : (progL m p ds).length = ds.length + 1 := by simp [progL, h, memos_length]

set_option maxRecDepth 100000 in
set_option maxHeartbeats 4000000 in
theorem FlashAgain_walk (m : Mem) (A Ad : Option Addr) (c cd : Nat) (p st : Int) (ds : List UInt8) (w : World) (hA : RdB w w.heap.size A m.2) (hD : RdB w w.heap.size Ad ds) (hcap : m.2.length ≤ c)
    (p0 : -9223372036854775808 ≤ p) (p1 : p ≤ 9223372036854775807) (b0 : 0 ≤ st) (b1 : st ≤ 65535) (hmx : m.2.length ≤ maxLen) (hdx : ds.length ≤ maxLen) :
    Calls Try.prog 6 #[.agg #[.int .i64 m.1, .slice A m.2.length c], .int .i64 p, .slice Ad ds.length cd, .int .u16 st] w fun e w' => e = .returned (.bool true) ∧ Below w.heap.size w w' := by
  unfold maxLen at hmx hdx
  by_cases h1 : m.2.length ≤ 300
  · by_cases h2 : ds.length ≤ 300
    · have h1' : (m.2.length : Int) ≤ 300 := by omega
      have h2' : (ds.length : Int) ≤ 300 := by omega
      have HB : Below w.heap.size w _ := al1 w (.cells #[.int .i64 m.1, .slice A m.2.length c] 24)
      have kf : Bk (w.alloc (.cells #[.int .i64 m.1, .slice A m.2.length c] 24)) w.heap.size 24 #[.int .i64 m.1, .slice A m.2.length c] := Bk.new _ _ _
      have rf := hA.next HB
      have rd := hD.next HB
      clear hA hD
      go_enter Try.func6, Try.ntmps6
      obtain ⟨xf0, xf1, _, _⟩ := boxFacts kf
      have lf := kf.lt
      have H_rf := Lib.hid rf
      clear rf
      have H_rd := Lib.hid rd
      clear rd
      go_wp2_with fail
      have rf := H_rf.out
      clear H_rf
      have rd := H_rd.out
      clear H_rd
      clear xf0 xf1 lf
      refine (head_any _).mono ?_
      rintro e V1 ⟨rfl, hb⟩
      have hB := hb
      have kf := kf.next hB
      have rf := rf.next hB
      have rd := rd.next hB
      have HB := bt hB HB
      clear hb hB
      obtain ⟨xf0, xf1, _, _⟩ := boxFacts kf
      have lf := kf.lt
      have H_rf := Lib.hid rf
      clear rf
      have H_rd := Lib.hid rd
      clear rd
      go_wp2_with fail
      have rf := H_rf.out
      clear H_rf
      have rd := H_rd.out
      clear H_rd
      clear xf0 xf1 lf
      refine (Program_any m p ds A Ad c cd _ rf rd (by omega) (by omega) p0 p1).mono ?_
      rintro e V2 ⟨A1, c1, rfl, hc1, r1, hb⟩
      have hB := hb
      have kf := kf.next hB
      have rf := rf.next hB
      have rd := rd.next hB
      have HB := bt hB HB
      clear hb hB
      by_cases he : progE m p ds = 0
      · have hl : 0 < (progL m p ds).length := by rw [progL_len he]; omega
        have HLL := Lib.hid (progL_len he)
        have HE := Lib.hid he
        have HAG := Lib.hid (fun (x : Mem) (i : Nat) (hx : (progL m p ds)[i]? = some x) => again_at he hx)
        have HAD := Lib.hid (again_done he)
        have he' : (progE m p ds != 0) = false := by simp [he]
        clear he
        obtain ⟨xf0, xf1, _, _⟩ := boxFacts kf
        have lf := kf.lt
        have H_rf := Lib.hid rf
        clear rf
        have H_rd := Lib.hid rd
        clear rd
        have H_r1 := Lib.hid r1
        clear r1
        go_wp2_with fail
        have rf := H_rf.out
        clear H_rf
        have rd := H_rd.out
        clear H_rd
        have r1 := H_r1.out
        clear H_r1
        clear xf0 xf1 lf
        refine (last_lit (doneM m p ds) true (progL m p ds) (progE m p ds) ((ds.length : Int) + 1) A1 c1 _ (done_last m p ds).1 ((done_last m p ds).2.trans (by simp [doneB, HE.out])) r1 (by have := HLL.out; omega) (by omega) (by omega)).mono ?_
        rintro e V3 ⟨A2, c2, rfl, hc2, r2, hb⟩
        have hB := hb
        have kf := kf.next hB
        have rf := rf.next hB
        have rd := rd.next hB
        have r1 := r1.next hB
        have HB := bt hB HB
        clear hb hB
        obtain ⟨i, hi⟩ : ∃ i : Nat, st % ((progL m p ds).length : Int) = (i : Int) := ⟨(st % ((progL m p ds).length : Int)).toNat, (Int.toNat_of_nonneg (Int.emod_nonneg _ (by omega))).symm⟩
        have hil : i < (progL m p ds).length := by have := Int.emod_lt_of_pos st (b := ((progL m p ds).length : Int)) (by omega); omega
        obtain ⟨b, o, A', c', rfl, hb1, y0, y1, y2, rx⟩ := r1.at_ hil
        obtain ⟨x, hx⟩ : ∃ x, x = (progL m p ds)[i] := ⟨_, rfl⟩
        rw [← hx] at y0 y1 y2 rx
        have HX := Lib.hid (HAG.out x i (by rw [hx]; exact List.getElem?_eq_getElem hil))
        clear hx
        obtain ⟨xf0, xf1, _, _⟩ := boxFacts kf
        have lf := kf.lt
        have H_rf := Lib.hid rf
        clear rf
        have H_rd := Lib.hid rd
        clear rd
        have H_r1 := Lib.hid r1
        clear r1
        have H_r2 := Lib.hid r2
        clear r2
        have H_rx := Lib.hid rx
        clear rx
        go_wp2_with fail
        have rf := H_rf.out
        clear H_rf
        have rd := H_rd.out
        clear H_rd
        have r1 := H_r1.out
        clear H_r1
        have r2 := H_r2.out
        clear H_r2
        have rx := H_rx.out
        clear H_rx
        clear xf0 xf1 lf
        refine (done_lit (doneM m p ds) true x p ds A' Ad c' cd _ HX.out.2.1 HX.out.2.2 (rx.next (al1 _ _)) (rd.next (al1 _ _)) (by have := HX.out.1; omega) (by omega) p0 p1).mono ?_
        rintro e V4 ⟨A3, c3, rfl, hc3, r3, hb⟩
        have hB := bt hb (al1 V3 _)
        have kf := kf.next hB
        have rf := rf.next hB
        have rd := rd.next hB
        have r1 := r1.next hB
        have r2 := r2.next hB
        have rx := rx.next hB
        have kg : Bk V4 V3.heap.size 24 _ := ((Bk.new _ _ _)).next hb
        have HB := bt hB HB
        clear hb hB
        clear y0 y1
        obtain ⟨xf0, xf1, _, _⟩ := boxFacts kf
        have lf := kf.lt
        obtain ⟨xg0, xg1, _, _⟩ := boxFacts kg
        have lg := kg.lt
        have H_rf := Lib.hid rf
        clear rf
        have H_rd := Lib.hid rd
        clear rd
        have H_r1 := Lib.hid r1
        clear r1
        have H_r2 := Lib.hid r2
        clear r2
        have H_rx := Lib.hid rx
        clear rx
        have H_r3 := Lib.hid r3
        clear r3
        go_wp2_with fail
        have rf := H_rf.out
        clear H_rf
        have rd := H_rd.out
        clear H_rd
        have r1 := H_r1.out
        clear H_r1
        have r2 := H_r2.out
        clear H_r2
        have rx := H_rx.out
        clear H_rx
        have r3 := H_r3.out
        clear H_r3
        clear xf0 xf1 lf
        clear xg0 xg1 lg
        refine (done_lit (doneM m p ds) true (doneM m p ds) p ds A2 Ad c2 cd _ HAD.out.1 HAD.out.2.1 (r2.next (al1 _ _)) (rd.next (al1 _ _)) (by have := HAD.out.2.2; omega) (by omega) p0 p1).mono ?_
        rintro e V5 ⟨A4, c4, rfl, hc4, r4, hb⟩
        have hB := bt hb (al1 V4 _)
        have kf := kf.next hB
        have kg := kg.next hB
        have rf := rf.next hB
        have rd := rd.next hB
        have r1 := r1.next hB
        have r2 := r2.next hB
        have rx := rx.next hB
        have r3 := r3.next hB
        have kh : Bk V5 V4.heap.size 24 _ := ((Bk.new _ _ _)).next hb
        have HB := bt hB HB
        clear hb hB
        obtain ⟨xf0, xf1, _, _⟩ := boxFacts kf
        have lf := kf.lt
        obtain ⟨xg0, xg1, _, _⟩ := boxFacts kg
        have lg := kg.lt
        obtain ⟨xh0, xh1, _, _⟩ := boxFacts kh
        have lh := kh.lt
        have H_rf := Lib.hid rf
        clear rf
        have H_rd := Lib.hid rd
        clear rd
        have H_r1 := Lib.hid r1
        clear r1
        have H_r2 := Lib.hid r2
        clear r2
        have H_rx := Lib.hid rx
        clear rx
        have H_r3 := Lib.hid r3
        clear r3
        have H_r4 := Lib.hid r4
        clear r4
        go_wp2_with fail
        have rf := H_rf.out
        clear H_rf
        have rd := H_rd.out
        clear H_rd
        have r1 := H_r1.out
        clear H_r1
        have r2 := H_r2.out
        clear H_r2
        have rx := H_rx.out
        clear H_rx
        have r3 := H_r3.out
        clear H_r3
        have r4 := H_r4.out
        clear H_r4
        clear xf0 xf1 lf
        clear xg0 xg1 lg
        clear xh0 xh1 lh
        refine (Same_same (doneM m p ds) A3 A2 c3 c2 _ (r3.next (al1 _ _)) (r2.next (al1 _ _)) (by have := HAD.out.2.2; omega)).mono ?_
        rintro e V6 ⟨rfl, hb⟩
        have hB := bt hb (al1 V5 _)
        have kf := kf.next hB
        have kg := kg.next hB
        have kh := kh.next hB
        have rf := rf.next hB
        have rd := rd.next hB
        have r1 := r1.next hB
        have r2 := r2.next hB
        have rx := rx.next hB
        have r3 := r3.next hB
        have r4 := r4.next hB
        have ki : Bk V6 V5.heap.size 24 _ := ((Bk.new _ _ _)).next hb
        have HB := bt hB HB
        clear hb hB
        obtain ⟨xf0, xf1, _, _⟩ := boxFacts kf
        have lf := kf.lt
        obtain ⟨xg0, xg1, _, _⟩ := boxFacts kg
        have lg := kg.lt
        obtain ⟨xh0, xh1, _, _⟩ := boxFacts kh
        have lh := kh.lt
        obtain ⟨xi0, xi1, _, _⟩ := boxFacts ki
        have li := ki.lt
        have H_rf := Lib.hid rf
        clear rf
        have H_rd := Lib.hid rd
        clear rd
        have H_r1 := Lib.hid r1
        clear r1
        have H_r2 := Lib.hid r2
        clear r2
        have H_rx := Lib.hid rx
        clear rx
        have H_r3 := Lib.hid r3
        clear r3
        have H_r4 := Lib.hid r4
        clear r4
        go_wp2_with fail
        have rf := H_rf.out
        clear H_rf
        have rd := H_rd.out
        clear H_rd
        have r1 := H_r1.out
        clear H_r1
        have r2 := H_r2.out
        clear H_r2
        have rx := H_rx.out
        clear H_rx
        have r3 := H_r3.out
        clear H_r3
        have r4 := H_r4.out
        clear H_r4
        clear xf0 xf1 lf
        clear xg0 xg1 lg
        clear xh0 xh1 lh
        clear xi0 xi1 li
        refine (Same_same (doneM m p ds) A4 A2 c4 c2 _ r4 r2 (by have := HAD.out.2.2; omega)).mono ?_
        rintro e V7 ⟨rfl, hb⟩
        have hB := hb
        have kf := kf.next hB
        have kg := kg.next hB
        have kh := kh.next hB
        have ki := ki.next hB
        have rf := rf.next hB
        have rd := rd.next hB
        have r1 := r1.next hB
        have r2 := r2.next hB
        have rx := rx.next hB
        have r3 := r3.next hB
        have r4 := r4.next hB
        have HB := bt hB HB
        clear hb hB
        obtain ⟨xf0, xf1, _, _⟩ := boxFacts kf
        have lf := kf.lt
        obtain ⟨xg0, xg1, _, _⟩ := boxFacts kg
        have lg := kg.lt
        obtain ⟨xh0, xh1, _, _⟩ := boxFacts kh
        have lh := kh.lt
        obtain ⟨xi0, xi1, _, _⟩ := boxFacts ki
        have li := ki.lt
        have H_rf := Lib.hid rf
        clear rf
        have H_rd := Lib.hid rd
        clear rd
        have H_r1 := Lib.hid r1
        clear r1
        have H_r2 := Lib.hid r2
        clear r2
        have H_rx := Lib.hid rx
        clear rx
        have H_r3 := Lib.hid r3
        clear r3
        have H_r4 := Lib.hid r4
        clear r4
        have HBH := Lib.hid HB
        clear HB
        go_wp2
        go_ret
        exact ⟨rfl, HBH.out⟩
      · have hl : (progL m p ds).length = 0 := by rw [progL_none he]; rfl
        have he' : (progE m p ds != 0) = true := by simp [he]
        clear he
        obtain ⟨xf0, xf1, _, _⟩ := boxFacts kf
        have lf := kf.lt
        have H_rf := Lib.hid rf
        clear rf
        have H_rd := Lib.hid rd
        clear rd
        have H_r1 := Lib.hid r1
        clear r1
        have HBH := Lib.hid HB
        clear HB
        go_wp2
        go_ret
        exact ⟨rfl, HBH.out⟩
    · have h2' : 300 < (ds.length : Int) := by omega
      have h1' : (m.2.length : Int) ≤ 300 := by omega
      have HB : Below w.heap.size w _ := al1 w (.cells #[.int .i64 m.1, .slice A m.2.length c] 24)
      have kf : Bk (w.alloc (.cells #[.int .i64 m.1, .slice A m.2.length c] 24)) w.heap.size 24 #[.int .i64 m.1, .slice A m.2.length c] := Bk.new _ _ _
      have rf := hA.next HB
      have rd := hD.next HB
      clear hA hD
      go_enter Try.func6, Try.ntmps6
      obtain ⟨xf0, xf1, _, _⟩ := boxFacts kf
      have lf := kf.lt
      have H_rf := Lib.hid rf
      clear rf
      have H_rd := Lib.hid rd
      clear rd
      go_wp2_with fail
      have rf := H_rf.out
      clear H_rf
      have rd := H_rd.out
      clear H_rd
      clear xf0 xf1 lf
      refine (head_any _).mono ?_
      rintro e V1 ⟨rfl, hb⟩
      have hB := hb
      have kf := kf.next hB
      have rf := rf.next hB
      have rd := rd.next hB
      have HB := bt hB HB
      clear hb hB
      obtain ⟨xf0, xf1, _, _⟩ := boxFacts kf
      have lf := kf.lt
      have H_rf := Lib.hid rf
      clear rf
      have H_rd := Lib.hid rd
      clear rd
      have HBH := Lib.hid HB
      clear HB
      go_wp2
      go_ret
      exact ⟨rfl, HBH.out⟩
  · have h1' : 300 < (m.2.length : Int) := by omega
    have HB : Below w.heap.size w _ := al1 w (.cells #[.int .i64 m.1, .slice A m.2.length c] 24)
    have kf : Bk (w.alloc (.cells #[.int .i64 m.1, .slice A m.2.length c] 24)) w.heap.size 24 #[.int .i64 m.1, .slice A m.2.length c] := Bk.new _ _ _
    have rf := hA.next HB
    have rd := hD.next HB
    clear hA hD
    go_enter Try.func6, Try.ntmps6
    obtain ⟨xf0, xf1, _, _⟩ := boxFacts kf
    have lf := kf.lt
    have H_rf := Lib.hid rf
    clear rf
    have H_rd := Lib.hid rd
    clear rd
    go_wp2_with fail
    have rf := H_rf.out
    clear H_rf
    have rd := H_rd.out
    clear H_rd
    clear xf0 xf1 lf
    refine (head_any _).mono ?_
    rintro e V1 ⟨rfl, hb⟩
    have hB := hb
    have kf := kf.next hB
    have rf := rf.next hB
    have rd := rd.next hB
    have HB := bt hB HB
    clear hb hB
    obtain ⟨xf0, xf1, _, _⟩ := boxFacts kf
    have lf := kf.lt
    have H_rf := Lib.hid rf
    clear rf
    have H_rd := Lib.hid rd
    clear rd
    have HBH := Lib.hid HB
    clear HB
    go_wp2
    go_ret
    exact ⟨rfl, HBH.out⟩
end Go.Proofs.Ytjfpnldijlbmiaa
