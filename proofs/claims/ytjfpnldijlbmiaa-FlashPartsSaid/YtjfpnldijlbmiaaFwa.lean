/- The walk of the law FlashMatchesReference. -/
import Derived.Test.YtjfpnldijlbmiaaFl
set_option linter.unusedVariables false
set_option linter.unusedSimpArgs false
namespace Go.Proofs.Ytjfpnldijlbmiaa
open Go.RowKit

theorem SameList_same (l : List Mem) (A1 A2 : Option Addr) (c1 c2 : Nat) (w : World) (h1 : RdFs w w.heap.size A1 l) (h2 : RdFs w w.heap.size A2 l) (n1 : l.length ≤ 1000000000) (k1 : ∀ m ∈ l, m.2.length ≤ 1000000000) :
    Calls Try.prog 20 #[.slice A1 l.length c1, .slice A2 l.length c2] w fun e w' => e = .returned (.bool true) ∧ Below w.heap.size w w' := by
  have h := SameList_any l l A1 A2 c1 c2 w h1 h2 n1 n1 k1 k1
  rwa [show eqMs l l = true from by simp [eqMs]] at h
theorem Same_same (m : Mem) (A1 A2 : Option Addr) (c1 c2 : Nat) (w : World) (h1 : RdB w w.heap.size A1 m.2) (h2 : RdB w w.heap.size A2 m.2) (n1 : m.2.length ≤ 1000000000) :
    Calls Try.prog 13 #[.agg #[.int .i64 m.1, .slice A1 m.2.length c1], .agg #[.int .i64 m.1, .slice A2 m.2.length c2]] w fun e w' => e = .returned (.bool true) ∧ Below w.heap.size w w' := by
  have h := Same_any m m A1 A2 c1 c2 w h1 h2 n1 n1
  rwa [show eqM m m = true from by simp [eqM]] at h
theorem progL_bytes (m : Mem) (p : Int) (ds : List UInt8) : ∀ x ∈ progL m p ds, x.1 = m.1 ∧ x.2.length = m.2.length := by
  unfold progL; split
  · intro x hx
    simp only [List.mem_map, memos, List.mem_range] at hx
    obtain ⟨b, ⟨i, _, rfl⟩, rfl⟩ := hx
    exact ⟨rfl, memo_length _ _ _ _⟩
  · simp
theorem eraL_bytes (m : Mem) (k : Int) : ∀ x ∈ eraL m k, x.1 = m.1 ∧ x.2.length = m.2.length := by
  unfold eraL; split
  · intro x hx
    simp only [List.mem_map, memos, List.mem_range] at hx
    obtain ⟨b, ⟨i, _, rfl⟩, rfl⟩ := hx
    exact ⟨rfl, memo_length _ _ _ _⟩
  · simp
theorem eraE_ok {m : Mem} {k : Int} (h : eraE m k = 0) : validB m.1 m.2.length = true ∧ 0 ≤ k ∧ k < (m.2.length : Int) / m.1 := by
  unfold eraE at h; split at h
  · assumption
  · cases h
theorem eraL_le (m : Mem) (k : Int) : (eraL m k).length ≤ 513 := by
  unfold eraL; split
  · rename_i h
    obtain ⟨hv, _⟩ := eraE_ok h
    have := (valid_iff _ _).1 hv
    simp [memos_length]; omega
  · simp
theorem newM_le (s k : Int) : (newM s k).2.length ≤ 4096 := by
  unfold newM; split
  · rename_i h
    unfold newE at h; split at h
    · rename_i h'
      have := new_bd h'.1 h'.2.2.1 h'.2.2.2
      simp; omega
    · cases h
  · simp

set_option maxRecDepth 100000 in
set_option maxHeartbeats 4000000 in
theorem FlashMatchesReference_walk (m : Mem) (A Ad : Option Addr) (c cd : Nat) (p s2 s3 : Int) (ds : List UInt8) (w : World) (hA : RdB w w.heap.size A m.2) (hD : RdB w w.heap.size Ad ds) (hcap : m.2.length ≤ c)
    (p0 : -9223372036854775808 ≤ p) (p1 : p ≤ 9223372036854775807) (b0 : -9223372036854775808 ≤ s2) (b1 : s2 ≤ 9223372036854775807) (b2 : -9223372036854775808 ≤ s3) (b3 : s3 ≤ 9223372036854775807) (hmx : m.2.length ≤ maxLen) (hdx : ds.length ≤ maxLen) :
    Calls Try.prog 3 #[.agg #[.int .i64 m.1, .slice A m.2.length c], .int .i64 p, .slice Ad ds.length cd, .int .i64 s2, .int .i64 s3] w fun e w' => e = .returned (.bool true) ∧ Below w.heap.size w w' := by
  unfold maxLen at hmx hdx
  by_cases h1 : m.2.length ≤ 300
  · by_cases h2 : ds.length ≤ 300
    · have h1' : (m.2.length : Int) ≤ 300 := by omega
      have h2' : (ds.length : Int) ≤ 300 := by omega
      have HB : Below w.heap.size w _ := al1 w (.cells #[.int .i64 m.1, .slice A m.2.length c] 24)
      have kf : Bk (w.alloc (.cells #[.int .i64 m.1, .slice A m.2.length c] 24)) w.heap.size 24 #[.int .i64 m.1, .slice A m.2.length c] := Bk.new _ _ _
      have rf := hA.next HB
      have rd := hD.next HB
      clear hA hD
      go_enter Try.func3, Try.ntmps3
      obtain ⟨xf0, xf1, _, _⟩ := boxFacts kf
      have lf := kf.lt
      have H_rf := Lib.hid rf
      clear rf
      have H_rd := Lib.hid rd
      clear rd
      go_wp2_with fail
      have rf := H_rf.out
      clear H_rf
      have rd := H_rd.out
      clear H_rd
      clear xf0 xf1 lf
      refine (head_any _).mono ?_
      rintro e V1 ⟨rfl, hb⟩
      have hB := hb
      have kf := kf.next hB
      have rf := rf.next hB
      have rd := rd.next hB
      have HB := bt hB HB
      clear hb hB
      obtain ⟨xf0, xf1, _, _⟩ := boxFacts kf
      have lf := kf.lt
      have H_rf := Lib.hid rf
      clear rf
      have H_rd := Lib.hid rd
      clear rd
      go_wp2_with fail
      have rf := H_rf.out
      clear H_rf
      have rd := H_rd.out
      clear H_rd
      clear xf0 xf1 lf
      refine (New_any s2 s3 _ b0 b1 b2 b3).mono ?_
      rintro e V2 ⟨A1, c1, rfl, hc1, r1, hb, _⟩
      have hB := hb
      have kf := kf.next hB
      have rf := rf.next hB
      have rd := rd.next hB
      have HB := bt hB HB
      clear hb hB
      obtain ⟨xf0, xf1, _, _⟩ := boxFacts kf
      have lf := kf.lt
      have H_rf := Lib.hid rf
      clear rf
      have H_rd := Lib.hid rd
      clear rd
      have H_r1 := Lib.hid r1
      clear r1
      go_wp2_with fail
      have rf := H_rf.out
      clear H_rf
      have rd := H_rd.out
      clear H_rd
      have r1 := H_r1.out
      clear H_r1
      clear xf0 xf1 lf
      refine (rNew_any s2 s3 _ b0 b1 b2 b3).mono ?_
      rintro e V3 ⟨A2, c2, rfl, hc2, r2, hb, _⟩
      have hB := bt hb (al1 V2 _)
      have kf := kf.next hB
      have rf := rf.next hB
      have rd := rd.next hB
      have r1 := r1.next hB
      have kn : Bk V3 V2.heap.size 24 _ := ((Bk.new _ _ _)).next hb
      have HB := bt hB HB
      clear hb hB
      obtain ⟨xf0, xf1, _, _⟩ := boxFacts kf
      have lf := kf.lt
      obtain ⟨xn0, xn1, _, _⟩ := boxFacts kn
      have ln := kn.lt
      have H_rf := Lib.hid rf
      clear rf
      have H_rd := Lib.hid rd
      clear rd
      have H_r1 := Lib.hid r1
      clear r1
      have H_r2 := Lib.hid r2
      clear r2
      go_wp2_with fail
      have rf := H_rf.out
      clear H_rf
      have rd := H_rd.out
      clear H_rd
      have r1 := H_r1.out
      clear H_r1
      have r2 := H_r2.out
      clear H_r2
      clear xf0 xf1 lf
      clear xn0 xn1 ln
      refine (Same_same (newM s2 s3) A1 A2 c1 c2 _ (r1.next (al1 _ _)) (r2.next (al1 _ _)) (by have := newM_le s2 s3; omega)).mono ?_
      rintro e V4 ⟨rfl, hb⟩
      have hB := bt hb (al1 V3 _)
      have kf := kf.next hB
      have kn := kn.next hB
      have rf := rf.next hB
      have rd := rd.next hB
      have r1 := r1.next hB
      have r2 := r2.next hB
      have ko : Bk V4 V3.heap.size 24 _ := ((Bk.new _ _ _)).next hb
      have HB := bt hB HB
      clear hb hB
      obtain ⟨xf0, xf1, _, _⟩ := boxFacts kf
      have lf := kf.lt
      obtain ⟨xn0, xn1, _, _⟩ := boxFacts kn
      have ln := kn.lt
      obtain ⟨xo0, xo1, _, _⟩ := boxFacts ko
      have lo := ko.lt
      have H_rf := Lib.hid rf
      clear rf
      have H_rd := Lib.hid rd
      clear rd
      have H_r1 := Lib.hid r1
      clear r1
      have H_r2 := Lib.hid r2
      clear r2
      go_wp2_with fail
      have rf := H_rf.out
      clear H_rf
      have rd := H_rd.out
      clear H_rd
      have r1 := H_r1.out
      clear H_r1
      have r2 := H_r2.out
      clear H_r2
      clear xf0 xf1 lf
      clear xn0 xn1 ln
      clear xo0 xo1 lo
      refine (Program_any m p ds A Ad c cd _ rf rd (by omega) (by omega) p0 p1).mono ?_
      rintro e V5 ⟨A3, c3, rfl, hc3, r3, hb⟩
      have hB := hb
      have kf := kf.next hB
      have kn := kn.next hB
      have ko := ko.next hB
      have rf := rf.next hB
      have rd := rd.next hB
      have r1 := r1.next hB
      have r2 := r2.next hB
      have HB := bt hB HB
      clear hb hB
      obtain ⟨xf0, xf1, _, _⟩ := boxFacts kf
      have lf := kf.lt
      obtain ⟨xn0, xn1, _, _⟩ := boxFacts kn
      have ln := kn.lt
      obtain ⟨xo0, xo1, _, _⟩ := boxFacts ko
      have lo := ko.lt
      have H_rf := Lib.hid rf
      clear rf
      have H_rd := Lib.hid rd
      clear rd
      have H_r1 := Lib.hid r1
      clear r1
      have H_r2 := Lib.hid r2
      clear r2
      have H_r3 := Lib.hid r3
      clear r3
      go_wp2_with fail
      have rf := H_rf.out
      clear H_rf
      have rd := H_rd.out
      clear H_rd
      have r1 := H_r1.out
      clear H_r1
      have r2 := H_r2.out
      clear H_r2
      have r3 := H_r3.out
      clear H_r3
      clear xf0 xf1 lf
      clear xn0 xn1 ln
      clear xo0 xo1 lo
      refine (rProgram_any m p ds A Ad c cd _ rf rd hcap (by omega) (by omega) p0 p1).mono ?_
      rintro e V6 ⟨A4, c4, rfl, hc4, r4, hb⟩
      have hB := hb
      have kf := kf.next hB
      have kn := kn.next hB
      have ko := ko.next hB
      have rf := rf.next hB
      have rd := rd.next hB
      have r1 := r1.next hB
      have r2 := r2.next hB
      have r3 := r3.next hB
      have HB := bt hB HB
      clear hb hB
      obtain ⟨xf0, xf1, _, _⟩ := boxFacts kf
      have lf := kf.lt
      obtain ⟨xn0, xn1, _, _⟩ := boxFacts kn
      have ln := kn.lt
      obtain ⟨xo0, xo1, _, _⟩ := boxFacts ko
      have lo := ko.lt
      have H_rf := Lib.hid rf
      clear rf
      have H_rd := Lib.hid rd
      clear rd
      have H_r1 := Lib.hid r1
      clear r1
      have H_r2 := Lib.hid r2
      clear r2
      have H_r3 := Lib.hid r3
      clear r3
      have H_r4 := Lib.hid r4
      clear r4
      go_wp2_with fail
      have rf := H_rf.out
      clear H_rf
      have rd := H_rd.out
      clear H_rd
      have r1 := H_r1.out
      clear H_r1
      have r2 := H_r2.out
      clear H_r2
      have r3 := H_r3.out
      clear H_r3
      have r4 := H_r4.out
      clear H_r4
      clear xf0 xf1 lf
      clear xn0 xn1 ln
      clear xo0 xo1 lo
      refine (Erase_any m s2 A c _ rf (by omega) b0 b1).mono ?_
      rintro e V7 ⟨A5, c5, rfl, hc5, r5, hb⟩
      have hB := hb
      have kf := kf.next hB
      have kn := kn.next hB
      have ko := ko.next hB
      have rf := rf.next hB
      have rd := rd.next hB
      have r1 := r1.next hB
      have r2 := r2.next hB
      have r3 := r3.next hB
      have r4 := r4.next hB
      have HB := bt hB HB
      clear hb hB
      obtain ⟨xf0, xf1, _, _⟩ := boxFacts kf
      have lf := kf.lt
      obtain ⟨xn0, xn1, _, _⟩ := boxFacts kn
      have ln := kn.lt
      obtain ⟨xo0, xo1, _, _⟩ := boxFacts ko
      have lo := ko.lt
      have H_rf := Lib.hid rf
      clear rf
      have H_rd := Lib.hid rd
      clear rd
      have H_r1 := Lib.hid r1
      clear r1
      have H_r2 := Lib.hid r2
      clear r2
      have H_r3 := Lib.hid r3
      clear r3
      have H_r4 := Lib.hid r4
      clear r4
      have H_r5 := Lib.hid r5
      clear r5
      go_wp2_with fail
      have rf := H_rf.out
      clear H_rf
      have rd := H_rd.out
      clear H_rd
      have r1 := H_r1.out
      clear H_r1
      have r2 := H_r2.out
      clear H_r2
      have r3 := H_r3.out
      clear H_r3
      have r4 := H_r4.out
      clear H_r4
      have r5 := H_r5.out
      clear H_r5
      clear xf0 xf1 lf
      clear xn0 xn1 ln
      clear xo0 xo1 lo
      refine (rErase_any m s2 A c _ rf hcap (by omega) b0 b1).mono ?_
      rintro e V8 ⟨A6, c6, rfl, hc6, r6, hb⟩
      have hB := hb
      have kf := kf.next hB
      have kn := kn.next hB
      have ko := ko.next hB
      have rf := rf.next hB
      have rd := rd.next hB
      have r1 := r1.next hB
      have r2 := r2.next hB
      have r3 := r3.next hB
      have r4 := r4.next hB
      have r5 := r5.next hB
      have HB := bt hB HB
      clear hb hB
      have n1 : (progL m p ds).length ≤ 1000000000 := by have := progL_le m p ds; omega
      have n2 : (eraL m s2).length ≤ 1000000000 := by have := eraL_le m s2; omega
      have K1 : ∀ x ∈ progL m p ds, x.2.length ≤ 1000000000 := fun x hx => by have := (progL_bytes m p ds x hx).2; omega
      have K2 : ∀ x ∈ eraL m s2, x.2.length ≤ 1000000000 := fun x hx => by have := (eraL_bytes m s2 x hx).2; omega
      have HK1 := Lib.hid K1
      have HK2 := Lib.hid K2
      clear K1 K2
      obtain ⟨xf0, xf1, _, _⟩ := boxFacts kf
      have lf := kf.lt
      have H_rf := Lib.hid rf
      clear rf
      have H_rd := Lib.hid rd
      clear rd
      have H_r1 := Lib.hid r1
      clear r1
      have H_r2 := Lib.hid r2
      clear r2
      have H_r3 := Lib.hid r3
      clear r3
      have H_r4 := Lib.hid r4
      clear r4
      have H_r5 := Lib.hid r5
      clear r5
      have H_r6 := Lib.hid r6
      clear r6
      have HBH := Lib.hid HB
      clear HB
      go_wp2
      have H_r3 := Lib.hid (show RdFs V8.drew V8.drew.heap.size A3 _ from H_r3.out)
      have H_r4 := Lib.hid (show RdFs V8.drew V8.drew.heap.size A4 _ from H_r4.out)
      have H_r5 := Lib.hid (show RdFs V8.drew V8.drew.heap.size A5 _ from H_r5.out)
      have H_r6 := Lib.hid (show RdFs V8.drew V8.drew.heap.size A6 _ from H_r6.out)
      have HBH := Lib.hid HBH.out.drew
      have xf0 : V8.drew.cell? ⟨w.heap.size, 0, none⟩ = some (.int .i64 m.1) := xf0
      have xf1 : V8.drew.cell? ⟨w.heap.size, 1, none⟩ = some (.slice A m.2.length c) := xf1
      have lf : w.heap.size < V8.drew.heap.size := lf
      go_region_held3 (fun w' => w'.cell? ⟨w.heap.size, 0, none⟩ = some (.int .i64 m.1) ∧ w'.cell? ⟨w.heap.size, 1, none⟩ = some (.slice A m.2.length c))
        (first | exact ⟨xf0, xf1⟩ | fail)
        (first
          | (go_at_call 18; refine (Valid_any _ _ _ _ _).mono ?_; rintro e W' ⟨rfl, hb⟩; have H_r3 := Lib.hid (H_r3.out.next hb); have H_r4 := Lib.hid (H_r4.out.next hb); have H_r5 := Lib.hid (H_r5.out.next hb); have H_r6 := Lib.hid (H_r6.out.next hb); have HBH := Lib.hid (bt hb HBH.out); have xf0 := (hb.cell (p := ⟨w.heap.size, 0, none⟩) lf).trans xf0; have xf1 := (hb.cell (p := ⟨w.heap.size, 1, none⟩) lf).trans xf1; have lf := Nat.lt_of_lt_of_le lf hb.size)
          | (go_at_call 19; refine (rValid_any _ _ _ _ _).mono ?_; rintro e W' ⟨rfl, hb⟩; have H_r3 := Lib.hid (H_r3.out.next hb); have H_r4 := Lib.hid (H_r4.out.next hb); have H_r5 := Lib.hid (H_r5.out.next hb); have H_r6 := Lib.hid (H_r6.out.next hb); have HBH := Lib.hid (bt hb HBH.out); have xf0 := (hb.cell (p := ⟨w.heap.size, 0, none⟩) lf).trans xf0; have xf1 := (hb.cell (p := ⟨w.heap.size, 1, none⟩) lf).trans xf1; have lf := Nat.lt_of_lt_of_le lf hb.size)
          | (go_at_call_of 20 A3; refine (SameList_same _ _ _ _ _ _ H_r3.out H_r4.out n1 HK1.out).mono ?_; rintro e W' ⟨rfl, hb⟩; have H_r3 := Lib.hid (H_r3.out.next hb); have H_r4 := Lib.hid (H_r4.out.next hb); have H_r5 := Lib.hid (H_r5.out.next hb); have H_r6 := Lib.hid (H_r6.out.next hb); have HBH := Lib.hid (bt hb HBH.out); have xf0 := (hb.cell (p := ⟨w.heap.size, 0, none⟩) lf).trans xf0; have xf1 := (hb.cell (p := ⟨w.heap.size, 1, none⟩) lf).trans xf1; have lf := Nat.lt_of_lt_of_le lf hb.size)
          | (go_at_call_of 20 A5; refine (SameList_same _ _ _ _ _ _ H_r5.out H_r6.out n2 HK2.out).mono ?_; rintro e W' ⟨rfl, hb⟩; have H_r3 := Lib.hid (H_r3.out.next hb); have H_r4 := Lib.hid (H_r4.out.next hb); have H_r5 := Lib.hid (H_r5.out.next hb); have H_r6 := Lib.hid (H_r6.out.next hb); have HBH := Lib.hid (bt hb HBH.out); have xf0 := (hb.cell (p := ⟨w.heap.size, 0, none⟩) lf).trans xf0; have xf1 := (hb.cell (p := ⟨w.heap.size, 1, none⟩) lf).trans xf1; have lf := Nat.lt_of_lt_of_le lf hb.size))
      go_wp2
      go_ret
      exact ⟨rfl, HBH.out⟩
    · have h2' : 300 < (ds.length : Int) := by omega
      have h1' : (m.2.length : Int) ≤ 300 := by omega
      have HB : Below w.heap.size w _ := al1 w (.cells #[.int .i64 m.1, .slice A m.2.length c] 24)
      have kf : Bk (w.alloc (.cells #[.int .i64 m.1, .slice A m.2.length c] 24)) w.heap.size 24 #[.int .i64 m.1, .slice A m.2.length c] := Bk.new _ _ _
      have rf := hA.next HB
      have rd := hD.next HB
      clear hA hD
      go_enter Try.func3, Try.ntmps3
      obtain ⟨xf0, xf1, _, _⟩ := boxFacts kf
      have lf := kf.lt
      have H_rf := Lib.hid rf
      clear rf
      have H_rd := Lib.hid rd
      clear rd
      go_wp2_with fail
      have rf := H_rf.out
      clear H_rf
      have rd := H_rd.out
      clear H_rd
      clear xf0 xf1 lf
      refine (head_any _).mono ?_
      rintro e V1 ⟨rfl, hb⟩
      have hB := hb
      have kf := kf.next hB
      have rf := rf.next hB
      have rd := rd.next hB
      have HB := bt hB HB
      clear hb hB
      obtain ⟨xf0, xf1, _, _⟩ := boxFacts kf
      have lf := kf.lt
      have H_rf := Lib.hid rf
      clear rf
      have H_rd := Lib.hid rd
      clear rd
      go_wp2_with fail
      have rf := H_rf.out
      clear H_rf
      have rd := H_rd.out
      clear H_rd
      clear xf0 xf1 lf
      refine (New_any s2 s3 _ b0 b1 b2 b3).mono ?_
      rintro e V2 ⟨A1, c1, rfl, hc1, r1, hb, _⟩
      have hB := hb
      have kf := kf.next hB
      have rf := rf.next hB
      have rd := rd.next hB
      have HB := bt hB HB
      clear hb hB
      obtain ⟨xf0, xf1, _, _⟩ := boxFacts kf
      have lf := kf.lt
      have H_rf := Lib.hid rf
      clear rf
      have H_rd := Lib.hid rd
      clear rd
      have H_r1 := Lib.hid r1
      clear r1
      go_wp2_with fail
      have rf := H_rf.out
      clear H_rf
      have rd := H_rd.out
      clear H_rd
      have r1 := H_r1.out
      clear H_r1
      clear xf0 xf1 lf
      refine (rNew_any s2 s3 _ b0 b1 b2 b3).mono ?_
      rintro e V3 ⟨A2, c2, rfl, hc2, r2, hb, _⟩
      have hB := bt hb (al1 V2 _)
      have kf := kf.next hB
      have rf := rf.next hB
      have rd := rd.next hB
      have r1 := r1.next hB
      have kn : Bk V3 V2.heap.size 24 _ := ((Bk.new _ _ _)).next hb
      have HB := bt hB HB
      clear hb hB
      obtain ⟨xf0, xf1, _, _⟩ := boxFacts kf
      have lf := kf.lt
      obtain ⟨xn0, xn1, _, _⟩ := boxFacts kn
      have ln := kn.lt
      have H_rf := Lib.hid rf
      clear rf
      have H_rd := Lib.hid rd
      clear rd
      have H_r1 := Lib.hid r1
      clear r1
      have H_r2 := Lib.hid r2
      clear r2
      go_wp2_with fail
      have rf := H_rf.out
      clear H_rf
      have rd := H_rd.out
      clear H_rd
      have r1 := H_r1.out
      clear H_r1
      have r2 := H_r2.out
      clear H_r2
      clear xf0 xf1 lf
      clear xn0 xn1 ln
      refine (Same_same (newM s2 s3) A1 A2 c1 c2 _ (r1.next (al1 _ _)) (r2.next (al1 _ _)) (by have := newM_le s2 s3; omega)).mono ?_
      rintro e V4 ⟨rfl, hb⟩
      have hB := bt hb (al1 V3 _)
      have kf := kf.next hB
      have kn := kn.next hB
      have rf := rf.next hB
      have rd := rd.next hB
      have r1 := r1.next hB
      have r2 := r2.next hB
      have ko : Bk V4 V3.heap.size 24 _ := ((Bk.new _ _ _)).next hb
      have HB := bt hB HB
      clear hb hB
      obtain ⟨xf0, xf1, _, _⟩ := boxFacts kf
      have lf := kf.lt
      have H_rf := Lib.hid rf
      clear rf
      have H_rd := Lib.hid rd
      clear rd
      have H_r1 := Lib.hid r1
      clear r1
      have H_r2 := Lib.hid r2
      clear r2
      have HBH := Lib.hid HB
      clear HB
      go_wp2
      go_ret
      exact ⟨rfl, HBH.out⟩
  · have h1' : 300 < (m.2.length : Int) := by omega
    have HB : Below w.heap.size w _ := al1 w (.cells #[.int .i64 m.1, .slice A m.2.length c] 24)
    have kf : Bk (w.alloc (.cells #[.int .i64 m.1, .slice A m.2.length c] 24)) w.heap.size 24 #[.int .i64 m.1, .slice A m.2.length c] := Bk.new _ _ _
    have rf := hA.next HB
    have rd := hD.next HB
    clear hA hD
    go_enter Try.func3, Try.ntmps3
    obtain ⟨xf0, xf1, _, _⟩ := boxFacts kf
    have lf := kf.lt
    have H_rf := Lib.hid rf
    clear rf
    have H_rd := Lib.hid rd
    clear rd
    go_wp2_with fail
    have rf := H_rf.out
    clear H_rf
    have rd := H_rd.out
    clear H_rd
    clear xf0 xf1 lf
    refine (head_any _).mono ?_
    rintro e V1 ⟨rfl, hb⟩
    have hB := hb
    have kf := kf.next hB
    have rf := rf.next hB
    have rd := rd.next hB
    have HB := bt hB HB
    clear hb hB
    obtain ⟨xf0, xf1, _, _⟩ := boxFacts kf
    have lf := kf.lt
    have H_rf := Lib.hid rf
    clear rf
    have H_rd := Lib.hid rd
    clear rd
    go_wp2_with fail
    have rf := H_rf.out
    clear H_rf
    have rd := H_rd.out
    clear H_rd
    clear xf0 xf1 lf
    refine (New_any s2 s3 _ b0 b1 b2 b3).mono ?_
    rintro e V2 ⟨A1, c1, rfl, hc1, r1, hb, _⟩
    have hB := hb
    have kf := kf.next hB
    have rf := rf.next hB
    have rd := rd.next hB
    have HB := bt hB HB
    clear hb hB
    obtain ⟨xf0, xf1, _, _⟩ := boxFacts kf
    have lf := kf.lt
    have H_rf := Lib.hid rf
    clear rf
    have H_rd := Lib.hid rd
    clear rd
    have H_r1 := Lib.hid r1
    clear r1
    go_wp2_with fail
    have rf := H_rf.out
    clear H_rf
    have rd := H_rd.out
    clear H_rd
    have r1 := H_r1.out
    clear H_r1
    clear xf0 xf1 lf
    refine (rNew_any s2 s3 _ b0 b1 b2 b3).mono ?_
    rintro e V3 ⟨A2, c2, rfl, hc2, r2, hb, _⟩
    have hB := bt hb (al1 V2 _)
    have kf := kf.next hB
    have rf := rf.next hB
    have rd := rd.next hB
    have r1 := r1.next hB
    have kn : Bk V3 V2.heap.size 24 _ := ((Bk.new _ _ _)).next hb
    have HB := bt hB HB
    clear hb hB
    obtain ⟨xf0, xf1, _, _⟩ := boxFacts kf
    have lf := kf.lt
    obtain ⟨xn0, xn1, _, _⟩ := boxFacts kn
    have ln := kn.lt
    have H_rf := Lib.hid rf
    clear rf
    have H_rd := Lib.hid rd
    clear rd
    have H_r1 := Lib.hid r1
    clear r1
    have H_r2 := Lib.hid r2
    clear r2
    go_wp2_with fail
    have rf := H_rf.out
    clear H_rf
    have rd := H_rd.out
    clear H_rd
    have r1 := H_r1.out
    clear H_r1
    have r2 := H_r2.out
    clear H_r2
    clear xf0 xf1 lf
    clear xn0 xn1 ln
    refine (Same_same (newM s2 s3) A1 A2 c1 c2 _ (r1.next (al1 _ _)) (r2.next (al1 _ _)) (by have := newM_le s2 s3; omega)).mono ?_
    rintro e V4 ⟨rfl, hb⟩
    have hB := bt hb (al1 V3 _)
    have kf := kf.next hB
    have kn := kn.next hB
    have rf := rf.next hB
    have rd := rd.next hB
    have r1 := r1.next hB
    have r2 := r2.next hB
    have ko : Bk V4 V3.heap.size 24 _ := ((Bk.new _ _ _)).next hb
    have HB := bt hB HB
    clear hb hB
    obtain ⟨xf0, xf1, _, _⟩ := boxFacts kf
    have lf := kf.lt
    have H_rf := Lib.hid rf
    clear rf
    have H_rd := Lib.hid rd
    clear rd
    have H_r1 := Lib.hid r1
    clear r1
    have H_r2 := Lib.hid r2
    clear r2
    have HBH := Lib.hid HB
    clear HB
    go_wp2
    go_ret
    exact ⟨rfl, HBH.out⟩
end Go.Proofs.Ytjfpnldijlbmiaa
