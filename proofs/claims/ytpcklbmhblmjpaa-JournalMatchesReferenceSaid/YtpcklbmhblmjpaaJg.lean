/- journal: Read, Format, fits, and whether a sector is written. -/
import Derived.Test.YtpcklbmhblmjpaaJf
import Derived.Test.YtpcklbmhblmjpaaJP
import Derived.Laws.CopyOwn
set_option maxRecDepth 100000
set_option linter.unusedVariables false
set_option linter.unusedSimpArgs false
namespace Go.Proofs.Ytpcklbmhblmjpaa
open Go.RowKit Go.Sort Go.Shelf

def readPost (m : Mem) (w : World) (e : Ending) (w' : World) : Prop :=
  ∃ A c, e = .returned (.tuple #[.slice A (lookC m).recs.length c, .int .i64 (lookE m)]) ∧ (lookC m).recs.length ≤ c ∧ RdBs w' w'.heap.size A (lookC m).recs ∧ Below w.heap.size w w'
theorem lookC_bad {m : Mem} (h : lookE m ≠ 0) : lookC m = ⟨0, 0, [], 0, false⟩ := by
  unfold lookE at h
  unfold lookC
  split
  · rename_i hv
    simp only [hv, if_true] at h
    cases hc : curO m with
    | none => rfl
    | some a =>
      simp only [hc] at h ⊢
      cases hs : scanA (areaB m a) with
      | none => rfl
      | some r => simp [hs] at h
  · rfl
set_option maxHeartbeats 1000000 in
theorem Read_any (m : Mem) (A : Option Addr) (c : Nat) (w : World) (hA : RdB w w.heap.size A m.2) (hc : m.2.length ≤ c) :
    Calls Try.prog 10 #[.agg #[.int .i64 m.1, .slice A m.2.length c]] w (readPost m w) := by
  have HA := Lib.hid hA
  clear hA
  by_cases h0 : lookE m = 0
  · go_enter Try.func10, Try.ntmps10
    go_wp2_with fail
    have hb1 := al1 w (.cells #[.int .i64 m.1, .slice A m.2.length c] 24)
    refine (look_any m A c _ (HA.out.next hb1) hc).mono ?_
    rintro e V ⟨v, its, rfl, hrw, hmap, hbV⟩
    obtain ⟨Ar, cr, rfl, hcr, hrr⟩ := hrw.rd
    have hlen : its.length = (lookC m).recs.length := by rw [← hmap]; simp
    rw [hlen] at hcr ⊢
    rw [hmap] at hrr
    have HR := Lib.hid hrr
    have HB := Lib.hid (bt hbV hb1)
    clear hrw hmap hbV hlen hrr hb1
    have e0 : (lookE m != 0) = false := by simp [h0]
    go_wp2
    go_ret2
    exact ⟨Ar, cr, by rw [h0]; rfl, hcr, HR.out.next (al1 _ _), bt (al1 _ _) HB.out⟩
  · go_enter Try.func10, Try.ntmps10
    go_wp2_with fail
    have hb1 := al1 w (.cells #[.int .i64 m.1, .slice A m.2.length c] 24)
    refine (look_any m A c _ (HA.out.next hb1) hc).mono ?_
    rintro e V ⟨v, its, rfl, hrw, hmap, hbV⟩
    obtain ⟨Ar, cr, rfl, hcr, hrr⟩ := hrw.rd
    have hlen : its.length = (lookC m).recs.length := by rw [← hmap]; simp
    rw [hlen] at hcr ⊢
    rw [hmap] at hrr
    have HR := Lib.hid hrr
    have HB := Lib.hid (bt hbV hb1)
    clear hrw hmap hbV hlen hrr hb1
    have e0 : (lookE m != 0) = true := by simp [h0]
    go_wp2
    go_ret2
    exact ⟨none, 0, by rw [lookC_bad h0]; rfl, by rw [lookC_bad h0]; exact Nat.le_refl _, by rw [lookC_bad h0]; exact RdBs.nil, bt (al1 _ _) HB.out⟩

theorem room_take_succ {keep : List Rec} {k : Nat} (h : k < keep.length) : room (keep.take (k + 1)) = room (keep.take k) + (7 + keep[k].length) := by
  rw [List.take_succ_eq_append_getElem h, room_append]; simp [room]
theorem room_take_le (keep : List Rec) (k : Nat) : room (keep.take k) ≤ room keep := by
  have h := room_append (keep.take k) (keep.drop k)
  rw [List.take_append_drop] at h; omega
set_option maxHeartbeats 1000000 in
theorem fits_any (keep : List Rec) (A : Option Addr) (c n : Nat) (w : World) (hA : RdBs w w.heap.size A keep) (hk : keep.length ≤ 100000) (hl : ∀ d ∈ keep, d.length ≤ 9223372036854775807) (h5 : 5 ≤ n) (hn : n ≤ 60000) :
    Calls Try.prog 35 #[.slice A keep.length c, .int .i64 (n : Int)] w fun e w' => e = .returned (.bool (decide (room keep + 5 ≤ n))) ∧ w = w' := by
  have HA := Lib.hid hA
  clear hA
  go_enter Try.func35, Try.ntmps35
  go_wp2
  go_loopw [5, 12] (fun v i wr => ∃ k : Nat, v = .int .i64 ((n : Int) - 5 - (room (keep.take k) : Int)) ∧ i = .int .i64 (k : Int) ∧ k ≤ keep.length ∧ room (keep.take k) + 5 ≤ n ∧ w = wr) (fun _ i _ => keep.length - (intOf i).toNat)
  case atStart => exact ⟨0, by simp [room], rfl, Nat.zero_le _, by simp [room]; omega, rfl⟩
  case round =>
    obtain ⟨k, rfl, rfl, hk2, hrm, rfl⟩ := hrel
    by_cases hlt : k < keep.length
    · obtain ⟨b, o, A', c', rfl, hb, hcell, hcc, _⟩ := HA.out.at_ hlt
      obtain ⟨d, hd⟩ : ∃ d, d = keep[k] := ⟨_, rfl⟩
      rw [← hd] at hcell hcc
      have hdl := hl d (by rw [hd]; exact List.getElem_mem hlt)
      have HD := Lib.hid hd
      clear hd
      have k1 : (0 : Int) ≤ (k : Int) := by omega
      have k2 : (k : Int) < (keep.length : Int) := by omega
      obtain ⟨left, hleft⟩ : ∃ left : Nat, left = n - 5 - room (keep.take k) := ⟨_, rfl⟩
      have hI : ((n : Int) - 5 - (room (keep.take k) : Int)) = (left : Int) := by omega
      rw [hI]
      by_cases h6 : 65535 < d.length
      · have hno : decide (room keep + 5 ≤ n) = false := by
          rw [decide_eq_false_iff_not]
          have h1 := room_take_succ hlt
          have h2 := room_take_le keep (k + 1)
          rw [← HD.out] at h1
          omega
        have HNO := Lib.hid hno
        clear hno
        clear hI hleft
        have q1 : (65535 : Int) < (d.length : Int) := by omega
        go_wp2
        go_ret
        exact ⟨by rw [HNO.out]; rfl, rfl⟩
      · have q1 : ¬ ((65535 : Int) < (d.length : Int)) := by omega
        by_cases h7 : left < 7 + d.length
        · have hno : decide (room keep + 5 ≤ n) = false := by
            rw [decide_eq_false_iff_not]
            have h1 := room_take_succ hlt
            have h2 := room_take_le keep (k + 1)
            rw [← HD.out] at h1
            omega
          have HNO := Lib.hid hno
          clear hno
          clear hI hleft
          have q2 : (left : Int) < 7 + (d.length : Int) := by omega
          go_wp2
          go_ret
          exact ⟨by rw [HNO.out]; rfl, rfl⟩
        · have q2 : ¬ ((left : Int) < 7 + (d.length : Int)) := by omega
          have hstep := room_take_succ hlt
          rw [← HD.out] at hstep
          have HX : Hid ((left : Int) - (7 + (d.length : Int)) = (n : Int) - 5 - (room (keep.take (k + 1)) : Int) ∧ room (keep.take (k + 1)) + 5 ≤ n) := ⟨by omega, by omega⟩
          have hlb : left ≤ 60000 := by omega
          clear hI hleft hstep hrm
          go_wp2
          go_roundw
          case rel => exact ⟨k + 1, by rw [HX.out.1], by go_num, by omega, HX.out.2, trivial⟩
          case measure => simp [intOf]; omega
    · obtain rfl : k = keep.length := by omega
      rw [List.take_of_length_le (Nat.le_refl _)] at hrm
      have hyes : decide (room keep + 5 ≤ n) = true := decide_eq_true (by omega)
      have HY := Lib.hid hyes
      clear hyes
      go_wp2
      go_ret
      exact ⟨by rw [HY.out]; rfl, rfl⟩
end Go.Proofs.Ytpcklbmhblmjpaa
