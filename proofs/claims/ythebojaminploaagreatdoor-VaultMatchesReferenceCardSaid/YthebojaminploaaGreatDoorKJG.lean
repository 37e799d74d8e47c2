/- journal: Read, Format, fits, and whether a sector is written. -/
import Derived.Test.YthebojaminploaaGreatDoorKJf
import Derived.Test.YthebojaminploaaGreatDoorKJP
import Derived.Laws.CopyOwn
set_option maxRecDepth 100000
set_option linter.unusedVariables false
set_option linter.unusedSimpArgs false
namespace Go.Proofs.YthebojaminploaaGreatDoor
open Go.RowKit Go.Sort Go.Shelf

def readPost (m : Mem) (w : World) (e : Ending) (w' : World) : Prop :=
  ∃ A c, e = .returned (.tuple #[.slice A (lookC m).recs.length c, .int .i64 (lookE m)]) ∧ (lookC m).recs.length ≤ c ∧ RdBs w' w'.heap.size A (lookC m).recs ∧ Below w.heap.size w w'
theorem lookC_bad {m : Mem} (h : lookE m ≠ 0) : lookC m = ⟨0, 0, [], 0, false⟩ := by
  unfold lookE at h
  unfold lookC
  split
  · rename_i hv
    simp only [hv, if_true] at h
    cases hc : curO m with
    | none => rfl
    | some a =>
      simp only [hc] at h ⊢
      cases hs : scanA (areaB m a) with
      | none => rfl
      | some r => simp [hs] at h
  · rfl
set_option maxHeartbeats 1000000 in
theorem Read_any (m : Mem) (A : Option Addr) (c : Nat) (w : World) (hA : RdB w w.heap.size A m.2) (hc : m.2.length ≤ c) :
    Calls Tryz.prog 27 #[.agg #[.int .i64 m.1, .slice A m.2.length c]] w (readPost m w) := by
  have HA := Lib.hid hA
  clear hA
  by_cases h0 : lookE m = 0
  · go_enter Tryz.func27, Tryz.ntmps27
    go_wp2_with fail
    have hb1 := al1 w (.cells #[.int .i64 m.1, .slice A m.2.length c] 24)
    refine (look_any m A c _ (HA.out.next hb1) hc).mono ?_
    rintro e V ⟨v, its, rfl, hrw, hmap, hbV⟩
    obtain ⟨Ar, cr, rfl, hcr, hrr⟩ := hrw.rd
    have hlen : its.length = (lookC m).recs.length := by rw [← hmap]; simp
    rw [hlen] at hcr ⊢
    rw [hmap] at hrr
    have HR := Lib.hid hrr
    have HB := Lib.hid (bt hbV hb1)
    clear hrw hmap hbV hlen hrr hb1
    have e0 : (lookE m != 0) = false := by simp [h0]
    go_wp2
    go_ret2
    exact ⟨Ar, cr, by rw [h0]; rfl, hcr, HR.out.next (al1 _ _), bt (al1 _ _) HB.out⟩
  · go_enter Tryz.func27, Tryz.ntmps27
    go_wp2_with fail
    have hb1 := al1 w (.cells #[.int .i64 m.1, .slice A m.2.length c] 24)
    refine (look_any m A c _ (HA.out.next hb1) hc).mono ?_
    rintro e V ⟨v, its, rfl, hrw, hmap, hbV⟩
    obtain ⟨Ar, cr, rfl, hcr, hrr⟩ := hrw.rd
    have hlen : its.length = (lookC m).recs.length := by rw [← hmap]; simp
    rw [hlen] at hcr ⊢
    rw [hmap] at hrr
    have HR := Lib.hid hrr
    have HB := Lib.hid (bt hbV hb1)
    clear hrw hmap hbV hlen hrr hb1
    have e0 : (lookE m != 0) = true := by simp [h0]
    go_wp2
    go_ret2
    exact ⟨none, 0, by rw [lookC_bad h0]; rfl, by rw [lookC_bad h0]; exact Nat.le_refl _, by rw [lookC_bad h0]; exact RdBs.nil, bt (al1 _ _) HB.out⟩

theorem room_take_succ {keep : List Rec} {k : Nat} (h : k < keep.length) : room (keep.take (k + 1)) = room (keep.take k) + (7 + keep[k].length) := by
  rw [List.take_succ_eq_append_getElem h, room_append]; simp [room]
theorem room_take_le (keep : List Rec) (k : Nat) : room (keep.take k) ≤ room keep := by
  have h := room_append (keep.take k) (keep.drop k)
  rw [List.take_append_drop] at h; omega
set_option maxHeartbeats 1000000 in
theorem fits_any (keep : List Rec) (A : Option Addr) (c n : Nat) (w : World) (hA : RdBs w w.heap.size A keep) (hk : keep.length ≤ 100000) (hl : ∀ d ∈ keep, d.length ≤ 9223372036854775807) (h5 : 5 ≤ n) (hn : n ≤ 60000) :
    Calls Tryz.prog 43 #[.slice A keep.length c, .int .i64 (n : Int)] w fun e w' => e = .returned (.bool (decide (room keep + 5 ≤ n))) ∧ w = w' := by
  have HA := Lib.hid hA
  clear hA
  go_enter Tryz.func43, Tryz.ntmps43
  go_wp2
  go_loopw [5, 12] (fun v i wr => ∃ k : Nat, v = .int .i64 ((n : Int) - 5 - (room (keep.take k) : Int)) ∧ i = .int .i64 (k : Int) ∧ k ≤ keep.length ∧ room (keep.take k) + 5 ≤ n ∧ w = wr) (fun _ i _ => keep.length - (intOf i).toNat)
  case atStart => exact ⟨0, by simp [room], rfl, Nat.zero_le _, by simp [room]; omega, rfl⟩
  case round =>
    obtain ⟨k, rfl, rfl, hk2, hrm, rfl⟩ := hrel
    by_cases hlt : k < keep.length
    · obtain ⟨b, o, A', c', rfl, hb, hcell, hcc, _⟩ := HA.out.at_ hlt
      obtain ⟨d, hd⟩ : ∃ d, d = keep[k] := ⟨_, rfl⟩
      rw [← hd] at hcell hcc
      have hdl := hl d (by rw [hd]; exact List.getElem_mem hlt)
      have HD := Lib.hid hd
      clear hd
      have k1 : (0 : Int) ≤ (k : Int) := by omega
      have k2 : (k : Int) < (keep.length : Int) := by omega
      obtain ⟨left, hleft⟩ : ∃ left : Nat, left = n - 5 - room (keep.take k) := ⟨_, rfl⟩
      have hI : ((n : Int) - 5 - (room (keep.take k) : Int)) = (left : Int) := by omega
      rw [hI]
      by_cases h6 : 65535 < d.length
      · have hno : decide (room keep + 5 ≤ n) = false := by
          rw [decide_eq_false_iff_not]
          have h1 := room_take_succ hlt
          have h2 := room_take_le keep (k + 1)
          rw [← HD.out] at h1
          omega
        have HNO := Lib.hid hno
        clear hno
        clear hI hleft
        have q1 : (65535 : Int) < (d.length : Int) := by omega
        go_wp2
        go_ret
        exact ⟨by rw [HNO.out]; rfl, rfl⟩
      · have q1 : ¬ ((65535 : Int) < (d.length : Int)) := by omega
        by_cases h7 : left < 7 + d.length
        · have hno : decide (room keep + 5 ≤ n) = false := by
            rw [decide_eq_false_iff_not]
            have h1 := room_take_succ hlt
            have h2 := room_take_le keep (k + 1)
            rw [← HD.out] at h1
            omega
          have HNO := Lib.hid hno
          clear hno
          clear hI hleft
          have q2 : (left : Int) < 7 + (d.length : Int) := by omega
          go_wp2
          go_ret
          exact ⟨by rw [HNO.out]; rfl, rfl⟩
        · have q2 : ¬ ((left : Int) < 7 + (d.length : Int)) := by omega
          have hstep := room_take_succ hlt
          rw [← HD.out] at hstep
          have HX : Hid ((left : Int) - (7 + (d.length : Int)) = (n : Int) - 5 - (room (keep.take (k + 1)) : Int) ∧ room (keep.take (k + 1)) + 5 ≤ n) := ⟨by omega, by omega⟩
          have hlb : left ≤ 60000 := by omega
          clear hI hleft hstep hrm
          go_wp2
          go_roundw
          case rel => exact ⟨k + 1, by rw [HX.out.1], by go_num, by omega, HX.out.2, trivial⟩
          case measure => simp [intOf]; omega
    · obtain rfl : k = keep.length := by omega
      rw [List.take_of_length_le (Nat.le_refl _)] at hrm
      have hyes : decide (room keep + 5 ≤ n) = true := decide_eq_true (by omega)
      have HY := Lib.hid hyes
      clear hyes
      go_wp2
      go_ret
      exact ⟨by rw [HY.out]; rfl, rfl⟩
end Go.Proofs.YthebojaminploaaGreatDoor

/- journal: whether a sector is written, and Format. -/
set_option maxRecDepth 100000
set_option linter.unusedVariables false
set_option linter.unusedSimpArgs false
namespace Go.Proofs.YthebojaminploaaGreatDoor
open Go.RowKit Go.Sort Go.Shelf

set_option maxHeartbeats 1000000 in
theorem written_any (m : Mem) (b o c i s Bf : Nat) (w : World) (hs : m.1 = (s : Int)) (hA : RdB w w.heap.size (some ⟨b, o, none⟩) m.2) (hf : Bk w Bf 24 #[.int .i64 m.1, .slice (some ⟨b, o, none⟩) m.2.length c]) (hc : m.2.length ≤ c) (hs1 : 1 ≤ s) (hs2 : s ≤ 512) (hi : (i + 1) * s ≤ m.2.length) (hn : m.2.length ≤ 4096) :
    Calls Tryz.prog 44 #[.int .i64 (i : Int), .pointer (some ⟨Bf, 0, none⟩)] w fun e w' => e = .returned (.bool (!restB ((m.2.drop (i * s)).take s) 0)) ∧ w = w' := by
  have hia : i * s + s ≤ m.2.length := by rw [Nat.add_mul] at hi; omega
  obtain ⟨q, hq⟩ : ∃ q, q = i * s := ⟨_, rfl⟩
  have hil : i ≤ q := by rw [hq]; exact Nat.le_mul_of_pos_right _ (by omega)
  obtain ⟨L, hL⟩ : ∃ L, L = (m.2.drop q).take s := ⟨_, rfl⟩
  have hLl : L.length = s := by rw [hL]; simp; omega
  have HR : Hid (RdB w w.heap.size (some ⟨b, o + q, none⟩) L) := by
    show RdB _ _ _ _
    rw [hL]; exact RdB.part hA q s (by omega) (by omega)
  rw [← hq, ← hL]
  have HL := Lib.hid hLl
  have e1 : (i : Int) * (s : Int) = (q : Int) := by rw [hq]; simp
  have e2 : ((i : Int) + 1) * (s : Int) = (q : Int) + (s : Int) := by rw [Int.add_mul, e1]; simp
  have hqs : q + s ≤ 4096 := by omega
  have hib : i ≤ 4096 := by omega
  rw [hs] at hf
  obtain ⟨c0, c1⟩ := box2 hf
  have w1 : (q : Int) ≤ (q : Int) + (s : Int) := by omega
  have w2 : (q : Int) + (s : Int) ≤ (c : Int) := by omega
  have w3 : (0 : Int) ≤ (q : Int) := by omega
  have w4 : ¬ c = q := by omega
  clear hA hf hL hLl hia hi hq
  go_enter Tryz.func44, Tryz.ntmps44
  go_wp2
  rw [show q + s - q = s by omega]
  go_loopw [19] (fun j wr => ∃ k : Nat, j = .int .i64 (k : Int) ∧ k ≤ s ∧ (L.take k).all (· == 255) = true ∧ w = wr) (fun j _ => s - (intOf j).toNat)
  case atStart => exact ⟨0, rfl, Nat.zero_le _, by simp, rfl⟩
  case round =>
    obtain ⟨k, rfl, hk, hall, rfl⟩ := hrel
    by_cases hlt : k < s
    · have hkl : k < L.length := by rw [HL.out]; exact hlt
      obtain ⟨b', o', e, hbb', z0⟩ := HR.out.at_ hkl
      obtain ⟨rfl, rfl⟩ : b = b' ∧ o + q = o' := by simpa using e
      clear e
      obtain ⟨y, hy⟩ : ∃ y, y = L[k] := ⟨_, rfl⟩
      rw [← hy] at z0
      have HC1 : Hid ((L.take (k + 1)).all (· == 255) = (y == 255)) := by
        show _ = _
        rw [List.take_succ_eq_append_getElem hkl, List.all_append, hall, ← hy]; simp
      have HY := Lib.hid hy
      clear hy
      have k1 : (0 : Int) ≤ (k : Int) := by omega
      have k2 : (k : Int) < (s : Int) := by omega
      by_cases h255 : y = 255
      · have e255 : ((y.toNat : Int) != 255) = false := by rw [h255]; rfl
        go_wp2
        go_roundw
        case rel => exact ⟨k + 1, by go_num, by omega, by rw [HC1.out, h255]; rfl, trivial⟩
        case measure => simp [intOf]; omega
      · have e255 : ((y.toNat : Int) != 255) = true := by
          rw [bne_iff_ne]
          intro e
          exact h255 (UInt8.toNat_inj.1 (by have : y.toNat = 255 := by omega
                                            exact this))
        have hno : restB L 0 = false := by
          unfold restB
          rw [List.drop_zero]
          have : ¬ L.all (· == 255) = true := fun h => h255 (by have := List.all_eq_true.1 h y (by rw [HY.out]; exact List.getElem_mem hkl); simpa using this)
          simpa using this
        have HNO := Lib.hid hno
        clear hno
        go_wp2
        go_ret
        exact ⟨by rw [HNO.out]; rfl, rfl⟩
    · obtain rfl : k = s := by omega
      have hyes : restB L 0 = true := by
        unfold restB
        rw [List.drop_zero]
        rwa [List.take_of_length_le (by rw [HL.out]; exact Nat.le_refl _)] at hall
      have HY := Lib.hid hyes
      clear hyes
      go_wp2
      go_ret
      exact ⟨by rw [HY.out]; rfl, rfl⟩

def fmtPost (s k : Int) (w : World) (e : Ending) (w' : World) : Prop :=
  ∃ A c, e = .returned (.tuple #[.agg #[.int .i64 (fmtM s k).1, .slice A (fmtM s k).2.length c], .int .i64 (fmtE s k)]) ∧ (fmtM s k).2.length ≤ c ∧ RdB w' w'.heap.size A (fmtM s k).2 ∧ Below w.heap.size w w'
set_option maxHeartbeats 1000000 in
theorem Format_any (s k : Int) (w : World) (hs0 : -9223372036854775808 ≤ s) (hs1 : s ≤ 9223372036854775807) (hp0 : -9223372036854775808 ≤ k) (hp1 : k ≤ 9223372036854775807) :
    Calls Tryz.prog 32 #[.int .i64 s, .int .i64 k] w (fmtPost s k w) := by
  by_cases h0 : newE s k = 0
  · by_cases hj : jvB (newM s k).1 (newM s k).2.length = true
    · have hE : fmtE s k = 0 ∧ fmtM s k = ((newM s k).1, [80, 0, 0, 0, 0] ++ (newM s k).2.drop 5) := by
        have h1 : fmtE s k = 0 := by simp [fmtE, h0, hj]
        exact ⟨h1, by unfold fmtM; rw [if_pos h1]⟩
      go_enter Tryz.func32, Tryz.ntmps32
      go_wp2_with fail
      obtain ⟨U, hU⟩ : ∃ Zz, Zz = w.alloc (.cells #[.int .i64 0, .slice none 0 0] 24) := ⟨_, rfl⟩
      have hbU : Below w.heap.size w U := by rw [hU]; exact al1 _ _
      have k4 : Bk U w.heap.size 24 #[.int .i64 0, .slice none 0 0] := by rw [hU]; exact Bk.new _ _ _
      rw [← hU]
      clear hU
      have hku : w.heap.size < U.heap.size := k4.lt
      refine (New_any s k U hs0 hs1 hp0 hp1).mono ?_
      rintro e V ⟨A, c, rfl, hcl, hRd, hbV, hnew⟩
      replace k4 := k4.next hbV
      have HB := Lib.hid (bt hbV hbU)
      obtain ⟨M, hM⟩ : ∃ M, M = newM s k := ⟨_, rfl⟩
      rw [← hM] at hcl hRd hnew ⊢
      obtain ⟨g, rfl, hg, rfl, hbk⟩ := hnew h0
      have HBK := Lib.hid hbk
      have e0 : (newE s k != 0) = false := by simp [h0]
      rw [h0]
      have HM := Lib.hid hM
      have lg := hbk.lt
      have lk := k4.lt
      have lgu : w.heap.size < g := by have := hbU.size; have : w.heap.size < U.heap.size := hku; omega
      have K4 := Lib.hid k4
      clear hM hcl hRd hbV hbU k4 hbk hnew e0
      go_wp2_with fail
      obtain ⟨U2, hU2⟩ : ∃ Zz, Zz = V.alloc (.cells #[.int .i64 M.1, .slice (some ⟨g, 0, none⟩) M.2.length M.2.length] 24) := ⟨_, rfl⟩
      have hb2 : Below V.heap.size V U2 := by rw [hU2]; exact al1 _ _
      have k6 : Bk U2 V.heap.size 24 #[.int .i64 M.1, .slice (some ⟨g, 0, none⟩) M.2.length M.2.length] := by rw [hU2]; exact Bk.new _ _ _
      rw [← hU2]
      clear hU2
      refine (valid_lit true M.1 _ M.2.length M.2.length U2 (by rw [HM.out]; exact hj)).mono ?_
      rintro e V2 ⟨rfl, hb3⟩
      have hb4 := bt hb3 hb2
      replace k6 := k6.next hb3
      have K4 := Lib.hid (K4.out.next hb4)
      have HBK := Lib.hid (HBK.out.next hb4)
      have HB := Lib.hid (bt hb4 HB.out)
      have lk6 := k6.lt
      have lv := hb4.size
      clear hb2 hb3 hb4
      obtain ⟨c60, c61⟩ := box2 k6
      obtain ⟨c40, c41⟩ := box2 K4.out
      have f40 := K4.out.frozen 0
      have f41 := K4.out.frozen 1
      have h32 : 32 ≤ M.2.length := by rw [HM.out]; exact jv_len hj
      have K6 := Lib.hid k6
      clear k6
      have HNB : Hid (Below V2.heap.size V2 (V2.alloc (.cells #[.int .u8 80, .int .u8 0, .int .u8 0, .int .u8 0, .int .u8 0] 5)) ∧ Bk (V2.alloc (.cells #[.int .u8 80, .int .u8 0, .int .u8 0, .int .u8 0, .int .u8 0] 5)) V2.heap.size 5 #[.int .u8 80, .int .u8 0, .int .u8 0, .int .u8 0, .int .u8 0]) := ⟨al1 _ _, Bk.new _ _ _⟩
      have hcp := run_copy_row (P := Tryz.prog) (V2.alloc (.cells #[.int .u8 80, .int .u8 0, .int .u8 0, .int .u8 0, .int .u8 0] 5)) 22 22 3 5 g 0 M.2.length M.2.length ⟨V2.heap.size, 0, none⟩ 5 5 (u8s M.2).toArray 5 [.int .u8 80, .int .u8 0, .int .u8 0, .int .u8 0, .int .u8 0] Tryz.underlying22 (by kernel_rfl) (Bk.alloc HBK.out _) (by show 5 = min 5 M.2.length; omega) (fun j v hv => by rw [add_mk, Nat.zero_add, HNB.out.2.cell]; simpa using hv) (by simp; omega) (by simp [Value.oneCell'])
      obtain ⟨Y, hY⟩ : ∃ Zz, Zz = (V2.alloc (.cells #[.int .u8 80, .int .u8 0, .int .u8 0, .int .u8 0, .int .u8 0] 5)).setRow g (((u8s M.2).toArray.toList.take 0 ++ ([.int .u8 80, .int .u8 0, .int .u8 0, .int .u8 0, .int .u8 0] : List Value) ++ (u8s M.2).toArray.toList.drop (0 + ([.int .u8 80, .int .u8 0, .int .u8 0, .int .u8 0, .int .u8 0] : List Value).length)).toArray) := ⟨_, rfl⟩
      rw [← hY] at hcp
      have kg : Bk Y g 5 (u8s ([80, 0, 0, 0, 0] ++ M.2.drop 5)).toArray := by
        rw [hY]
        have := setRow_heap _ g _ (((u8s M.2).toArray.toList.take 0 ++ ([.int .u8 80, .int .u8 0, .int .u8 0, .int .u8 0, .int .u8 0] : List Value) ++ (u8s M.2).toArray.toList.drop (0 + ([.int .u8 80, .int .u8 0, .int .u8 0, .int .u8 0, .int .u8 0] : List Value).length)).toArray) _ _ (Bk.alloc HBK.out (.cells #[.int .u8 80, .int .u8 0, .int .u8 0, .int .u8 0, .int .u8 0] 5))
        have e : (((u8s M.2).toArray.toList.take 0 ++ ([.int .u8 80, .int .u8 0, .int .u8 0, .int .u8 0, .int .u8 0] : List Value) ++ (u8s M.2).toArray.toList.drop (0 + ([.int .u8 80, .int .u8 0, .int .u8 0, .int .u8 0, .int .u8 0] : List Value).length)).toArray) = (u8s ([80, 0, 0, 0, 0] ++ M.2.drop 5)).toArray := by simp [u8s, u8, List.map_drop]
        rw [e] at this ⊢
        exact this
      have kq : Bk Y V.heap.size 24 #[.int .i64 M.1, .slice (some ⟨g, 0, none⟩) M.2.length M.2.length] := by rw [hY]; exact (setRow_other _ g _ _ (by omega)).trans (K6.out.alloc _)
      have kr : Bk Y w.heap.size 24 #[.int .i64 0, .slice none 0 0] := by rw [hY]; exact (setRow_other _ g _ _ (by omega)).trans (K4.out.alloc _)
      have hbY : Below w.heap.size w Y := by rw [hY]; exact below_setRow (HB.out.alloc HB.out.size _) (by omega) _
      have HCP := Lib.hid hcp
      have KKG := Lib.hid kg
      have KKQ := Lib.hid kq
      have KKR := Lib.hid kr
      have HBY := Lib.hid hbY
      clear hY hcp kg kq kr hbY
      go_wp2_with fail
      rw [HCP.out]
      simp only [Result.andThen_ok]
      have kr := KKR.out
      have kg := KKG.out
      have hbY := HBY.out
      clear c40 c41 f40 f41 c60 c61
      obtain ⟨c60, c61⟩ := box2 KKQ.out
      obtain ⟨c40, c41⟩ := box2 KKR.out
      have f40 := KKR.out.frozen 0
      have f41 := KKR.out.frozen 1
      have hcY : w.heap.size < Y.heap.size := KKR.out.lt
      go_wp2
      obtain ⟨X, hX⟩ : ∃ Zz, Zz = (Y.setCell ⟨w.heap.size, 0, none⟩ (.int .i64 M.1)).setCell ⟨w.heap.size, 1, none⟩ (.slice (some ⟨g, 0, none⟩) M.2.length M.2.length) := ⟨_, rfl⟩
      have kX : Bk X w.heap.size 24 #[.int .i64 M.1, .slice (some ⟨g, 0, none⟩) M.2.length M.2.length] := by rw [hX]; simpa using (kr.set 0 (.int .i64 M.1)).set 1 (.slice (some ⟨g, 0, none⟩) M.2.length M.2.length)
      have kgX : Bk X g 5 (u8s ([80, 0, 0, 0, 0] ++ M.2.drop 5)).toArray := by rw [hX]; exact (kg.far (p := ⟨w.heap.size, 0, none⟩) (by show g ≠ w.heap.size; omega) _).far (p := ⟨w.heap.size, 1, none⟩) (by show g ≠ w.heap.size; omega) _
      have hbX : Below w.heap.size w X := by rw [hX]; exact (hbY.setCell (p := ⟨w.heap.size, 0, none⟩) (Nat.le_refl _) _).setCell (p := ⟨w.heap.size, 1, none⟩) (Nat.le_refl _) _
      rw [← hX]
      obtain ⟨u0, u1⟩ := box2 kX
      clear hX
      have hlen : ([80, 0, 0, 0, 0] ++ M.2.drop 5).length = M.2.length := by simp; omega
      refine bodyPost_ret (v := .tuple #[.agg #[.int .i64 M.1, .slice (some ⟨g, 0, none⟩) M.2.length M.2.length], .int .i64 0]) (by simp [results, Tryz.results32, go_sem, u0, u1]) rfl ⟨some ⟨g, 0, none⟩, M.2.length, ?_, ?_, ?_, hbX⟩
      · rw [hE.1, hE.2, ← HM.out, hlen]
      · rw [hE.2, ← HM.out, hlen]; exact Nat.le_refl _
      · rw [hE.2, ← HM.out]; exact RdB.of_bk kgX kgX.lt
    · have hj : jvB (newM s k).1 (newM s k).2.length = false := by simpa using hj
      have hE : fmtE s k = 1 ∧ fmtM s k = (0, []) := by simp [fmtE, fmtM, hj]
      go_enter Tryz.func32, Tryz.ntmps32
      go_wp2_with fail
      obtain ⟨U, hU⟩ : ∃ Zz, Zz = w.alloc (.cells #[.int .i64 0, .slice none 0 0] 24) := ⟨_, rfl⟩
      have hbU : Below w.heap.size w U := by rw [hU]; exact al1 _ _
      have k4 : Bk U w.heap.size 24 #[.int .i64 0, .slice none 0 0] := by rw [hU]; exact Bk.new _ _ _
      rw [← hU]
      clear hU
      have hku : w.heap.size < U.heap.size := k4.lt
      refine (New_any s k U hs0 hs1 hp0 hp1).mono ?_
      rintro e V ⟨A, c, rfl, hcl, hRd, hbV, hnew⟩
      replace k4 := k4.next hbV
      have HB := Lib.hid (bt hbV hbU)
      obtain ⟨M, hM⟩ : ∃ M, M = newM s k := ⟨_, rfl⟩
      rw [← hM] at hcl hRd hnew ⊢
      obtain ⟨g, rfl, hg, rfl, hbk⟩ := hnew h0
      have HBK := Lib.hid hbk
      have e0 : (newE s k != 0) = false := by simp [h0]
      rw [h0]
      have HM := Lib.hid hM
      have lg := hbk.lt
      have lk := k4.lt
      have lgu : w.heap.size < g := by have := hbU.size; have : w.heap.size < U.heap.size := hku; omega
      have K4 := Lib.hid k4
      clear hM hcl hRd hbV hbU k4 hbk hnew e0
      go_wp2_with fail
      obtain ⟨U2, hU2⟩ : ∃ Zz, Zz = V.alloc (.cells #[.int .i64 M.1, .slice (some ⟨g, 0, none⟩) M.2.length M.2.length] 24) := ⟨_, rfl⟩
      have hb2 : Below V.heap.size V U2 := by rw [hU2]; exact al1 _ _
      have k6 : Bk U2 V.heap.size 24 #[.int .i64 M.1, .slice (some ⟨g, 0, none⟩) M.2.length M.2.length] := by rw [hU2]; exact Bk.new _ _ _
      rw [← hU2]
      clear hU2
      refine (valid_lit false M.1 _ M.2.length M.2.length U2 (by rw [HM.out]; exact hj)).mono ?_
      rintro e V2 ⟨rfl, hb3⟩
      have hb4 := bt hb3 hb2
      replace k6 := k6.next hb3
      have K4 := Lib.hid (K4.out.next hb4)
      have HBK := Lib.hid (HBK.out.next hb4)
      have HB := Lib.hid (bt hb4 HB.out)
      have lk6 := k6.lt
      have lv := hb4.size
      clear hb2 hb3 hb4
      obtain ⟨c60, c61⟩ := box2 k6
      obtain ⟨c40, c41⟩ := box2 K4.out
      have f40 := K4.out.frozen 0
      have f41 := K4.out.frozen 1
      clear HBK k6
      go_wp2
      obtain ⟨X, hX⟩ : ∃ Zz, Zz = ((V2).setCell ⟨w.heap.size, 0, none⟩ (.int .i64 0)).setCell ⟨w.heap.size, 1, none⟩ (.slice none 0 0) := ⟨_, rfl⟩
      have kX : Bk X w.heap.size 24 #[.int .i64 0, .slice none 0 0] := by rw [hX]; simpa using (K4.out.set 0 (.int .i64 0)).set 1 (.slice none 0 0)
      have hbX : Below w.heap.size w X := by rw [hX]; exact (HB.out.setCell (p := ⟨w.heap.size, 0, none⟩) (Nat.le_refl _) _).setCell (p := ⟨w.heap.size, 1, none⟩) (Nat.le_refl _) _
      rw [← hX]
      obtain ⟨u0, u1⟩ := box2 kX
      clear hX
      refine bodyPost_ret (v := .tuple #[.agg #[.int .i64 0, .slice none 0 0], .int .i64 1]) (by simp [results, Tryz.results32, go_sem, u0, u1]) rfl ⟨none, 0, ?_, ?_, ?_, hbX⟩
      · rw [hE.1, hE.2]; rfl
      · rw [hE.2]; exact Nat.le_refl _
      · rw [hE.2]; exact RdS.nil
  · have hE : fmtE s k = 1 ∧ fmtM s k = (0, []) := by simp [fmtE, fmtM, h0]
    go_enter Tryz.func32, Tryz.ntmps32
    go_wp2_with fail
    obtain ⟨U, hU⟩ : ∃ Zz, Zz = w.alloc (.cells #[.int .i64 0, .slice none 0 0] 24) := ⟨_, rfl⟩
    have hbU : Below w.heap.size w U := by rw [hU]; exact al1 _ _
    have k4 : Bk U w.heap.size 24 #[.int .i64 0, .slice none 0 0] := by rw [hU]; exact Bk.new _ _ _
    rw [← hU]
    clear hU
    refine (New_any s k U hs0 hs1 hp0 hp1).mono ?_
    rintro e V ⟨A, c, rfl, hcl, hRd, hbV, hnew⟩
    replace k4 := k4.next hbV
    have HB := Lib.hid (bt hbV hbU)
    obtain ⟨M, hM⟩ : ∃ M, M = newM s k := ⟨_, rfl⟩
    rw [← hM] at hcl hRd hnew ⊢
    have e0 : (newE s k != 0) = true := by simp [h0]
    obtain ⟨nn, hnn⟩ : ∃ nn, nn = newE s k := ⟨_, rfl⟩
    rw [← hnn] at e0 ⊢
    have HF := Lib.hid hnn
    obtain ⟨c40, c41⟩ := box2 k4
    have f40 := k4.frozen 0
    have f41 := k4.frozen 1
    have lk := k4.lt
    have K4 := Lib.hid k4
    clear hM hnn hnew hcl hRd hbV hbU k4
    go_wp2
    obtain ⟨X, hX⟩ : ∃ Zz, Zz = (((V).setCell ⟨w.heap.size, 0, none⟩ (.int .i64 0)).setCell ⟨w.heap.size, 1, none⟩ (.slice none 0 0)).alloc (.cells #[.int .i64 M.1, .slice A M.2.length c] 24) := ⟨_, rfl⟩
    have kX : Bk X w.heap.size 24 #[.int .i64 0, .slice none 0 0] := by rw [hX]; exact Bk.alloc (by simpa using (K4.out.set 0 (.int .i64 0)).set 1 (.slice none 0 0)) _
    have hbX : Below w.heap.size w X := by rw [hX]; exact ((HB.out.setCell (p := ⟨w.heap.size, 0, none⟩) (Nat.le_refl _) _).setCell (p := ⟨w.heap.size, 1, none⟩) (Nat.le_refl _) _).alloc (by simp; omega) _
    rw [← hX]
    obtain ⟨u0, u1⟩ := box2 kX
    clear hX
    refine bodyPost_ret (v := .tuple #[.agg #[.int .i64 0, .slice none 0 0], .int .i64 1]) (by simp [results, Tryz.results32, go_sem, u0, u1]) rfl ⟨none, 0, ?_, ?_, ?_, hbX⟩
    · rw [hE.1, hE.2]; rfl
    · rw [hE.2]; exact Nat.le_refl _
    · rw [hE.2]; exact RdS.nil
end Go.Proofs.YthebojaminploaaGreatDoor
