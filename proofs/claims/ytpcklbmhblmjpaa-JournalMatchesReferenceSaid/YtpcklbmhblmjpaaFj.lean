/- The reference's Erase: the same list of memories. -/
import Derived.Test.YtpcklbmhblmjpaaFi
set_option maxRecDepth 100000
set_option linter.unusedVariables false
set_option linter.unusedSimpArgs false
namespace Go.Proofs.Ytpcklbmhblmjpaa
open Go.RowKit

set_option maxHeartbeats 4000000 in
theorem rErase_any (m : Mem) (z : Int) (A : Option Addr) (c : Nat) (w : World) (hA : RdB w w.heap.size A m.2) (hcap : m.2.length ≤ c) (hn : m.2.length ≤ 1000000000) (hp0 : -9223372036854775808 ≤ z) (hp1 : z ≤ 9223372036854775807) :
    Calls Try.prog 40 #[.agg #[.int .i64 m.1, .slice A m.2.length c], .int .i64 z] w (ListPost w (eraL m z) (eraE m z)) := by
  obtain ⟨tI, hi, hz0, hz1, hz2⟩ := info_parts info_flash
  obtain ⟨s, bs⟩ := m
  dsimp only at *
  have HA := Lib.hid hA
  clear hA
  have hB0 : Below w.heap.size w (w.alloc (.cells #[.int .i64 s, .slice A bs.length c] 24)) := (Below.refl _ w).alloc (Nat.le_refl _) _
  have k1 : Bk (w.alloc (.cells #[.int .i64 s, .slice A bs.length c] 24)) w.heap.size 24 #[.int .i64 s, .slice A bs.length c] := Bk.new _ _ _
  by_cases hv : validB s bs.length = true
  · have hv' := (valid_iff _ _).1 hv
    obtain ⟨v1, v2, v3, v4, v5⟩ := hv'
    have d0 : 0 ≤ (bs.length : Int) / s := Int.ediv_nonneg (by omega) (by omega)
    have d1 : (bs.length : Int) / s ≤ 4096 := Int.le_trans (Int.ediv_le_self _ (by omega)) (by omega)
    by_cases h0 : 0 ≤ z
    · by_cases h1 : z < (bs.length : Int) / s
      · obtain ⟨e1, e2⟩ := era_in (m := (s, bs)) hv h0 h1
        rw [e1, e2]
        clear e1 e2
        obtain ⟨q0, q1⟩ := sector_in v1 v5 h0 h1
        obtain ⟨n, hns⟩ := Int.eq_ofNat_of_zero_le (a := s) (by omega)
        obtain ⟨q, hq⟩ := Int.eq_ofNat_of_zero_le q0
        have hqn : q + n ≤ bs.length := by omega
        have hn1 : 1 ≤ n := by omega
        have hn2 : n ≤ 512 := by omega
        have HR : Hid ((memos eraF bs (z * s).toNat s.toNat) = memos eraF bs q n) := by show _ = _; rw [hq, hns]; rfl
        rw [HR.out]
        have z2 : decide (z < 0) = false := by simp; omega
        have z3 : decide ((bs.length : Int) / s ≤ z) = false := by simp; omega
        have HN := Lib.hid hns
        clear v5 q0 q1 hns
        go_enter Try.func40, Try.ntmps40
        go_wp2_with fail
        refine (rValid_any _ _ _ _ _).mono ?_
        rintro e W2 ⟨rfl, hb2⟩
        have k3 := k1.next hb2
        obtain ⟨c0, c1, _, _⟩ := boxFacts k3
        have hbb := bt hb2 hB0
        have RA := HA.out.next hbb
        have hz : w.heap.size + 1 ≤ W2.heap.size := by have := k3.lt; omega
        clear k1 hb2 hB0
        go_wp2
        go_loopw [6, 7] (fun v i wr => ∃ (k : Nat) (its : List Elt), i = .int .i64 (k : Int) ∧ k ≤ n ∧ its.length = k + 1 ∧ its.map (·.2.2) = memos eraF bs q k ∧ Lst s (w.heap.size + 1) its v wr ∧ Bk wr w.heap.size 24 #[.int .i64 s, .slice A bs.length c] ∧ Below w.heap.size w wr) (fun _ i _ => n - (intOf i).toNat)
        case atStart =>
          refine ⟨0, [(A, c, bs)], rfl, Nat.zero_le _, rfl, rfl, ⟨?_, ?_, ?_⟩, k3.alloc _, hbb.alloc (by omega) _⟩
          · exact ⟨rfl, .inr ⟨W2.heap.size, 1, _, rfl, hz, Bk.new _ _ _, Nat.le_refl _, by simp [maxLen], rfl, rfl⟩⟩
          · intro x hx
            obtain rfl : x = (A, c, bs) := by simpa using hx
            exact ⟨RA.next ((Below.refl _ _).alloc (Nat.le_refl _) _), hcap⟩
          · intro x hx hlen b o e
            obtain rfl : x = (A, c, bs) := by simpa using hx
            obtain ⟨b', o', e', hb', _⟩ := HA.out.2 hlen
            rw [show A = some ⟨b, o, none⟩ from e] at e'
            injection e' with e'; injection e' with e'
            simp [Value.ownBlock]
            omega
        case round =>
          obtain ⟨k, its, rfl, hk, hil, him, hl, kb, hb⟩ := hrel
          have HIM := Lib.hid him
          have HIL := Lib.hid hil
          obtain ⟨g, cap, hvs⟩ := ownsRow_succ (by rw [← hil]; exact hl.1)
          rw [hvs] at hl ⊢
          have HL := Lib.hid hl
          obtain ⟨x0, x1, _, _⟩ := boxFacts kb
          have HKB := Lib.hid kb
          by_cases hlt : k < n
          · have hks : (k : Int) < s := by have := HN.out; omega
            have hl' := hl
            rw [← hil] at hl'
            obtain ⟨A1, c1', r1, r2, r3, r4, r5⟩ := Lst.at_ hl' (k := k) (by omega)
            have hm : (its[k]'(by omega)).2.2 = memo eraF bs q k := by
              have h5 := memos_get eraF bs q k k (by omega)
              rw [← him] at h5
              simp only [List.getElem?_map, Option.map_eq_some_iff] at h5
              obtain ⟨y, hy, hy2⟩ := h5
              obtain ⟨hk', hy'⟩ := List.getElem?_eq_some_iff.1 hy
              rw [hy']; exact hy2
            rw [hm] at r2 r3 r4 r5
            have hml := memo_length eraF bs q k
            obtain ⟨mb, hmb⟩ : ∃ mb, mb = memo eraF bs q k := ⟨_, rfl⟩
            rw [← hmb] at r2 r3 r4 r5 hml
            have hqk : q + k < mb.length := by omega
            have n4 : mb.length ≤ 4096 := by omega
            have hmemo : memo eraF bs q (k + 1) = mb.set (q + k) 255 := by
              simp only [memo]
              rw [← hmb]; rfl
            have HML := Lib.hid hml
            have HMM := Lib.hid hmemo
            have hwith := With_any s mb A1 c1' (q + k) 255 wr.drew r4 hqk (by omega)
            rw [Int.natCast_add] at hwith
            have HW := Lib.hid hwith
            have hgl : g < wr.heap.size := by
              obtain ⟨_, _, h8, _, h9⟩ := HL.out.1.form (by have := HIL.out; omega)
              injection h8 with h8; injection h8 with h8; injection h8 with h8
              omega
            have hg0 : w.heap.size + 1 ≤ g := own_ge HL.out.1 g rfl
            have hszw := hb.size
            clear hm hil him hl hl' hml hmb hvs hwith hmemo r4 r5 kb
            have i1 : (0 : Int) ≤ (q : Int) + (k : Int) := by omega
            have i3 : ((q : Int) + (k : Int)).toNat = q + k := by omega
            have i5 : (k : Int) < (k : Int) + 1 := by omega
            have i6 : (0 : Int) ≤ (k : Int) := by omega
            have i7 : (k : Int) < ((k + 1 : Nat) : Int) := by omega
            have i4 : IntKind.i64.wrap ((q : Int)) = (q : Int) := IntWalk.i64_in _ (by omega)
            have i0 : IntKind.i64.wrap ((q : Int) + (k : Int)) = (q : Int) + (k : Int) := IntWalk.i64_in _ (by omega)
            go_wp2
            go_region_law (first
                | (refine step_append_lies _ (by rfl) _ _ _ (by rfl) (w.heap.size + 1) 24 tI (.agg #[.int .i64 0, .slice none 0 0]) 2 32 Try.underlying35 hi hz0 hz1 hz2 rfl (by omega) (.slice (some ⟨g, 0, none⟩) (k + 1) cap) (k + 1) (cellsE s its) (by rfl) (hrow.alloc _) ⟨W6.heap.size, 0, none⟩ 1 1 [.int .i64 s, .slice (some ⟨g6, 0, none⟩) mb.length cap6] (by rfl) (by rfl) (news2 _ _ _ _) (by simp [Value.oneCell']) (by omega) (by simp only [maxLen]; omega) (by omega) (by simp; omega) _ rfl ?_; intro g' cap' w1 hown' hgrow hat hlt')
                | (go_simp; go_at_call 57; refine HW.out.mono ?_; rintro e W6 ⟨g6, cap6, rfl, hcap6, hg6, R6, hb6⟩; have hb6 : Below wr.heap.size wr W6 := ⟨hb6.os, hb6.tape, hb6.output, hb6.size, hb6.block⟩; have hsz6 := hb6.size; have hrow := (HL.out.next hb6).1; rw [HIL.out] at hrow))
            all_goals
              have HB6 := Lib.hid hb6
              have HL6 := Lib.hid (HL.out.next hb6)
              have HX : Hid (EltOk W6 (some ⟨g6, 0, none⟩, cap6, mb.set (q + k) 255)) := ⟨R6, by simpa using hcap6⟩
              have HS6 : Hid (∀ b o, (some ⟨g6, 0, none⟩ : Option Addr) = some ⟨b, o, none⟩ → some b ≠ (Value.slice (some ⟨g, 0, none⟩) (k + 1) cap).ownBlock) := by
                intro b o e he
                injection e with e; injection e with e
                have h7 : b = g := by simpa [Value.ownBlock] using he
                have : wr.drew.heap.size = wr.heap.size := rfl
                omega
              have HG := Lib.hid hgrow
              have HO := Lib.hid hown'
              have HAT : Hid ((Value.slice (some ⟨g', 0, none⟩) (k + 1 + 1) cap').ownBlock = (Value.slice (some ⟨g, 0, none⟩) (k + 1) cap).ownBlock ∨ (Value.slice (some ⟨g', 0, none⟩) (k + 1 + 1) cap').ownBlock = some (W6.alloc (.cells #[.int .i64 s, .slice (some ⟨g6, 0, none⟩) mb.length cap6] 24)).heap.size) := by
                rcases hat with e | e
                · exact .inl e.symm
                · exact .inr (by rw [← e]; rfl)
              have HK6 : Hid (Bk w1 w.heap.size 24 #[.int .i64 s, .slice A bs.length c]) := ((HKB.out.next hb6).alloc _).grown hgrow (by simp [Value.ownBlock]; omega)
              clear hgrow hown' hat R6 hb6 i0 i1 i3 i4 i5 i6 i7 r1 r2 hrow
              go_wp2
              go_roundw
              case rel =>
                refine ⟨k + 1, its ++ [(some ⟨g6, 0, none⟩, cap6, mb.set (q + k) 255)], by go_num, by omega, by simp [HIL.out], ?_, ?_, HK6.out, ?_⟩
                · rw [List.map_append, HIM.out, memos_succ, HMM.out]; rfl
                · refine Lst.snoc HL6.out HX.out (fun _ => HS6.out) ?_ HG.out HAT.out
                  rw [HIL.out]
                  simpa using HO.out
                · exact ((bt HB6.out hb).alloc (by omega) _).grown HG.out (by simp; omega) (fun j hj => (by have : g = j := (by simpa [Value.ownBlock] using hj); omega))
              case measure => simp [intOf]; omega
          · obtain rfl : k = n := by omega
            have hks : ¬ (k : Int) < s := by have := HN.out; omega
            have HB := Lib.hid hb
            clear hil him hl kb
            go_wp2
            go_ret2
            refine ⟨some ⟨g, 0, none⟩, cap, ?_, ?_, ?_, HB.out⟩
            · simp [memos_length]
            · have := HL.out.1
              rw [HIL.out] at this
              rcases this.2 with ⟨h, _⟩ | ⟨_, _, _, h, _, _, hh, _⟩
              · cases h
              · injection h with _ _ h; simp [memos_length]; omega
            · have h9 := HL.out
              rw [← HIL.out] at h9
              have := Lst.reads h9
              rw [← HIM.out, List.map_map]
              exact this
      · have h1' : (bs.length : Int) / s ≤ z := by omega
        obtain ⟨e1, e2⟩ := era_bad (m := (s, bs)) (k := z) (.inr (.inr h1))
        rw [e1, e2]
        clear e1 e2 v5
        go_enter Try.func40, Try.ntmps40
        go_wp2_with fail
        refine (rValid_any _ _ _ _ _).mono ?_
        rintro e W2 ⟨rfl, hb2⟩
        have k3 := k1.next hb2
        obtain ⟨c0, c1, _, _⟩ := boxFacts k3
        have hbb := bt hb2 hB0
        clear k1 hb2 hB0 k3
        go_wp2
        go_ret2
        exact ⟨none, 0, rfl, Nat.le_refl _, RdFs.nil, hbb⟩
    · obtain ⟨e1, e2⟩ := era_bad (m := (s, bs)) (k := z) (.inr (.inl (by omega)))
      rw [e1, e2]
      clear e1 e2 v5
      go_enter Try.func40, Try.ntmps40
      go_wp2_with fail
      refine (rValid_any _ _ _ _ _).mono ?_
      rintro e W2 ⟨rfl, hb2⟩
      have k3 := k1.next hb2
      obtain ⟨c0, c1, _, _⟩ := boxFacts k3
      have hbb := bt hb2 hB0
      clear k1 hb2 hB0 k3
      go_wp2
      go_ret2
      exact ⟨none, 0, rfl, Nat.le_refl _, RdFs.nil, hbb⟩
  · have hv' : validB s bs.length = false := by simpa using hv
    obtain ⟨e1, e2⟩ := era_bad (m := (s, bs)) (k := z) (.inl hv')
    rw [e1, e2]
    clear e1 e2 hv
    go_enter Try.func40, Try.ntmps40
    go_wp2_with fail
    refine (rValid_any _ _ _ _ _).mono ?_
    rintro e W2 ⟨rfl, hb2⟩
    have k3 := k1.next hb2
    obtain ⟨c0, c1, _, _⟩ := boxFacts k3
    have hbb := bt hb2 hB0
    clear k1 hb2 hB0 k3
    go_wp2
    go_ret2
    exact ⟨none, 0, rfl, Nat.le_refl _, RdFs.nil, hbb⟩
end Go.Proofs.Ytpcklbmhblmjpaa
