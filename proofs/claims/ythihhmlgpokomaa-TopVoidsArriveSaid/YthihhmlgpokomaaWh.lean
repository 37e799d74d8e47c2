/- cards: Accepts, Late. -/
import Derived.Test.YthihhmlgpokomaaWd
import Derived.Test.YthihhmlgpokomaaWe
set_option maxRecDepth 100000
set_option linter.unusedVariables false
set_option linter.unusedSimpArgs false
namespace Go.Proofs.Ythihhmlgpokomaa
open Go.RowKit

theorem info_int : (Try.prog.info? 3).map (fun i => (i.zero, i.size, i.bytes)) = some (some (.int .i64 0), 1, 8) := by kernel_rfl
theorem news1 (W : World) (t : TypeId) (a : Value) : ∀ j u, [a][j]? = some u → (W.alloc (.cells #[a] t)).cell? ((⟨W.heap.size, 0, none⟩ : Addr).add j) = some u := news_at W t [a]
theorem cAt (l : List Cd) (n : Int) : (∃ i, ∃ (hi : i < l.length), l[i].n = n) ∨ ∀ i (hi : i < l.length), l[i].n ≠ n := by
  by_cases h : ∃ i, ∃ (hi : i < l.length), l[i].n = n
  · exact .inl h
  · exact .inr fun i hi e => h ⟨i, hi, e⟩
set_option maxHeartbeats 2000000 in
theorem Accepts_lit (K E : Int) (l : List Cd) (v : List Vd) (n ep : Int) (A B : Option Addr) (c cb : Nat) (w : World) (hK : accK l v n ep = K) (hE : accE l v n ep = E) (hl : COk l) (hv : VOk v) (hn : 1 ≤ n ∧ n ≤ 1000000) (he : 0 ≤ ep ∧ ep ≤ 1000000) (hA : RdC w w.heap.size A l) (hB : RdV w w.heap.size B v) :
    Calls Try.prog 12 #[.slice A l.length c, .slice B v.length cb, .int .i64 n, .int .i64 ep] w fun e w' => e = .returned (.tuple #[.int .i64 K, .int .i64 E]) ∧ Below w.heap.size w w' := by
  unfold accE at hE
  unfold accK at hK
  rcases cAt l n with hf | hno
  · obtain ⟨i, hi, hni⟩ := hf
    obtain ⟨x, hx⟩ : ∃ x, x = l[i] := ⟨_, rfl⟩
    rw [fdC_at hl hi hni, ← hx] at hE hK
    simp only at hE hK
    have HN := Lib.hid hni
    have HX := Lib.hid hx
    clear hni hx
    by_cases hin : inB x ep = true
    · rw [if_pos hin] at hE hK
      have HIN := Lib.hid hin
      clear hin
      by_cases hrv : rvB v n ep = true
      · rw [if_pos hrv] at hE hK
        subst hE
        subst hK
        have HRV := Lib.hid hrv
        clear hrv
        have HV1 := Lib.hid hl
        have HV2 := Lib.hid hv
        have HB := Lib.hid (Below.refl w.heap.size w)
        have F_a := Lib.hid hA
        have F_b := Lib.hid hB
        have h641 := hl.len
        have h642 := hv.len
        have hnd : decide (1 ≤ n ∧ n ≤ 1000000) = true := decide_eq_true hn
        have hed : decide (0 ≤ ep ∧ ep ≤ 1000000) = true := decide_eq_true he
        have HND := Lib.hid hnd
        have HED := Lib.hid hed
        clear hl hv hA hB hnd hed hn he
        go_enter Try.func12, Try.ntmps12
        go_wp2_with fail
        refine (cardsOf_any l A c _ (by omega) F_a.out).mono ?_
        rintro e V1 ⟨A1, c1, rfl, hc1, r1, hb⟩
        have hB := hb
        replace F_a := Lib.hid (F_a.out.next hB)
        replace F_b := Lib.hid (F_b.out.next hB)
        replace HB := Lib.hid (bt hB HB.out)
        clear hb hB
        have F_1 := Lib.hid (r1)
        clear r1
        go_wp2_with fail
        refine (voidsOf_any v B cb _ (by omega) F_b.out).mono ?_
        rintro e V2 ⟨A2, c2, rfl, hc2, r2, hb⟩
        have hB := hb
        replace F_a := Lib.hid (F_a.out.next hB)
        replace F_b := Lib.hid (F_b.out.next hB)
        replace F_1 := Lib.hid (F_1.out.next hB)
        replace HB := Lib.hid (bt hB HB.out)
        clear hb hB
        have F_2 := Lib.hid (r2)
        clear r2
        go_wp2_with fail
        refine (validList_c l A1 c1 _ HV1.out F_1.out).mono ?_
        rintro e V3 ⟨rfl, hb⟩
        have hB := hb
        replace F_a := Lib.hid (F_a.out.next hB)
        replace F_b := Lib.hid (F_b.out.next hB)
        replace F_1 := Lib.hid (F_1.out.next hB)
        replace F_2 := Lib.hid (F_2.out.next hB)
        replace HB := Lib.hid (bt hB HB.out)
        clear hb hB
        go_wp2_with fail
        refine (validList_v v A2 c2 _ HV2.out F_2.out).mono ?_
        rintro e V4 ⟨rfl, hb⟩
        have hB := hb
        replace F_a := Lib.hid (F_a.out.next hB)
        replace F_b := Lib.hid (F_b.out.next hB)
        replace F_1 := Lib.hid (F_1.out.next hB)
        replace F_2 := Lib.hid (F_2.out.next hB)
        replace HB := Lib.hid (bt hB HB.out)
        clear hb hB
        go_wp2_with fail
        refine (isNumber_lit true n _ HND.out).mono ?_
        rintro e w' ⟨rfl, rfl⟩
        go_wp2_with fail
        refine (isEpoch_lit true ep _ HED.out).mono ?_
        rintro e w' ⟨rfl, rfl⟩
        go_wp2_with fail
        refine (find_c_yes l n A1 c1 _ HV1.out F_1.out i hi HN.out).mono ?_
        rintro e V5 ⟨rfl, hb⟩
        have hB := hb
        replace F_a := Lib.hid (F_a.out.next hB)
        replace F_b := Lib.hid (F_b.out.next hB)
        replace F_1 := Lib.hid (F_1.out.next hB)
        replace F_2 := Lib.hid (F_2.out.next hB)
        replace HB := Lib.hid (bt hB HB.out)
        clear hb hB
        rw [← HX.out]
        go_wp2_with fail
        refine (cIn_lit true x ep _ HIN.out).mono ?_
        rintro e V6 ⟨rfl, hb⟩
        have hB := bt hb (al1 V5 _)
        have K_c : Hid (Bk V6 (V5.heap.size) 58 #[.int .i64 x.n, .int .i64 x.k, .int .i64 x.f, .int .i64 x.l]) := Bk.next (by first | exact Bk.new _ _ _ | exact (Bk.new _ _ _).alloc _ | exact ((Bk.new _ _ _).alloc _).alloc _ | exact bkOf (by simp [at?_alloc])) hb
        replace F_a := Lib.hid (F_a.out.next hB)
        replace F_b := Lib.hid (F_b.out.next hB)
        replace F_1 := Lib.hid (F_1.out.next hB)
        replace F_2 := Lib.hid (F_2.out.next hB)
        replace HB := Lib.hid (bt hB HB.out)
        clear hb hB
        obtain ⟨c_c0, c_c1, c_c2, c_c3⟩ := box4 K_c.out
        have l_c := K_c.out.lt
        go_wp2_with fail
        clear c_c0 c_c1 c_c2 c_c3 l_c
        refine (revoked_lit true v n ep A2 c2 _ HRV.out HV2.out F_2.out).mono ?_
        rintro e V7 ⟨rfl, hb⟩
        have hB := hb
        replace F_a := Lib.hid (F_a.out.next hB)
        replace F_b := Lib.hid (F_b.out.next hB)
        replace F_1 := Lib.hid (F_1.out.next hB)
        replace F_2 := Lib.hid (F_2.out.next hB)
        replace K_c := Lib.hid (K_c.out.next hB)
        replace HB := Lib.hid (bt hB HB.out)
        clear hb hB
        go_wp2
        go_ret2
        exact ⟨rfl, HB.out⟩
      · rw [if_neg hrv] at hE hK
        subst hE
        subst hK
        have HRV : Hid (rvB v n ep = false) := Lib.hid (by simpa using hrv)
        clear hrv
        have HV1 := Lib.hid hl
        have HV2 := Lib.hid hv
        have HB := Lib.hid (Below.refl w.heap.size w)
        have F_a := Lib.hid hA
        have F_b := Lib.hid hB
        have h641 := hl.len
        have h642 := hv.len
        have hnd : decide (1 ≤ n ∧ n ≤ 1000000) = true := decide_eq_true hn
        have hed : decide (0 ≤ ep ∧ ep ≤ 1000000) = true := decide_eq_true he
        have HND := Lib.hid hnd
        have HED := Lib.hid hed
        clear hl hv hA hB hnd hed hn he
        go_enter Try.func12, Try.ntmps12
        go_wp2_with fail
        refine (cardsOf_any l A c _ (by omega) F_a.out).mono ?_
        rintro e V1 ⟨A1, c1, rfl, hc1, r1, hb⟩
        have hB := hb
        replace F_a := Lib.hid (F_a.out.next hB)
        replace F_b := Lib.hid (F_b.out.next hB)
        replace HB := Lib.hid (bt hB HB.out)
        clear hb hB
        have F_1 := Lib.hid (r1)
        clear r1
        go_wp2_with fail
        refine (voidsOf_any v B cb _ (by omega) F_b.out).mono ?_
        rintro e V2 ⟨A2, c2, rfl, hc2, r2, hb⟩
        have hB := hb
        replace F_a := Lib.hid (F_a.out.next hB)
        replace F_b := Lib.hid (F_b.out.next hB)
        replace F_1 := Lib.hid (F_1.out.next hB)
        replace HB := Lib.hid (bt hB HB.out)
        clear hb hB
        have F_2 := Lib.hid (r2)
        clear r2
        go_wp2_with fail
        refine (validList_c l A1 c1 _ HV1.out F_1.out).mono ?_
        rintro e V3 ⟨rfl, hb⟩
        have hB := hb
        replace F_a := Lib.hid (F_a.out.next hB)
        replace F_b := Lib.hid (F_b.out.next hB)
        replace F_1 := Lib.hid (F_1.out.next hB)
        replace F_2 := Lib.hid (F_2.out.next hB)
        replace HB := Lib.hid (bt hB HB.out)
        clear hb hB
        go_wp2_with fail
        refine (validList_v v A2 c2 _ HV2.out F_2.out).mono ?_
        rintro e V4 ⟨rfl, hb⟩
        have hB := hb
        replace F_a := Lib.hid (F_a.out.next hB)
        replace F_b := Lib.hid (F_b.out.next hB)
        replace F_1 := Lib.hid (F_1.out.next hB)
        replace F_2 := Lib.hid (F_2.out.next hB)
        replace HB := Lib.hid (bt hB HB.out)
        clear hb hB
        go_wp2_with fail
        refine (isNumber_lit true n _ HND.out).mono ?_
        rintro e w' ⟨rfl, rfl⟩
        go_wp2_with fail
        refine (isEpoch_lit true ep _ HED.out).mono ?_
        rintro e w' ⟨rfl, rfl⟩
        go_wp2_with fail
        refine (find_c_yes l n A1 c1 _ HV1.out F_1.out i hi HN.out).mono ?_
        rintro e V5 ⟨rfl, hb⟩
        have hB := hb
        replace F_a := Lib.hid (F_a.out.next hB)
        replace F_b := Lib.hid (F_b.out.next hB)
        replace F_1 := Lib.hid (F_1.out.next hB)
        replace F_2 := Lib.hid (F_2.out.next hB)
        replace HB := Lib.hid (bt hB HB.out)
        clear hb hB
        rw [← HX.out]
        go_wp2_with fail
        refine (cIn_lit true x ep _ HIN.out).mono ?_
        rintro e V6 ⟨rfl, hb⟩
        have hB := bt hb (al1 V5 _)
        have K_c : Hid (Bk V6 (V5.heap.size) 58 #[.int .i64 x.n, .int .i64 x.k, .int .i64 x.f, .int .i64 x.l]) := Bk.next (by first | exact Bk.new _ _ _ | exact (Bk.new _ _ _).alloc _ | exact ((Bk.new _ _ _).alloc _).alloc _ | exact bkOf (by simp [at?_alloc])) hb
        replace F_a := Lib.hid (F_a.out.next hB)
        replace F_b := Lib.hid (F_b.out.next hB)
        replace F_1 := Lib.hid (F_1.out.next hB)
        replace F_2 := Lib.hid (F_2.out.next hB)
        replace HB := Lib.hid (bt hB HB.out)
        clear hb hB
        obtain ⟨c_c0, c_c1, c_c2, c_c3⟩ := box4 K_c.out
        have l_c := K_c.out.lt
        go_wp2_with fail
        clear c_c0 c_c1 c_c2 c_c3 l_c
        refine (revoked_lit false v n ep A2 c2 _ HRV.out HV2.out F_2.out).mono ?_
        rintro e V7 ⟨rfl, hb⟩
        have hB := hb
        replace F_a := Lib.hid (F_a.out.next hB)
        replace F_b := Lib.hid (F_b.out.next hB)
        replace F_1 := Lib.hid (F_1.out.next hB)
        replace F_2 := Lib.hid (F_2.out.next hB)
        replace K_c := Lib.hid (K_c.out.next hB)
        replace HB := Lib.hid (bt hB HB.out)
        clear hb hB
        obtain ⟨c_c0, c_c1, c_c2, c_c3⟩ := box4 K_c.out
        have l_c := K_c.out.lt
        go_wp2
        go_ret2
        exact ⟨rfl, HB.out⟩
    · rw [if_neg hin] at hE hK
      subst hE
      subst hK
      have HIN : Hid (inB x ep = false) := Lib.hid (by simpa using hin)
      clear hin
      have HV1 := Lib.hid hl
      have HV2 := Lib.hid hv
      have HB := Lib.hid (Below.refl w.heap.size w)
      have F_a := Lib.hid hA
      have F_b := Lib.hid hB
      have h641 := hl.len
      have h642 := hv.len
      have hnd : decide (1 ≤ n ∧ n ≤ 1000000) = true := decide_eq_true hn
      have hed : decide (0 ≤ ep ∧ ep ≤ 1000000) = true := decide_eq_true he
      have HND := Lib.hid hnd
      have HED := Lib.hid hed
      clear hl hv hA hB hnd hed hn he
      go_enter Try.func12, Try.ntmps12
      go_wp2_with fail
      refine (cardsOf_any l A c _ (by omega) F_a.out).mono ?_
      rintro e V1 ⟨A1, c1, rfl, hc1, r1, hb⟩
      have hB := hb
      replace F_a := Lib.hid (F_a.out.next hB)
      replace F_b := Lib.hid (F_b.out.next hB)
      replace HB := Lib.hid (bt hB HB.out)
      clear hb hB
      have F_1 := Lib.hid (r1)
      clear r1
      go_wp2_with fail
      refine (voidsOf_any v B cb _ (by omega) F_b.out).mono ?_
      rintro e V2 ⟨A2, c2, rfl, hc2, r2, hb⟩
      have hB := hb
      replace F_a := Lib.hid (F_a.out.next hB)
      replace F_b := Lib.hid (F_b.out.next hB)
      replace F_1 := Lib.hid (F_1.out.next hB)
      replace HB := Lib.hid (bt hB HB.out)
      clear hb hB
      have F_2 := Lib.hid (r2)
      clear r2
      go_wp2_with fail
      refine (validList_c l A1 c1 _ HV1.out F_1.out).mono ?_
      rintro e V3 ⟨rfl, hb⟩
      have hB := hb
      replace F_a := Lib.hid (F_a.out.next hB)
      replace F_b := Lib.hid (F_b.out.next hB)
      replace F_1 := Lib.hid (F_1.out.next hB)
      replace F_2 := Lib.hid (F_2.out.next hB)
      replace HB := Lib.hid (bt hB HB.out)
      clear hb hB
      go_wp2_with fail
      refine (validList_v v A2 c2 _ HV2.out F_2.out).mono ?_
      rintro e V4 ⟨rfl, hb⟩
      have hB := hb
      replace F_a := Lib.hid (F_a.out.next hB)
      replace F_b := Lib.hid (F_b.out.next hB)
      replace F_1 := Lib.hid (F_1.out.next hB)
      replace F_2 := Lib.hid (F_2.out.next hB)
      replace HB := Lib.hid (bt hB HB.out)
      clear hb hB
      go_wp2_with fail
      refine (isNumber_lit true n _ HND.out).mono ?_
      rintro e w' ⟨rfl, rfl⟩
      go_wp2_with fail
      refine (isEpoch_lit true ep _ HED.out).mono ?_
      rintro e w' ⟨rfl, rfl⟩
      go_wp2_with fail
      refine (find_c_yes l n A1 c1 _ HV1.out F_1.out i hi HN.out).mono ?_
      rintro e V5 ⟨rfl, hb⟩
      have hB := hb
      replace F_a := Lib.hid (F_a.out.next hB)
      replace F_b := Lib.hid (F_b.out.next hB)
      replace F_1 := Lib.hid (F_1.out.next hB)
      replace F_2 := Lib.hid (F_2.out.next hB)
      replace HB := Lib.hid (bt hB HB.out)
      clear hb hB
      rw [← HX.out]
      go_wp2_with fail
      refine (cIn_lit false x ep _ HIN.out).mono ?_
      rintro e V6 ⟨rfl, hb⟩
      have hB := bt hb (al1 V5 _)
      have K_c : Hid (Bk V6 (V5.heap.size) 58 #[.int .i64 x.n, .int .i64 x.k, .int .i64 x.f, .int .i64 x.l]) := Bk.next (by first | exact Bk.new _ _ _ | exact (Bk.new _ _ _).alloc _ | exact ((Bk.new _ _ _).alloc _).alloc _ | exact bkOf (by simp [at?_alloc])) hb
      replace F_a := Lib.hid (F_a.out.next hB)
      replace F_b := Lib.hid (F_b.out.next hB)
      replace F_1 := Lib.hid (F_1.out.next hB)
      replace F_2 := Lib.hid (F_2.out.next hB)
      replace HB := Lib.hid (bt hB HB.out)
      clear hb hB
      go_wp2
      go_ret2
      exact ⟨rfl, HB.out⟩
  · rw [fdC_none hno] at hE hK
    simp only at hE hK
    subst hE
    subst hK
    have HNO := Lib.hid hno
    clear hno
    have HV1 := Lib.hid hl
    have HV2 := Lib.hid hv
    have HB := Lib.hid (Below.refl w.heap.size w)
    have F_a := Lib.hid hA
    have F_b := Lib.hid hB
    have h641 := hl.len
    have h642 := hv.len
    have hnd : decide (1 ≤ n ∧ n ≤ 1000000) = true := decide_eq_true hn
    have hed : decide (0 ≤ ep ∧ ep ≤ 1000000) = true := decide_eq_true he
    have HND := Lib.hid hnd
    have HED := Lib.hid hed
    clear hl hv hA hB hnd hed hn he
    go_enter Try.func12, Try.ntmps12
    go_wp2_with fail
    refine (cardsOf_any l A c _ (by omega) F_a.out).mono ?_
    rintro e V1 ⟨A1, c1, rfl, hc1, r1, hb⟩
    have hB := hb
    replace F_a := Lib.hid (F_a.out.next hB)
    replace F_b := Lib.hid (F_b.out.next hB)
    replace HB := Lib.hid (bt hB HB.out)
    clear hb hB
    have F_1 := Lib.hid (r1)
    clear r1
    go_wp2_with fail
    refine (voidsOf_any v B cb _ (by omega) F_b.out).mono ?_
    rintro e V2 ⟨A2, c2, rfl, hc2, r2, hb⟩
    have hB := hb
    replace F_a := Lib.hid (F_a.out.next hB)
    replace F_b := Lib.hid (F_b.out.next hB)
    replace F_1 := Lib.hid (F_1.out.next hB)
    replace HB := Lib.hid (bt hB HB.out)
    clear hb hB
    have F_2 := Lib.hid (r2)
    clear r2
    go_wp2_with fail
    refine (validList_c l A1 c1 _ HV1.out F_1.out).mono ?_
    rintro e V3 ⟨rfl, hb⟩
    have hB := hb
    replace F_a := Lib.hid (F_a.out.next hB)
    replace F_b := Lib.hid (F_b.out.next hB)
    replace F_1 := Lib.hid (F_1.out.next hB)
    replace F_2 := Lib.hid (F_2.out.next hB)
    replace HB := Lib.hid (bt hB HB.out)
    clear hb hB
    go_wp2_with fail
    refine (validList_v v A2 c2 _ HV2.out F_2.out).mono ?_
    rintro e V4 ⟨rfl, hb⟩
    have hB := hb
    replace F_a := Lib.hid (F_a.out.next hB)
    replace F_b := Lib.hid (F_b.out.next hB)
    replace F_1 := Lib.hid (F_1.out.next hB)
    replace F_2 := Lib.hid (F_2.out.next hB)
    replace HB := Lib.hid (bt hB HB.out)
    clear hb hB
    go_wp2_with fail
    refine (isNumber_lit true n _ HND.out).mono ?_
    rintro e w' ⟨rfl, rfl⟩
    go_wp2_with fail
    refine (isEpoch_lit true ep _ HED.out).mono ?_
    rintro e w' ⟨rfl, rfl⟩
    go_wp2_with fail
    refine (find_c_no l n A1 c1 _ HV1.out F_1.out HNO.out).mono ?_
    rintro e V5 ⟨rfl, hb⟩
    have hB := hb
    replace F_a := Lib.hid (F_a.out.next hB)
    replace F_b := Lib.hid (F_b.out.next hB)
    replace F_1 := Lib.hid (F_1.out.next hB)
    replace F_2 := Lib.hid (F_2.out.next hB)
    replace HB := Lib.hid (bt hB HB.out)
    clear hb hB
    go_wp2
    go_ret2
    exact ⟨rfl, bt (al1 _ _) HB.out⟩
theorem late_len (l : List Cd) (u v : List Vd) (ep : Int) (k : Nat) : (lateL (l.take k) u v ep).length ≤ k := by
  unfold lateL
  rw [List.length_map]
  exact Nat.le_trans (List.length_filter_le _ _) (by rw [List.length_take]; omega)
theorem late_yes {l : List Cd} {u v : List Vd} {ep : Int} {k : Nat} {x : Cd} (hk : k < l.length) (hx : x = l[k]) (h : latB u v ep x = true) : lateL (l.take (k + 1)) u v ep = lateL (l.take k) u v ep ++ [x.n] := by
  unfold lateL
  rw [List.take_succ_eq_append_getElem hk, ← hx, List.filter_append, List.map_append, List.filter_cons_of_pos h]; rfl
theorem late_no {l : List Cd} {u v : List Vd} {ep : Int} {k : Nat} {x : Cd} (hk : k < l.length) (hx : x = l[k]) (h : latB u v ep x = false) : lateL (l.take (k + 1)) u v ep = lateL (l.take k) u v ep := by
  unfold lateL
  rw [List.take_succ_eq_append_getElem hk, ← hx, List.filter_append, List.filter_cons_of_neg (by simp [h])]; simp
set_option maxHeartbeats 2000000 in
theorem Late_any (l : List Cd) (u v : List Vd) (ep : Int) (A U B : Option Addr) (c cu cb : Nat) (w : World) (hl : COk l) (hu : VOk u) (hv : VOk v) (he : 0 ≤ ep ∧ ep ≤ 1000000) (hA : RdC w w.heap.size A l) (hU : RdV w w.heap.size U u) (hB : RdV w w.heap.size B v) :
    Calls Try.prog 13 #[.slice A l.length c, .slice U u.length cu, .slice B v.length cb, .int .i64 ep] w fun e w' => ∃ A' c', e = .returned (.tuple #[.slice A' (lateL l u v ep).length c', .int .i64 0]) ∧ Below w.heap.size w w' := by
  obtain ⟨i0, hi, hz0, hz1, hz2⟩ := info_parts info_int
  have HV1 := Lib.hid hl
  have HV2 := Lib.hid hu
  have HV3 := Lib.hid hv
  have HB := Lib.hid (Below.refl w.heap.size w)
  have F_a := Lib.hid hA
  have F_b := Lib.hid hU
  have F_d := Lib.hid hB
  have h641 := hl.len
  have h642 := hu.len
  have h643 := hv.len
  have hed : decide (0 ≤ ep ∧ ep ≤ 1000000) = true := decide_eq_true he
  have HED := Lib.hid hed
  clear hl hu hv hA hU hB hed he
  go_enter Try.func13, Try.ntmps13
  go_wp2_with fail
  refine (cardsOf_any l A c _ (by omega) F_a.out).mono ?_
  rintro e V1 ⟨A1, c1, rfl, hc1, r1, hb⟩
  have hB := hb
  replace F_a := Lib.hid (F_a.out.next hB)
  replace F_b := Lib.hid (F_b.out.next hB)
  replace F_d := Lib.hid (F_d.out.next hB)
  replace HB := Lib.hid (bt hB HB.out)
  clear hb hB
  have F_1 := Lib.hid (r1)
  clear r1
  go_wp2_with fail
  refine (voidsOf_any u U cu _ (by omega) F_b.out).mono ?_
  rintro e V2 ⟨A2, c2, rfl, hc2, r2, hb⟩
  have hB := hb
  replace F_a := Lib.hid (F_a.out.next hB)
  replace F_b := Lib.hid (F_b.out.next hB)
  replace F_d := Lib.hid (F_d.out.next hB)
  replace F_1 := Lib.hid (F_1.out.next hB)
  replace HB := Lib.hid (bt hB HB.out)
  clear hb hB
  have F_2 := Lib.hid (r2)
  clear r2
  go_wp2_with fail
  refine (voidsOf_any v B cb _ (by omega) F_d.out).mono ?_
  rintro e V3 ⟨A3, c3, rfl, hc3, r3, hb⟩
  have hB := hb
  replace F_a := Lib.hid (F_a.out.next hB)
  replace F_b := Lib.hid (F_b.out.next hB)
  replace F_d := Lib.hid (F_d.out.next hB)
  replace F_1 := Lib.hid (F_1.out.next hB)
  replace F_2 := Lib.hid (F_2.out.next hB)
  replace HB := Lib.hid (bt hB HB.out)
  clear hb hB
  have F_3 := Lib.hid (r3)
  clear r3
  go_wp2_with fail
  refine (validList_c l A1 c1 _ HV1.out F_1.out).mono ?_
  rintro e V4 ⟨rfl, hb⟩
  have hB := hb
  replace F_a := Lib.hid (F_a.out.next hB)
  replace F_b := Lib.hid (F_b.out.next hB)
  replace F_d := Lib.hid (F_d.out.next hB)
  replace F_1 := Lib.hid (F_1.out.next hB)
  replace F_2 := Lib.hid (F_2.out.next hB)
  replace F_3 := Lib.hid (F_3.out.next hB)
  replace HB := Lib.hid (bt hB HB.out)
  clear hb hB
  go_wp2_with fail
  refine (validList_v u A2 c2 _ HV2.out F_2.out).mono ?_
  rintro e V5 ⟨rfl, hb⟩
  have hB := hb
  replace F_a := Lib.hid (F_a.out.next hB)
  replace F_b := Lib.hid (F_b.out.next hB)
  replace F_d := Lib.hid (F_d.out.next hB)
  replace F_1 := Lib.hid (F_1.out.next hB)
  replace F_2 := Lib.hid (F_2.out.next hB)
  replace F_3 := Lib.hid (F_3.out.next hB)
  replace HB := Lib.hid (bt hB HB.out)
  clear hb hB
  go_wp2_with fail
  refine (validList_v v A3 c3 _ HV3.out F_3.out).mono ?_
  rintro e V6 ⟨rfl, hb⟩
  have hB := hb
  replace F_a := Lib.hid (F_a.out.next hB)
  replace F_b := Lib.hid (F_b.out.next hB)
  replace F_d := Lib.hid (F_d.out.next hB)
  replace F_1 := Lib.hid (F_1.out.next hB)
  replace F_2 := Lib.hid (F_2.out.next hB)
  replace F_3 := Lib.hid (F_3.out.next hB)
  replace HB := Lib.hid (bt hB HB.out)
  clear hb hB
  go_wp2_with fail
  refine (isEpoch_lit true ep _ HED.out).mono ?_
  rintro e w' ⟨rfl, rfl⟩
  have hb0 := HB.out.size
  go_wp2
  go_loopw [13, 42] (fun o i wr => ∃ k : Nat, i = .int .i64 (k : Int) ∧ k ≤ l.length ∧ wr.ownsRow V6.heap.size 3 1 o (lateL (l.take k) u v ep).length ((lateL (l.take k) u v ep).map (Value.int .i64)) ∧ Below V6.heap.size V6 wr ∧ Below w.heap.size w wr) (fun _ i _ => l.length - (intOf i).toNat)
  case atStart => exact ⟨0, rfl, Nat.zero_le _, World.ownsRow_nil _ _ _ _, Below.refl _ _, HB.out⟩
  case round =>
    obtain ⟨k, rfl, hk, ho, hbl, hbw⟩ := hrel
    have HO := Lib.hid ho
    have HBL := Lib.hid hbl
    have HBW := Lib.hid hbw
    have hsz := hbw.size
    have hol : (lateL (l.take k) u v ep).length ≤ k := late_len l u v ep k
    clear ho hbl hbw
    by_cases hlt : k < l.length
    · obtain ⟨b, o, rfl, hbb, x0, x1, x2, x3⟩ := rdC_at (RdX.next F_1.out HBL.out) hlt
      obtain ⟨x, hx⟩ : ∃ x, x = l[k] := ⟨_, rfl⟩
      rw [← hx] at x0 x1 x2 x3
      have HX := Lib.hid hx
      have k1 : (0 : Int) ≤ (k : Int) := by omega
      have k2 : (k : Int) < (l.length : Int) := by omega
      obtain ⟨ys, hys⟩ : ∃ ys, ys = lateL (l.take k) u v ep := ⟨_, rfl⟩
      rw [← hys] at HO hol
      have HYS := Lib.hid hys
      clear hx hys
      by_cases hin : inB x ep = true
      · have HIN := Lib.hid hin
        clear hin
        by_cases hr1 : rvB u x.n ep = true
        · have HRV1 := Lib.hid hr1
          clear hr1
          go_wp2_with fail
          obtain ⟨Y, hY⟩ : ∃ Zz, Zz = wr.alloc (.cells #[.int .i64 x.n, .int .i64 x.k, .int .i64 x.f, .int .i64 x.l] 58) := ⟨_, rfl⟩
          have hbY : Below wr.heap.size wr Y := by rw [hY]; exact al1 _ _
          have kx : Bk Y wr.heap.size 58 #[.int .i64 x.n, .int .i64 x.k, .int .i64 x.f, .int .i64 x.l] := by rw [hY]; exact Bk.new _ _ _
          rw [← hY]
          clear hY
          have K := Lib.hid kx
          replace HBL := Lib.hid (bt hbY HBL.out)
          have HBR := Lib.hid hbY
          obtain ⟨gx, hgx⟩ : ∃ g, g = wr.heap.size := ⟨_, rfl⟩
          rw [← hgx] at K ⊢
          clear kx hbY x0 x1 x2 x3 hgx
          refine (cIn_lit true x ep _ HIN.out).mono ?_
          rintro e W0 ⟨rfl, hb⟩
          replace K := Lib.hid (K.out.next hb)
          replace HBL := Lib.hid (bt hb HBL.out)
          replace HBR := Lib.hid (bt hb HBR.out)
          clear hb
          obtain ⟨c0, c1', c2', c3'⟩ := box4 K.out
          have lk := K.out.lt
          go_wp2_with fail
          clear c0 c1' c2' c3' lk
          refine (revoked_lit true u x.n ep A2 c2 _ HRV1.out HV2.out (RdX.next F_2.out HBL.out)).mono ?_
          rintro e W1 ⟨rfl, hb⟩
          replace K := Lib.hid (K.out.next hb)
          replace HBL := Lib.hid (bt hb HBL.out)
          replace HBR := Lib.hid (bt hb HBR.out)
          clear hb
          have HNO : Hid (latB u v ep x = false) := Lib.hid (by simp [latB, HRV1.out])
          obtain ⟨c0, c1', c2', c3'⟩ := box4 K.out
          go_wp2
          go_roundw
          case rel => exact ⟨k + 1, by go_num, by omega, by rw [late_no hlt HX.out HNO.out, ← HYS.out]; exact own_on HO.out HBR.out, HBL.out, bt HBR.out HBW.out⟩
          case measure => simp [intOf]; omega
        · have HRV1 : Hid (rvB u x.n ep = false) := Lib.hid (by simpa using hr1)
          clear hr1
          by_cases hr2 : rvB v x.n ep = true
          · have HRV2 := Lib.hid hr2
            clear hr2
            go_wp2_with fail
            obtain ⟨Y, hY⟩ : ∃ Zz, Zz = wr.alloc (.cells #[.int .i64 x.n, .int .i64 x.k, .int .i64 x.f, .int .i64 x.l] 58) := ⟨_, rfl⟩
            have hbY : Below wr.heap.size wr Y := by rw [hY]; exact al1 _ _
            have kx : Bk Y wr.heap.size 58 #[.int .i64 x.n, .int .i64 x.k, .int .i64 x.f, .int .i64 x.l] := by rw [hY]; exact Bk.new _ _ _
            rw [← hY]
            clear hY
            have K := Lib.hid kx
            replace HBL := Lib.hid (bt hbY HBL.out)
            have HBR := Lib.hid hbY
            obtain ⟨gx, hgx⟩ : ∃ g, g = wr.heap.size := ⟨_, rfl⟩
            rw [← hgx] at K ⊢
            clear kx hbY x0 x1 x2 x3 hgx
            refine (cIn_lit true x ep _ HIN.out).mono ?_
            rintro e W0 ⟨rfl, hb⟩
            replace K := Lib.hid (K.out.next hb)
            replace HBL := Lib.hid (bt hb HBL.out)
            replace HBR := Lib.hid (bt hb HBR.out)
            clear hb
            obtain ⟨c0, c1', c2', c3'⟩ := box4 K.out
            have lk := K.out.lt
            go_wp2_with fail
            clear c0 c1' c2' c3' lk
            refine (revoked_lit false u x.n ep A2 c2 _ HRV1.out HV2.out (RdX.next F_2.out HBL.out)).mono ?_
            rintro e W1 ⟨rfl, hb⟩
            replace K := Lib.hid (K.out.next hb)
            replace HBL := Lib.hid (bt hb HBL.out)
            replace HBR := Lib.hid (bt hb HBR.out)
            clear hb
            obtain ⟨c0, c1', c2', c3'⟩ := box4 K.out
            have lk := K.out.lt
            go_wp2_with fail
            clear c0 c1' c2' c3' lk
            refine (revoked_lit true v x.n ep A3 c3 _ HRV2.out HV3.out (RdX.next F_3.out HBL.out)).mono ?_
            rintro e W2 ⟨rfl, hb⟩
            replace K := Lib.hid (K.out.next hb)
            replace HBL := Lib.hid (bt hb HBL.out)
            replace HBR := Lib.hid (bt hb HBR.out)
            clear hb
            have HYES : Hid (latB u v ep x = true) := Lib.hid (by simp [latB, HIN.out, HRV1.out, HRV2.out])
            obtain ⟨c0, c1', c2', c3'⟩ := box4 K.out
            have HOW := Lib.hid (own_on HO.out HBR.out)
            have HB2 := Lib.hid (bt HBR.out HBW.out)
            have hs2 := HB2.out.size
            go_wp2_with (at_builtin; refine wpList_append_own _ rfl _ _ 37 rfl V6.heap.size 3 i0 (.int .i64 0) 1 8 Try.underlying37 hi hz0 hz1 hz2 rfl (by decide) _ ys.length (ys.map (Value.int .i64)) rfl (HOW.out.alloc _) ⟨W2.heap.size, 0, none⟩ 1 1 [.int .i64 x.n] rfl rfl (news1 _ _ _) (by simp [Value.oneCell']) (by simp only [maxLen]; omega) (by omega) (by have := HBL.out.size; simp; omega) ?_; intro v' w1 hown' hgrow _)
            have HR : Hid (w1.ownsRow V6.heap.size 3 1 v' (lateL (l.take (k + 1)) u v ep).length ((lateL (l.take (k + 1)) u v ep).map (Value.int .i64))) := by
              show w1.ownsRow _ _ _ _ _ _
              rw [late_yes hlt HX.out HYES.out, ← HYS.out, List.length_append, List.map_append]; exact hown'
            have HG : Hid (Below w.heap.size w w1) := own_grow (HB2.out.alloc hs2 _) (HOW.out.alloc _) hgrow (by simp; omega) hb0
            have HGL : Hid (Below V6.heap.size V6 w1) := Lib.hid (own_grow (HBL.out.alloc HBL.out.size _) (HOW.out.alloc _) hgrow (by have := HBL.out.size; simp; omega) (Nat.le_refl _))
            clear hown' hgrow c0 c1' c2' c3'
            go_wp2
            go_roundw
            case rel => exact ⟨k + 1, by go_num, by omega, HR.out, HGL.out, HG.out⟩
            case measure => simp [intOf]; omega
          · have HRV2 : Hid (rvB v x.n ep = false) := Lib.hid (by simpa using hr2)
            clear hr2
            go_wp2_with fail
            obtain ⟨Y, hY⟩ : ∃ Zz, Zz = wr.alloc (.cells #[.int .i64 x.n, .int .i64 x.k, .int .i64 x.f, .int .i64 x.l] 58) := ⟨_, rfl⟩
            have hbY : Below wr.heap.size wr Y := by rw [hY]; exact al1 _ _
            have kx : Bk Y wr.heap.size 58 #[.int .i64 x.n, .int .i64 x.k, .int .i64 x.f, .int .i64 x.l] := by rw [hY]; exact Bk.new _ _ _
            rw [← hY]
            clear hY
            have K := Lib.hid kx
            replace HBL := Lib.hid (bt hbY HBL.out)
            have HBR := Lib.hid hbY
            obtain ⟨gx, hgx⟩ : ∃ g, g = wr.heap.size := ⟨_, rfl⟩
            rw [← hgx] at K ⊢
            clear kx hbY x0 x1 x2 x3 hgx
            refine (cIn_lit true x ep _ HIN.out).mono ?_
            rintro e W0 ⟨rfl, hb⟩
            replace K := Lib.hid (K.out.next hb)
            replace HBL := Lib.hid (bt hb HBL.out)
            replace HBR := Lib.hid (bt hb HBR.out)
            clear hb
            obtain ⟨c0, c1', c2', c3'⟩ := box4 K.out
            have lk := K.out.lt
            go_wp2_with fail
            clear c0 c1' c2' c3' lk
            refine (revoked_lit false u x.n ep A2 c2 _ HRV1.out HV2.out (RdX.next F_2.out HBL.out)).mono ?_
            rintro e W1 ⟨rfl, hb⟩
            replace K := Lib.hid (K.out.next hb)
            replace HBL := Lib.hid (bt hb HBL.out)
            replace HBR := Lib.hid (bt hb HBR.out)
            clear hb
            obtain ⟨c0, c1', c2', c3'⟩ := box4 K.out
            have lk := K.out.lt
            go_wp2_with fail
            clear c0 c1' c2' c3' lk
            refine (revoked_lit false v x.n ep A3 c3 _ HRV2.out HV3.out (RdX.next F_3.out HBL.out)).mono ?_
            rintro e W2 ⟨rfl, hb⟩
            replace K := Lib.hid (K.out.next hb)
            replace HBL := Lib.hid (bt hb HBL.out)
            replace HBR := Lib.hid (bt hb HBR.out)
            clear hb
            have HNO : Hid (latB u v ep x = false) := Lib.hid (by simp [latB, HRV2.out])
            obtain ⟨c0, c1', c2', c3'⟩ := box4 K.out
            go_wp2
            go_roundw
            case rel => exact ⟨k + 1, by go_num, by omega, by rw [late_no hlt HX.out HNO.out, ← HYS.out]; exact own_on HO.out HBR.out, HBL.out, bt HBR.out HBW.out⟩
            case measure => simp [intOf]; omega
      · have HIN : Hid (inB x ep = false) := Lib.hid (by simpa using hin)
        clear hin
        go_wp2_with fail
        obtain ⟨Y, hY⟩ : ∃ Zz, Zz = wr.alloc (.cells #[.int .i64 x.n, .int .i64 x.k, .int .i64 x.f, .int .i64 x.l] 58) := ⟨_, rfl⟩
        have hbY : Below wr.heap.size wr Y := by rw [hY]; exact al1 _ _
        have kx : Bk Y wr.heap.size 58 #[.int .i64 x.n, .int .i64 x.k, .int .i64 x.f, .int .i64 x.l] := by rw [hY]; exact Bk.new _ _ _
        rw [← hY]
        clear hY
        have K := Lib.hid kx
        replace HBL := Lib.hid (bt hbY HBL.out)
        have HBR := Lib.hid hbY
        obtain ⟨gx, hgx⟩ : ∃ g, g = wr.heap.size := ⟨_, rfl⟩
        rw [← hgx] at K ⊢
        clear kx hbY x0 x1 x2 x3 hgx
        refine (cIn_lit false x ep _ HIN.out).mono ?_
        rintro e W0 ⟨rfl, hb⟩
        replace K := Lib.hid (K.out.next hb)
        replace HBL := Lib.hid (bt hb HBL.out)
        replace HBR := Lib.hid (bt hb HBR.out)
        clear hb
        have HNO : Hid (latB u v ep x = false) := Lib.hid (by simp [latB, HIN.out])
        obtain ⟨c0, c1', c2', c3'⟩ := box4 K.out
        go_wp2
        go_roundw
        case rel => exact ⟨k + 1, by go_num, by omega, by rw [late_no hlt HX.out HNO.out, ← HYS.out]; exact own_on HO.out HBR.out, HBL.out, bt HBR.out HBW.out⟩
        case measure => simp [intOf]; omega
    · obtain rfl : k = l.length := by omega
      have ho := HO.out
      rw [List.take_of_length_le (Nat.le_refl _)] at ho
      obtain ⟨A9, c9, rfl, hc9, hr9⟩ := own_read ho
      clear ho hr9 HO
      go_wp2
      go_ret2
      exact ⟨A9, c9, rfl, HBW.out⟩
end Go.Proofs.Ythihhmlgpokomaa
