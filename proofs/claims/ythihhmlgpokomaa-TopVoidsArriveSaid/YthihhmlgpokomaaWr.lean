/- w17Arrive: what is known behind the messages. -/
import Derived.Test.YthihhmlgpokomaaWf
import Derived.Test.YthihhmlgpokomaaWq
set_option maxRecDepth 100000
set_option linter.unusedVariables false
set_option linter.unusedSimpArgs false
namespace Go.Proofs.Ythihhmlgpokomaa
open Go.RowKit

/-- what Receive does -/
def RcvOk : Prop :=
  (∀ (n k : Nat) (v : Value) (s : Ib) (w : World), BxR w v s → Iv n s → n ≤ 64 → k < n → Gt s k →
    Calls Try.prog 14 #[v, .agg #[.int .i64 7, .int .i64 ((k : Int) + 1), .int .i64 (k : Int)]] w fun e w' => e = .returned (.tuple #[.slice none 0 0, .slice none 0 0, .int .i64 12]) ∧ Below w.heap.size w w') ∧
  (∀ (n k : Nat) (v : Value) (s : Ib) (w : World), BxR w v s → Iv n s → n ≤ 64 → k < n → ¬ Gt s k →
    Calls Try.prog 14 #[v, .agg #[.int .i64 7, .int .i64 ((k : Int) + 1), .int .i64 (k : Int)]] w (RcvPost s k w))
theorem rcv_same {s : Ib} {k : Nat} (h : Gt s k) : rcv s k = s := if_pos h
def kthU (n : Nat) (x : UInt8) : Nat := x.toNat % n
def ksU (n : Nat) (ord : List UInt8) : List Nat := ord.map (kthU n)
theorem ksU_len (n : Nat) (ord : List UInt8) : (ksU n ord).length = ord.length := by simp [ksU]
theorem ksU_lt {n : Nat} (h0 : 0 < n) (ord : List UInt8) : ∀ i (h : i < (ksU n ord).length), (ksU n ord)[i] < n := fun i h => by
  simp only [ksU, List.getElem_map]; exact Nat.mod_lt _ h0
theorem ksU_get {n : Nat} {ord : List UInt8} {i : Nat} (h : i < ord.length) : (ksU n ord)[i]'(by rw [ksU_len]; exact h) = kthU n ord[i] := by simp [ksU]
theorem over_len {s : Ib} {k : Nat} (hng : ¬ Gt s k) : (rcv s k).1 = s.1 + (ovL s k).length ∧ ∀ i (h : i < (ovL s k).length), (ovL s k)[i] = s.1 + i := by
  unfold rcv
  rw [if_neg hng]
  by_cases h : s.1 < k
  · rw [if_pos h]
    have e : ovL s k = [] := by unfold ovL; rw [if_pos h]
    rw [e]
    exact ⟨rfl, fun i hi => absurd hi (by simp)⟩
  · rw [if_neg h]
    obtain ⟨h1, h2⟩ := ovL_get h
    exact ⟨by rw [h1]; show s.1 + 1 + ovT s = _; omega, h2⟩
theorem Join_lit (u : List Vd) (q : Nat) (hq : u.length = q) (v : Vd) (A B : Option Addr) (c cb : Nat) (w : World) (h : VOk (u ++ [v])) (hA : RdV w w.heap.size A u) (hB : RdV w w.heap.size B [v]) :
    Calls Try.prog 15 #[.slice A q c, .slice B 1 cb] w fun e w' => ∃ A' c', e = .returned (.tuple #[.slice A' (q + 1) c', .int .i64 0]) ∧ q + 1 ≤ c' ∧ RdV w' w'.heap.size A' (u ++ [v]) ∧ Below w.heap.size w w' := by
  subst hq; exact Join_tail u v A B c cb w h hA hB
theorem take_next {l : List Vd} {q : Nat} (h : q < l.length) : l.take (q + 1) = l.take q ++ [l[q]] := List.take_succ_eq_append_getElem h
theorem rem_kth (x : UInt8) (n : Nat) : (x.toNat : Int).tmod (n : Int) = (kthU n x : Int) := rfl
set_option maxHeartbeats 1500000 in
theorem Arrive_any (hR : RcvOk) (l : List Vd) (ord : List UInt8) (A O : Option Addr) (c co : Nat) (w : World) (hl : VOk l) (h0 : 0 < l.length) (ho : ord.length ≤ 1000) (hA : RdV w w.heap.size A l) (hO : RdB w w.heap.size O ord) :
    Calls Try.prog 10 #[.slice A l.length c, .slice O ord.length co] w fun e w' => ∃ A' c', e = .returned (.tuple #[.slice A' (arrS (ksU l.length ord)).1 c', .int .i64 ((arrS (ksU l.length ord)).1 : Int), .bool true]) ∧ (arrS (ksU l.length ord)).1 ≤ c' ∧ RdV w' w'.heap.size A' (l.take (arrS (ksU l.length ord)).1) ∧ Below w.heap.size w w' := by
  have HL := Lib.hid hl
  have HA := Lib.hid hA
  have HO := Lib.hid hO
  have HRC := Lib.hid hR
  have h64 := hl.len
  clear hl hA hO hR
  go_enter Try.func10, Try.ntmps10
  go_wp2
  go_loopw [7, 8, 9, 22] (fun bx kn mn i wr => ∃ (k : Nat) (s : Ib) (A2 : Option Addr) (c2 : Nat), i = .int .i64 (k : Int) ∧ k ≤ ord.length ∧ s = arrS ((ksU l.length ord).take k) ∧ BxR wr bx s ∧ kn = .slice A2 s.1 c2 ∧ s.1 ≤ c2 ∧ RdV wr wr.heap.size A2 (l.take s.1) ∧ mn = .int .i64 (s.1 : Int) ∧ Below w.heap.size w wr) (fun _ _ _ i _ => ord.length - (intOf i).toNat)
  case atStart => exact ⟨0, (0, []), none, 0, rfl, Nat.zero_le _, rfl, .inl ⟨rfl, rfl⟩, rfl, Nat.le_refl _, RdX.nil, rfl, Below.refl _ _⟩
  case round =>
    obtain ⟨k, s, A2, c2, rfl, hk, hs, hbx, rfl, hc2, hrd, rfl, hb⟩ := hrel
    have HB := Lib.hid hb
    have HX := Lib.hid hbx
    have HR2 := Lib.hid hrd
    have HS := Lib.hid hs
    clear hb hbx hrd hs
    by_cases hlt : k < ord.length
    · obtain ⟨b, o, rfl, hbb, x0⟩ := (HO.out.next HB.out).at_ hlt
      obtain ⟨x, hx⟩ : ∃ x, x = ord[k] := ⟨_, rfl⟩
      rw [← hx] at x0
      obtain ⟨t, ht⟩ : ∃ t, t = kthU l.length x := ⟨_, rfl⟩
      have htl : t < l.length := by rw [ht]; exact Nat.mod_lt _ h0
      have hrem : (x.toNat : Int).tmod (l.length : Int) = (t : Int) := by rw [ht]; rfl
      have HT := Lib.hid ht
      have HXE := Lib.hid hx
      have k1 : (0 : Int) ≤ (k : Int) := by omega
      have k2 : (k : Int) < (ord.length : Int) := by omega
      have k3 : (l.length : Int) ≠ 0 := by omega
      have hx8 : (x.toNat : Int) < 256 := by have := x.toNat_lt; omega
      have hx0 : (0 : Int) ≤ (x.toNat : Int) := by omega
      have t0 : (0 : Int) ≤ (t : Int) := by omega
      have t1 : (t : Int) < (l.length : Int) := by omega
      clear ht hx
      have HIV : Hid (Iv l.length s) := Lib.hid (by rw [HS.out]; exact arr_iv _ (ksU_lt h0 ord) k (by rw [ksU_len]; exact hk))
      have HNX : Hid (arrS ((ksU l.length ord).take (k + 1)) = rcv s t) := Lib.hid (by rw [arr_snoc' (by rw [ksU_len]; exact hlt), ← HS.out, ksU_get hlt, ← HXE.out, ← HT.out])
      by_cases hg : Gt s t
      · have HG := Lib.hid hg
        clear hg
        go_wp2_with fail
        refine (HRC.out.1 l.length t _ s _ HX.out HIV.out h64 htl HG.out).mono ?_
        rintro e W1 ⟨rfl, hb⟩
        have hbw := bt hb HB.out
        have HBW := Lib.hid hbw
        have HX1 := Lib.hid (HX.out.next hb)
        have HR1 := Lib.hid (RdX.next HR2.out hb)
        clear hb hbw
        go_wp2
        go_roundw
        case rel => exact ⟨k + 1, s, A2, c2, by go_num, by omega, by rw [HNX.out, rcv_same HG.out], HX1.out, rfl, hc2, HR1.out, rfl, HBW.out⟩
        case measure => simp [intOf]; omega
      · have HG := Lib.hid hg
        clear hg
        go_wp2_with fail
        refine (HRC.out.2 l.length t _ s _ HX.out HIV.out h64 htl HG.out).mono ?_
        rintro e W1 ⟨v7, Ao, cq, rfl, hbx, hco, hrm, hb⟩
        obtain ⟨m, hm⟩ : ∃ m, (ovL s t).length = m := ⟨_, rfl⟩
        rw [hm] at hco ⊢
        have HM := Lib.hid hm
        obtain ⟨o1, o2⟩ := over_len HG.out
        rw [hm] at o1
        have HOV := Lib.hid o2
        have HRS := Lib.hid o1
        have hqn := (HIV.out.rcv htl).le
        rw [o1] at hqn
        have hbw := bt hb HB.out
        have HBW := Lib.hid hbw
        have HBX := Lib.hid hbx
        have HRM := Lib.hid hrm
        have HR1 := Lib.hid (RdX.next HR2.out hb)
        have HA1 := Lib.hid (RdX.next HA.out hbw)
        clear hb hbw hbx hrm hm o1 o2 HX HR2
        go_wp2
        go_loopw [8, 9, 48] (fun kn mn i ws => ∃ (j q : Nat) (A3 : Option Addr) (c3 : Nat), i = .int .i64 (j : Int) ∧ j ≤ m ∧ q = s.1 + j ∧ kn = .slice A3 q c3 ∧ q ≤ c3 ∧ mn = .int .i64 (q : Int) ∧ RdV ws ws.heap.size A3 (l.take q) ∧ Below W1.heap.size W1 ws) (fun _ _ i _ => m - (intOf i).toNat)
        case atStart => exact ⟨0, s.1, A2, c2, rfl, Nat.zero_le _, rfl, rfl, hc2, rfl, HR1.out, Below.refl _ _⟩
        case round =>
          obtain ⟨j, q, A3, c3, rfl, hj, hq, rfl, hc3, rfl, hrd2, hb2⟩ := hrel
          have HB2 := Lib.hid hb2
          have HR2 := Lib.hid hrd2
          clear hb2 hrd2
          by_cases hlt : j < m
          · have hql : q < l.length := by omega
            obtain ⟨b, o, rfl, hbb, x0, x1, x2⟩ := rdM_at (RdX.next HRM.out HB2.out) (i := j) (by rw [HM.out]; exact hlt)
            have hov : (ovL s t)[j]'(by rw [HM.out]; exact hlt) = q := by rw [HOV.out j (by rw [HM.out]; exact hlt), hq]
            rw [hov] at x1 x2
            have hrv := RdX.next HA1.out HB2.out
            obtain ⟨bv, ov, rfl, hbv, y0, y1⟩ := rdV_at hrv hql
            obtain ⟨v, hv⟩ : ∃ v, v = l[q] := ⟨_, rfl⟩
            rw [← hv] at y0 y1
            have HV := Lib.hid hv
            have k0 : (0 : Int) ≤ (j : Int) := by omega
            have k1 : (j : Int) < (m : Int) := by omega
            have k2 : (0 : Int) ≤ (q : Int) := by omega
            have k3 : (q : Int) < (l.length : Int) := by omega
            have HQE := Lib.hid hq
            clear hv hov hrv hq
            go_wp2_with fail
            obtain ⟨U, hU⟩ : ∃ Zz, Zz = (wr.alloc (.cells #[.int .i64 7, .int .i64 ((q : Int) + 1), .int .i64 (q : Int)] 50)).alloc (.cells #[.int .i64 v.n, .int .i64 v.e] 42) := ⟨_, rfl⟩
            have hbU : Below wr.heap.size wr U := by rw [hU]; exact al2 _ _ _
            have kv : Bk U (wr.heap.size + 1) 42 #[.int .i64 v.n, .int .i64 v.e] := by rw [hU]; exact bkOf (by simp [at?_alloc])
            rw [← hU]
            clear hU
            have hrv : RdV U U.heap.size (some ⟨wr.heap.size + 1, 0, none⟩) [v] := RdX.of_bk vdE_len (l := [v]) kv kv.lt
            have hu : l.take q ++ [v] = l.take (q + 1) := by rw [take_next hql, HV.out]
            have hlq : (l.take q).length = q := by rw [List.length_take]; omega
            refine (Join_lit (l.take q) q hlq v A3 (some ⟨wr.heap.size + 1, 0, none⟩) c3 1 U (by rw [hu]; exact HL.out.take _) (RdX.next HR2.out hbU) hrv).mono ?_
            rintro e W5 ⟨A4, c4, rfl, hc4, hr4, hb⟩
            rw [hu] at hr4
            have HR4 := Lib.hid hr4
            have HB4 := Lib.hid (bt hb (bt hbU HB2.out))
            clear hb hbU kv hrv hu hlq hr4 x0 x1 x2 y0 y1
            go_wp2
            go_roundw
            case rel => exact ⟨j + 1, q + 1, A4, c4, by go_num, by omega, by rw [HQE.out]; omega, rfl, hc4, by go_num, HR4.out, HB4.out⟩
            case measure => simp [intOf]; omega
          · obtain rfl : j = m := by omega
            have HQ := Lib.hid hq
            subst hq
            have HBE := Lib.hid (bt HB2.out HBW.out)
            have HXE := Lib.hid (HBX.out.next HB2.out)
            go_wp2
            go_roundw
            case rel => exact ⟨k + 1, rcv s t, A3, c3, by go_num, by omega, HNX.out.symm, HXE.out, by rw [HRS.out], by rw [HRS.out]; exact hc3, by rw [HRS.out]; exact HR2.out, by rw [HRS.out], HBE.out⟩
            case measure => simp [intOf]; omega
    · obtain rfl : k = ord.length := by omega
      have htk : ((ksU l.length ord).take ord.length) = (ksU l.length ord) := List.take_of_length_le (by rw [ksU_len]; exact Nat.le_refl _)
      have hs9 := HS.out
      rw [htk] at hs9
      have HFIN : Hid (∃ A' c', Ending.returned (.tuple #[.slice A2 s.1 c2, .int .i64 (s.1 : Int), .bool true]) = .returned (.tuple #[.slice A' (arrS (ksU l.length ord)).1 c', .int .i64 ((arrS (ksU l.length ord)).1 : Int), .bool true]) ∧ (arrS (ksU l.length ord)).1 ≤ c' ∧ RdV wr wr.heap.size A' (l.take (arrS (ksU l.length ord)).1) ∧ Below w.heap.size w wr) := Lib.hid (by rw [← hs9]; exact ⟨A2, c2, rfl, hc2, HR2.out, HB.out⟩)
      clear htk hs9
      go_wp2
      go_ret3
      exact HFIN.out
end Go.Proofs.Ythihhmlgpokomaa
