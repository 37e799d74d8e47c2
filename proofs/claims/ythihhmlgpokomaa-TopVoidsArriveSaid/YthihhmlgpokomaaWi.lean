/- hub: inside, validMessage, keys, waiting, validInbox, Valid, find, check. -/
import Derived.Test.YthihhmlgpokomaaWc
set_option maxRecDepth 100000
set_option linter.unusedVariables false
set_option linter.unusedSimpArgs false
namespace Go.Proofs.Ythihhmlgpokomaa
open Go.RowKit

/-- one box: what was handed over, which wait -/
structure Bx1 (w : World) (b o : Nat) (D : Option Addr) (d : Nat) (s : Ib) : Prop where
  lt : b < w.heap.size
  c0 : w.cell? ⟨b, o, none⟩ = some (.int .i64 7)
  c1 : w.cell? ⟨b, o + 1, none⟩ = some (.int .i64 ((s.1 : Int) + 1))
  c2 : w.cell? ⟨b, o + 2, none⟩ = some (.slice D s.2.length d)
  cap : s.2.length ≤ d
  rd : RdM w w.heap.size D s.2
theorem Bx1.next {w w' : World} {b o : Nat} {D : Option Addr} {d : Nat} {s : Ib} (h : Bx1 w b o D d s) (hb : Below w.heap.size w w') : Bx1 w' b o D d s :=
  ⟨Nat.lt_of_lt_of_le h.lt hb.size, (hb.cell (p := ⟨b, o, none⟩) h.lt).trans h.c0, (hb.cell (p := ⟨b, o + 1, none⟩) h.lt).trans h.c1, (hb.cell (p := ⟨b, o + 2, none⟩) h.lt).trans h.c2, h.cap, RdX.next h.rd hb⟩
theorem inside_yes (n a z : Int) (w : World) (h1 : a ≤ n) (h2 : n ≤ z) : Calls Try.prog 47 #[.int .i64 n, .int .i64 a, .int .i64 z] w fun e w' => e = .returned (.bool true) ∧ w = w' := by
  go_enter Try.func47, Try.ntmps47
  go_wp2
  go_ret
  exact ⟨rfl, rfl⟩
theorem validMessage_yes (k : Nat) (w : World) (hk : k < 64) : Calls Try.prog 26 #[.agg #[.int .i64 7, .int .i64 ((k : Int) + 1), .int .i64 (k : Int)]] w fun e w' => e = .returned (.bool true) ∧ Below w.heap.size w w' := by
  have HB := Lib.hid (al1 w (.cells #[.int .i64 7, .int .i64 ((k : Int) + 1), .int .i64 (k : Int)] 50))
  go_enter Try.func26, Try.ntmps26
  go_wp2_with fail
  refine (inside_yes (7) (0) (1000000) _ (by omega) (by omega)).mono ?_
  rintro e w' ⟨rfl, rfl⟩
  go_wp2_with fail
  refine (inside_yes ((k : Int) + 1) (1) (1000000) _ (by omega) (by omega)).mono ?_
  rintro e w' ⟨rfl, rfl⟩
  go_wp2_with fail
  refine (inside_yes ((k : Int)) (0) (1000000000) _ (by omega) (by omega)).mono ?_
  rintro e w' ⟨rfl, rfl⟩
  go_wp2
  go_ret
  exact ⟨rfl, HB.out⟩
theorem fromOf_any (s : Ib) (D : Option Addr) (d : Nat) (w : World) : Calls Try.prog 28 #[.agg #[.int .i64 7, .int .i64 ((s.1 : Int) + 1), .slice D s.2.length d]] w fun e w' => e = .returned (.int .i64 7) ∧ Below w.heap.size w w' := by
  have HB := Lib.hid (al1 w (.cells #[.int .i64 7, .int .i64 ((s.1 : Int) + 1), .slice D s.2.length d] 69))
  go_enter Try.func28, Try.ntmps28
  go_wp2
  go_ret
  exact ⟨rfl, HB.out⟩
theorem numberOf_any (k : Nat) (w : World) : Calls Try.prog 30 #[.agg #[.int .i64 7, .int .i64 ((k : Int) + 1), .int .i64 (k : Int)]] w fun e w' => e = .returned (.int .i64 ((k : Int) + 1)) ∧ Below w.heap.size w w' := by
  have HB := Lib.hid (al1 w (.cells #[.int .i64 7, .int .i64 ((k : Int) + 1), .int .i64 (k : Int)] 50))
  go_enter Try.func30, Try.ntmps30
  go_wp2
  go_ret
  exact ⟨rfl, HB.out⟩
theorem waiting_nil (w : World) : Calls Try.prog 45 #[.slice none 0 0] w fun e w' => e = .returned (.int .i64 0) ∧ Below w.heap.size w w' := by
  go_enter Try.func45, Try.ntmps45
  go_wp2
  go_loopw [3, 8] (fun n i wr => n = .int .i64 0 ∧ i = .int .i64 0 ∧ Below w.heap.size w wr) (fun _ _ _ => 0)
  case atStart => exact ⟨rfl, rfl, Below.refl _ _⟩
  case round =>
    obtain ⟨rfl, rfl, hb⟩ := hrel
    have HB := Lib.hid hb
    clear hb
    go_wp2
    go_ret
    exact ⟨rfl, HB.out⟩
theorem waiting_one (b o c : Nat) (D : Option Addr) (d : Nat) (s : Ib) (w : World) (hx : Bx1 w b o D d s) (hs : s.2.length ≤ 64) (hc : 1 ≤ c) : Calls Try.prog 45 #[.slice (some ⟨b, o, none⟩) 1 c] w fun e w' => e = .returned (.int .i64 (s.2.length : Int)) ∧ Below w.heap.size w w' := by
  have HX := Lib.hid hx
  clear hx
  go_enter Try.func45, Try.ntmps45
  go_wp2
  go_loopw [3, 8] (fun n i wr => ((i = .int .i64 0 ∧ n = .int .i64 0) ∨ (i = .int .i64 1 ∧ n = .int .i64 (s.2.length : Int))) ∧ Below w.heap.size w wr) (fun _ i _ => 1 - (intOf i).toNat)
  case atStart => exact ⟨.inl ⟨rfl, rfl⟩, Below.refl _ _⟩
  case round =>
    obtain ⟨⟨rfl, rfl⟩ | ⟨rfl, rfl⟩, hb⟩ := hrel
    · have HB := Lib.hid hb
      clear hb
      obtain ⟨lb, z0, z1, z2, _, _⟩ := (HX.out.next HB.out)
      go_wp2
      go_roundw
      case rel => exact ⟨.inr ⟨rfl, rfl⟩, (HB.out.alloc HB.out.size _)⟩
      case measure => simp [intOf]
    · have HB := Lib.hid hb
      clear hb
      go_wp2
      go_ret
      exact ⟨rfl, HB.out⟩
theorem befI_lt {n : Nat} {s : Ib} (h : Iv n s) {k : Nat} (hk : k < s.2.length) : (if 0 < k then s.2.getD (k - 1) 0 else s.1) < s.2[k] := by
  by_cases h0 : 0 < k
  · rw [if_pos h0]
    have := h.inc.lt k (k - 1) hk (by omega)
    rw [List.getD_eq_getElem?_getD, List.getElem?_eq_getElem (by omega)]
    exact this
  · rw [if_neg h0]; exact h.lo k hk
def befI (s : Ib) (k : Nat) : Nat := if 0 < k then s.2.getD (k - 1) 0 else s.1
theorem befI_succ {s : Ib} {k : Nat} (hk : k < s.2.length) : befI s (k + 1) = s.2[k] := by
  unfold befI
  rw [if_pos (by omega), Nat.add_sub_cancel, List.getD_eq_getElem?_getD, List.getElem?_eq_getElem hk]; rfl
set_option maxHeartbeats 1000000 in
theorem validInbox_yes (n : Nat) (s : Ib) (D : Option Addr) (d : Nat) (w : World) (hs : Iv n s) (hn : n ≤ 64) (hd : s.2.length ≤ d) (hr : RdM w w.heap.size D s.2) : Calls Try.prog 46 #[.agg #[.int .i64 7, .int .i64 ((s.1 : Int) + 1), .slice D s.2.length d]] w fun e w' => e = .returned (.bool true) ∧ Below w.heap.size w w' := by
  have HS := Lib.hid hs
  have HR := Lib.hid hr
  have h1 := hs.le
  have h2 := hs.len
  clear hs hr
  go_enter Try.func46, Try.ntmps46
  go_wp2_with fail
  obtain ⟨U, hU⟩ : ∃ Zz, Zz = w.alloc (.cells #[.int .i64 7, .int .i64 ((s.1 : Int) + 1), .slice D s.2.length d] 69) := ⟨_, rfl⟩
  have hbU : Below w.heap.size w U := by rw [hU]; exact al1 _ _
  have kx : Bk U w.heap.size 69 #[.int .i64 7, .int .i64 ((s.1 : Int) + 1), .slice D s.2.length d] := by rw [hU]; exact Bk.new _ _ _
  rw [← hU]
  clear hU
  have K := Lib.hid kx
  have HBU := Lib.hid hbU
  have HRU := Lib.hid (RdX.next HR.out hbU)
  clear kx hbU
  obtain ⟨c0, c1, c2⟩ := box3 K.out
  have lk := K.out.lt
  refine (inside_yes 7 0 1000000 _ (by omega) (by omega)).mono ?_
  rintro e w' ⟨rfl, rfl⟩
  go_wp2_with fail
  refine (inside_yes ((s.1 : Int) + 1) (1) (1000001) _ (by omega) (by omega)).mono ?_
  rintro e w' ⟨rfl, rfl⟩
  go_wp2
  clear c0 c1 c2 lk
  go_loopw [3, 21] (fun bf i wr => ∃ k : Nat, i = .int .i64 (k : Int) ∧ k ≤ s.2.length ∧ bf = .int .i64 ((befI s k : Int) + 1) ∧ Below U.heap.size U wr) (fun _ i _ => s.2.length - (intOf i).toNat)
  case atStart => exact ⟨0, rfl, Nat.zero_le _, rfl, Below.refl _ _⟩
  case round =>
    obtain ⟨k, rfl, hk, rfl, hb⟩ := hrel
    have HB := Lib.hid hb
    clear hb
    by_cases hlt : k < s.2.length
    · obtain ⟨b, o, rfl, hbb, x0, x1, x2⟩ := rdM_at (RdX.next HRU.out HB.out) hlt
      obtain ⟨x, hx⟩ : ∃ x, x = s.2[k] := ⟨_, rfl⟩
      have hbf : befI s k < s.2[k] := befI_lt HS.out hlt
      have hx64 : s.2[k] < n := HS.out.hi k hlt
      rw [← hx] at x1 x2 hbf hx64
      obtain ⟨bf, hbfe⟩ : ∃ bf, bf = befI s k := ⟨_, rfl⟩
      rw [← hbfe] at hbf ⊢
      have HX := Lib.hid hx
      have k1 : (0 : Int) ≤ (k : Int) := by omega
      have k2 : (k : Int) < (s.2.length : Int) := by omega
      clear hx hbfe
      have K9 := Lib.hid (K.out.next HB.out)
      obtain ⟨c0, c1, c2⟩ := box3 K9.out
      have lk := K9.out.lt
      go_wp2_with fail
      clear c0 c1 c2 lk
      obtain ⟨Y, hY⟩ : ∃ Zz, Zz = wr.alloc (.cells #[.int .i64 7, .int .i64 ((x : Int) + 1), .int .i64 (x : Int)] 50) := ⟨_, rfl⟩
      have hbY : Below wr.heap.size wr Y := by rw [hY]; exact al1 _ _
      have ky : Bk Y wr.heap.size 50 #[.int .i64 7, .int .i64 ((x : Int) + 1), .int .i64 (x : Int)] := by rw [hY]; exact Bk.new _ _ _
      rw [← hY]
      clear hY
      obtain ⟨gx, hgx⟩ : ∃ g, g = wr.heap.size := ⟨_, rfl⟩
      rw [← hgx] at ky ⊢
      refine (validMessage_yes x _ (by omega)).mono ?_
      rintro e W1 ⟨rfl, hb⟩
      have KY := Lib.hid (ky.next hb)
      replace K9 := Lib.hid ((K9.out.next hbY).next hb)
      have HB1 := Lib.hid (bt hb (bt hbY HB.out))
      clear ky hbY hb x0 x1 x2 hgx
      obtain ⟨c0, c1, c2⟩ := box3 K9.out
      obtain ⟨d0, d1, d2⟩ := box3 KY.out
      have hlt2 : (bf : Int) + 1 < (x : Int) + 1 := by omega
      have hlt3 : (bf : Int) < (x : Int) := by omega
      go_wp2
      clear c0 c1 c2 d0 d1 d2
      go_roundw
      case rel => exact ⟨k + 1, by go_num, by omega, by rw [befI_succ hlt, ← HX.out], HB1.out⟩
      case measure => simp [intOf]; omega
    · obtain rfl : k = s.2.length := by omega
      go_wp2
      go_ret
      exact ⟨rfl, bt HB.out HBU.out⟩
set_option maxHeartbeats 1000000 in
theorem hValid_nil (w : World) : Calls Try.prog 25 #[.slice none 0 0] w fun e w' => e = .returned (.bool true) ∧ Below w.heap.size w w' := by
  go_enter Try.func25, Try.ntmps25
  go_wp2_with fail
  refine (waiting_nil _).mono ?_
  rintro e W0 ⟨rfl, hb⟩
  have HB0 := Lib.hid hb
  clear hb
  go_wp2
  go_loopw [3, 16] (fun n i wr => i = .int .i64 0 ∧ Below w.heap.size w wr) (fun _ _ _ => 0)
  case atStart => exact ⟨rfl, HB0.out⟩
  case round =>
    obtain ⟨rfl, hb⟩ := hrel
    have HB := Lib.hid hb
    clear hb
    go_wp2
    go_ret
    exact ⟨rfl, HB.out⟩
set_option maxHeartbeats 1000000 in
theorem hValid_one (n b o c : Nat) (D : Option Addr) (d : Nat) (s : Ib) (w : World) (hx : Bx1 w b o D d s) (hs : Iv n s) (hn : n ≤ 64) (hc : 1 ≤ c) : Calls Try.prog 25 #[.slice (some ⟨b, o, none⟩) 1 c] w fun e w' => e = .returned (.bool true) ∧ Below w.heap.size w w' := by
  have HX := Lib.hid hx
  have HS := Lib.hid hs
  have h1 := hs.le
  have h2 := hs.len
  clear hx hs
  go_enter Try.func25, Try.ntmps25
  go_wp2_with fail
  refine (waiting_one b o c D d s _ HX.out (by omega) hc).mono ?_
  rintro e W0 ⟨rfl, hb⟩
  have HB0 := Lib.hid hb
  clear hb
  go_wp2
  go_loopw [3, 16] (fun m i wr => ((i = .int .i64 0 ∧ m = .int .i64 (-1)) ∨ i = .int .i64 1) ∧ Below w.heap.size w wr) (fun _ i _ => 1 - (intOf i).toNat)
  case atStart => exact ⟨.inl ⟨rfl, rfl⟩, HB0.out⟩
  case round =>
    obtain ⟨⟨rfl, rfl⟩ | rfl, hb⟩ := hrel
    · have HB := Lib.hid hb
      clear hb
      obtain ⟨lb, z0, z1, z2, hd, hr⟩ := (HX.out.next HB.out)
      have HR := Lib.hid hr
      clear hr
      go_wp2_with fail
      obtain ⟨Y, hY⟩ : ∃ Zz, Zz = wr.alloc (.cells #[.int .i64 7, .int .i64 ((s.1 : Int) + 1), .slice D s.2.length d] 69) := ⟨_, rfl⟩
      have hbY : Below wr.heap.size wr Y := by rw [hY]; exact al1 _ _
      have ky : Bk Y wr.heap.size 69 #[.int .i64 7, .int .i64 ((s.1 : Int) + 1), .slice D s.2.length d] := by rw [hY]; exact Bk.new _ _ _
      rw [← hY]
      clear hY
      obtain ⟨gx, hgx⟩ : ∃ g, g = wr.heap.size := ⟨_, rfl⟩
      rw [← hgx] at ky ⊢
      refine (validInbox_yes n s D d _ HS.out hn hd (RdX.next HR.out hbY)).mono ?_
      rintro e W1 ⟨rfl, hb⟩
      have KY := Lib.hid (ky.next hb)
      have HB1 := Lib.hid (bt hb (bt hbY HB.out))
      clear ky hbY hb z0 z1 z2 hgx
      obtain ⟨d0, d1, d2⟩ := box3 KY.out
      go_wp2
      clear d0 d1 d2
      go_roundw
      case rel => exact ⟨.inr rfl, HB1.out⟩
      case measure => simp [intOf]
    · have HB := Lib.hid hb
      clear hb
      go_wp2
      go_ret
      exact ⟨rfl, HB.out⟩
theorem findB_nil (w : World) : Calls Try.prog 27 #[.slice none 0 0, .int .i64 7, .func (.func 28) #[] #[]] w fun e w' => e = .returned (.tuple #[.int .i64 0, .bool false]) ∧ Below w.heap.size w w' := by
  go_enter Try.func27, Try.ntmps27
  go_wp2
  go_loopw [8, 9] (fun a b wr => a = .int .i64 0 ∧ b = .int .i64 0 ∧ Below w.heap.size w wr) (fun _ _ _ => 0)
  case atStart => exact ⟨rfl, rfl, Below.refl _ _⟩
  case round =>
    obtain ⟨rfl, rfl, hb⟩ := hrel
    have HB := Lib.hid hb
    clear hb
    go_wp2
    go_ret2
    exact ⟨rfl, HB.out⟩
set_option maxHeartbeats 1000000 in
theorem findB_one (b o c : Nat) (D : Option Addr) (d : Nat) (s : Ib) (w : World) (hx : Bx1 w b o D d s) (hc : 1 ≤ c) : Calls Try.prog 27 #[.slice (some ⟨b, o, none⟩) 1 c, .int .i64 7, .func (.func 28) #[] #[]] w fun e w' => e = .returned (.tuple #[.int .i64 0, .bool true]) ∧ Below w.heap.size w w' := by
  have HX := Lib.hid hx
  clear hx
  go_enter Try.func27, Try.ntmps27
  go_wp2
  go_loopw [8, 9] (fun a b wr => a = .int .i64 0 ∧ (b = .int .i64 1 ∨ b = .int .i64 0) ∧ Below w.heap.size w wr) (fun _ b _ => (intOf b).toNat)
  case atStart => exact ⟨rfl, .inl rfl, Below.refl _ _⟩
  case round =>
    obtain ⟨rfl, rfl | rfl, hb⟩ := hrel
    · have HB := Lib.hid hb
      clear hb
      obtain ⟨lb, z0, z1, z2, _, _⟩ := (HX.out.next HB.out)
      go_wp2_with fail
      refine (fromOf_any s D d _).mono ?_
      rintro e W0 ⟨rfl, hb⟩
      have HB1 := Lib.hid (bt hb HB.out)
      clear hb z0 z1 z2
      go_wp2
      go_roundw
      case rel => exact ⟨rfl, .inr rfl, HB1.out⟩
      case measure => simp [intOf]
    · have HB := Lib.hid hb
      clear hb
      obtain ⟨lb, z0, z1, z2, _, _⟩ := (HX.out.next HB.out)
      go_wp2_with fail
      refine (fromOf_any s D d _).mono ?_
      rintro e W0 ⟨rfl, hb⟩
      have HB1 := Lib.hid (bt hb HB.out)
      clear hb z0 z1 z2
      go_wp2
      go_ret2
      exact ⟨rfl, HB1.out⟩
set_option maxHeartbeats 2000000 in
theorem findM_any (ws : List Nat) (k p : Nat) (B : Bool) (A : Option Addr) (c : Nat) (w : World) (hw : incN ws) (hp : plc ws k = p) (hB : decide (k ∈ ws) = B) (hl : ws.length ≤ 64) (hA : RdM w w.heap.size A ws) (hk : k ≤ 1000) :
    Calls Try.prog 29 #[.slice A ws.length c, .int .i64 ((k : Int) + 1), .func (.func 30) #[] #[]] w fun e w' => e = .returned (.tuple #[.int .i64 (p : Int), .bool B]) ∧ Below w.heap.size w w' := by
  have HA := Lib.hid hA
  have HW := Lib.hid hw
  have HPL := Lib.hid hp
  have HBB := Lib.hid hB
  clear hA hw hp hB
  go_enter Try.func29, Try.ntmps29
  go_wp2
  go_loopw [8, 9] (fun lo hi wr => ∃ a b : Nat, lo = .int .i64 (a : Int) ∧ hi = .int .i64 (b : Int) ∧ a ≤ b ∧ b ≤ ws.length ∧ (∀ j (h : j < ws.length), j < a → ws[j] < k) ∧ (∀ j (h : j < ws.length), b ≤ j → k ≤ ws[j]) ∧ Below w.heap.size w wr) (fun lo hi _ => (intOf hi).toNat - (intOf lo).toNat)
  case atStart => exact ⟨0, ws.length, rfl, rfl, Nat.zero_le _, Nat.le_refl _, fun j h h1 => by omega, fun j h h1 => by omega, Below.refl _ _⟩
  case round =>
    obtain ⟨a, b, rfl, rfl, hab, hbl, q1, q2, hb⟩ := hrel
    have Q1 := Lib.hid q1
    have Q2 := Lib.hid q2
    have HB := Lib.hid hb
    clear q1 q2 hb
    by_cases hlt : a < b
    · obtain ⟨m, hm⟩ : ∃ m, m = a + (b - a) / 2 := ⟨_, rfl⟩
      have hm1 : a ≤ m := by omega
      have hm2 : m < b := by omega
      have hml : m < ws.length := by omega
      have k0 : (0 : Int) ≤ (a : Int) := by omega
      have k3 : (a : Int) < (b : Int) := by omega
      have k4 : (b : Int) ≤ 64 := by omega
      have k1 : (0 : Int) ≤ (m : Int) := by omega
      have k2 : (m : Int) < (ws.length : Int) := by omega
      have hmm : (a : Int) + ((b : Int) - (a : Int)) / 2 = (m : Int) := by omega
      clear hm
      obtain ⟨bb, oo, rfl, hbb, x0, x1, x2⟩ := rdM_at (RdX.next HA.out HB.out) (i := m) (by omega)
      obtain ⟨y, hy⟩ : ∃ y, y = ws[m] := ⟨_, rfl⟩
      rw [← hy] at x1 x2
      have HY := Lib.hid hy
      clear hy
      by_cases hcm : y < k
      · go_wp2_with fail
        refine (numberOf_any y _).mono ?_
        rintro e W0 ⟨rfl, hb⟩
        have HB1 := Lib.hid (bt hb HB.out)
        clear hb x0 x1 x2
        have c1 : (y : Int) + 1 < (k : Int) + 1 := by omega
        have c2 : (y : Int) < (k : Int) := by omega
        go_wp2
        go_roundw
        case rel => exact ⟨m + 1, b, by go_num, rfl, by omega, hbl, fun j h h1 => by
            have h3 : ws[j] ≤ ws[m] := by
              by_cases e : j = m
              · subst e; exact Nat.le_refl _
              · exact Nat.le_of_lt (HW.out.lt m j hml (by omega))
            rw [HY.out] at hcm
            omega, Q2.out, HB1.out⟩
        case measure => simp [intOf]; omega
      · go_wp2_with fail
        refine (numberOf_any y _).mono ?_
        rintro e W0 ⟨rfl, hb⟩
        have HB1 := Lib.hid (bt hb HB.out)
        clear hb x0 x1 x2
        have c1 : ¬ (y : Int) + 1 < (k : Int) + 1 := by omega
        have c2 : (k : Int) ≤ (y : Int) := by omega
        have c3 : decide ((y : Int) < (k : Int)) = false := decide_eq_false (by omega)
        have c4 : decide ((y : Int) + 1 < (k : Int) + 1) = false := decide_eq_false (by omega)
        have c5 : decide (y < k) = false := decide_eq_false hcm
        go_wp2
        go_roundw
        case rel => exact ⟨a, m, rfl, rfl, hm1, by omega, Q1.out, fun j h h1 => by
            have h3 : ws[m] ≤ ws[j] := by
              by_cases e : j = m
              · subst e; exact Nat.le_refl _
              · exact Nat.le_of_lt (HW.out.lt j m h (by omega))
            rw [HY.out] at hcm
            omega, HB1.out⟩
        case measure => simp [intOf]; omega
    · obtain rfl : a = b := by omega
      have HP := Lib.hid (plc_of HW.out hbl Q1.out Q2.out)
      rw [HPL.out] at HP
      obtain rfl : p = a := HP.out
      by_cases hpl : p < ws.length
      · by_cases hq : ws[p] = k
        · have hB : B = true := by rw [← HBB.out]; exact decide_eq_true ((plc_mem HW.out).2 (by rw [HPL.out]; exact ⟨hpl, hq⟩))
          subst hB
          have hq' : ((ws[p] : Nat) : Int) + 1 = (k : Int) + 1 := by omega
          have HQ := Lib.hid hq
          clear hq
          obtain ⟨bb, oo, rfl, hbb, x0, x1, x2⟩ := rdM_at (RdX.next HA.out HB.out) (i := p) (by omega)
          obtain ⟨y, hy⟩ : ∃ y, y = ws[p] := ⟨_, rfl⟩
          rw [← hy] at x1 x2
          have HY := Lib.hid hy
          clear hy
          have k1 : (0 : Int) ≤ (p : Int) := by omega
          have k2 : (p : Int) < (ws.length : Int) := by omega
          have hy2 : y = k := by rw [HY.out, HQ.out]
          subst hy2
          clear hq'
          go_wp2_with fail
          refine (numberOf_any y _).mono ?_
          rintro e W0 ⟨rfl, hb⟩
          have HB1 := Lib.hid (bt hb HB.out)
          clear hb x0 x1 x2
          go_wp2
          go_ret2
          exact ⟨rfl, HB1.out⟩
        · have hB : B = false := by rw [← HBB.out]; exact decide_eq_false (fun hm => hq (by obtain ⟨h1, h2⟩ := (plc_mem HW.out).1 hm; simp only [HPL.out] at h2; exact h2))
          subst hB
          have HQ := Lib.hid hq
          clear hq
          obtain ⟨bb, oo, rfl, hbb, x0, x1, x2⟩ := rdM_at (RdX.next HA.out HB.out) (i := p) (by omega)
          obtain ⟨y, hy⟩ : ∃ y, y = ws[p] := ⟨_, rfl⟩
          rw [← hy] at x1 x2
          have HY := Lib.hid hy
          clear hy
          have k1 : (0 : Int) ≤ (p : Int) := by omega
          have k2 : (p : Int) < (ws.length : Int) := by omega
          have hy2 : (((y : Int) + 1) == ((k : Int) + 1)) = false := by rw [beq_eq_false_iff_ne]; intro e; exact HQ.out (by rw [← HY.out]; omega)
          have hy3 : ((y : Int) == (k : Int)) = false := by rw [beq_eq_false_iff_ne]; intro e; exact HQ.out (by rw [← HY.out]; omega)
          have hy4 : (y == k) = false := by rw [beq_eq_false_iff_ne]; intro e; exact HQ.out (by rw [← HY.out]; omega)
          go_wp2_with fail
          refine (numberOf_any y _).mono ?_
          rintro e W0 ⟨rfl, hb⟩
          have HB1 := Lib.hid (bt hb HB.out)
          clear hb x0 x1 x2
          go_wp2
          go_ret2
          exact ⟨rfl, HB1.out⟩
      · have hB : B = false := by rw [← HBB.out]; exact decide_eq_false (fun hm => hpl (by obtain ⟨h1, h2⟩ := (plc_mem HW.out).1 hm; rw [HPL.out] at h1; exact h1))
        subst hB
        have g1 : decide ((p : Int) < (ws.length : Int)) = false := decide_eq_false (by omega)
        have g2 : decide (p < ws.length) = false := decide_eq_false hpl
        go_wp2
        go_ret2
        exact ⟨rfl, HB.out⟩
set_option maxHeartbeats 1000000 in
theorem check_old (k n : Nat) (s : Ib) (D : Option Addr) (d : Nat) (l : Value) (kn B : Bool) (w : World) (hk : k ≤ 1000) (hs : s.1 ≤ 1000) (h : k < s.1 ∨ B = true) :
    Calls Try.prog 31 #[l, .agg #[.int .i64 7, .int .i64 ((k : Int) + 1), .int .i64 (k : Int)], .agg #[.int .i64 7, .int .i64 ((s.1 : Int) + 1), .slice D s.2.length d], .bool kn, .bool B] w fun e w' => e = .returned (.int .i64 12) ∧ Below w.heap.size w w' := by
  have HB := Lib.hid (al2 w (.cells #[.int .i64 7, .int .i64 ((k : Int) + 1), .int .i64 (k : Int)] 50) (.cells #[.int .i64 7, .int .i64 ((s.1 : Int) + 1), .slice D s.2.length d] 69))
  rcases h with h | h
  · have h1 : (k : Int) + 1 < (s.1 : Int) + 1 := by omega
    have h2 : (k : Int) < (s.1 : Int) := by omega
    go_enter Try.func31, Try.ntmps31
    go_wp2
    go_ret
    exact ⟨rfl, HB.out⟩
  · subst h
    by_cases h0 : k < s.1
    · have h1 : (k : Int) + 1 < (s.1 : Int) + 1 := by omega
      have h2 : (k : Int) < (s.1 : Int) := by omega
      go_enter Try.func31, Try.ntmps31
      go_wp2
      go_ret
      exact ⟨rfl, HB.out⟩
    · have h1 : decide ((k : Int) + 1 < (s.1 : Int) + 1) = false := decide_eq_false (by omega)
      have h2 : decide ((k : Int) < (s.1 : Int)) = false := decide_eq_false (by omega)
      have h3 : decide (k < s.1) = false := decide_eq_false h0
      go_enter Try.func31, Try.ntmps31
      go_wp2
      go_ret
      exact ⟨rfl, HB.out⟩
set_option maxHeartbeats 1000000 in
theorem check_nil (k n : Nat) (s : Ib) (D : Option Addr) (d : Nat) (w : World) (hk : k ≤ 1000) (hs : s.1 ≤ 1000) (hg : ¬ k < s.1) :
    Calls Try.prog 31 #[.slice none 0 0, .agg #[.int .i64 7, .int .i64 ((k : Int) + 1), .int .i64 (k : Int)], .agg #[.int .i64 7, .int .i64 ((s.1 : Int) + 1), .slice D s.2.length d], .bool false, .bool false] w fun e w' => e = .returned (.int .i64 0) ∧ Below w.heap.size w w' := by
  have HB := Lib.hid (al2 w (.cells #[.int .i64 7, .int .i64 ((k : Int) + 1), .int .i64 (k : Int)] 50) (.cells #[.int .i64 7, .int .i64 ((s.1 : Int) + 1), .slice D s.2.length d] 69))
  have h1 : decide ((k : Int) + 1 < (s.1 : Int) + 1) = false := decide_eq_false (by omega)
  have h2 : decide ((k : Int) < (s.1 : Int)) = false := decide_eq_false (by omega)
  have h3 : decide (k < s.1) = false := decide_eq_false (by omega)
  have h33 : ¬ (k : Int) + 1 < (s.1 : Int) + 1 := by omega
  by_cases h0 : s.1 < k
  · have h4 : (s.1 : Int) + 1 < (k : Int) + 1 := by omega
    have h5 : (s.1 : Int) < (k : Int) := by omega
    go_enter Try.func31, Try.ntmps31
    go_wp2_with fail
    refine (waiting_nil _).mono ?_
    rintro e W0 ⟨rfl, hb⟩
    have HB1 := Lib.hid (bt hb HB.out)
    clear hb
    go_wp2
    go_ret
    exact ⟨rfl, HB1.out⟩
  · have h4 : decide ((s.1 : Int) + 1 < (k : Int) + 1) = false := decide_eq_false (by omega)
    have h5 : decide ((s.1 : Int) < (k : Int)) = false := decide_eq_false (by omega)
    have h6 : decide (s.1 < k) = false := decide_eq_false h0
    have h66 : ¬ (s.1 : Int) + 1 < (k : Int) + 1 := by omega
    go_enter Try.func31, Try.ntmps31
    go_wp2
    go_ret
    exact ⟨rfl, HB.out⟩
set_option maxHeartbeats 1000000 in
theorem check_one (k n : Nat) (s : Ib) (D : Option Addr) (d : Nat) (b o c : Nat) (w : World) (hx : Bx1 w b o D d s) (hc : 1 ≤ c) (hk : k ≤ 1000) (hs : s.1 ≤ 1000) (hl : s.2.length < 64) (hg : ¬ k < s.1) :
    Calls Try.prog 31 #[.slice (some ⟨b, o, none⟩) 1 c, .agg #[.int .i64 7, .int .i64 ((k : Int) + 1), .int .i64 (k : Int)], .agg #[.int .i64 7, .int .i64 ((s.1 : Int) + 1), .slice D s.2.length d], .bool true, .bool false] w fun e w' => e = .returned (.int .i64 0) ∧ Below w.heap.size w w' := by
  have HB := Lib.hid (al2 w (.cells #[.int .i64 7, .int .i64 ((k : Int) + 1), .int .i64 (k : Int)] 50) (.cells #[.int .i64 7, .int .i64 ((s.1 : Int) + 1), .slice D s.2.length d] 69))
  have HX := Lib.hid hx
  clear hx
  have h1 : decide ((k : Int) + 1 < (s.1 : Int) + 1) = false := decide_eq_false (by omega)
  have h2 : decide ((k : Int) < (s.1 : Int)) = false := decide_eq_false (by omega)
  have h3 : decide (k < s.1) = false := decide_eq_false (by omega)
  have h33 : ¬ (k : Int) + 1 < (s.1 : Int) + 1 := by omega
  by_cases h0 : s.1 < k
  · have h4 : (s.1 : Int) + 1 < (k : Int) + 1 := by omega
    have h5 : (s.1 : Int) < (k : Int) := by omega
    have h7 : ((s.2.length : Int) == 64) = false := by rw [beq_eq_false_iff_ne]; omega
    go_enter Try.func31, Try.ntmps31
    go_wp2_with fail
    refine (waiting_one b o c D d s _ (HX.out.next HB.out) (by omega) hc).mono ?_
    rintro e W0 ⟨rfl, hb⟩
    have HB1 := Lib.hid (bt hb HB.out)
    clear hb
    go_wp2
    go_ret
    exact ⟨rfl, HB1.out⟩
  · have h4 : decide ((s.1 : Int) + 1 < (k : Int) + 1) = false := decide_eq_false (by omega)
    have h5 : decide ((s.1 : Int) < (k : Int)) = false := decide_eq_false (by omega)
    have h6 : decide (s.1 < k) = false := decide_eq_false h0
    have h66 : ¬ (s.1 : Int) + 1 < (k : Int) + 1 := by omega
    go_enter Try.func31, Try.ntmps31
    go_wp2
    go_ret
    exact ⟨rfl, HB.out⟩
end Go.Proofs.Ythihhmlgpokomaa
