/- cards: validList, find, revoked, over lists that are in order. -/
import Derived.Test.YthihhmlgpokomaaWc
set_option maxRecDepth 100000
set_option linter.unusedVariables false
set_option linter.unusedSimpArgs false
namespace Go.Proofs.Ythihhmlgpokomaa
open Go.RowKit

/-- the key of the element before -/
def befX {α : Type} (key : α → Int) (l : List α) (k : Nat) : Int := if 0 < k then (l[k - 1]?.map key).getD 0 else 0
theorem befX_succ {α : Type} {key : α → Int} {l : List α} {k : Nat} (h : k < l.length) : befX key l (k + 1) = key l[k] := by
  unfold befX
  rw [if_pos (by omega), Nat.add_sub_cancel, List.getElem?_eq_getElem h]; rfl
theorem befX_lt {α : Type} {key : α → Int} {one : α → Prop} {l : List α} {k : Nat} (ho : Ok key one l) (h1 : ∀ x, one x → 1 ≤ key x) (h : k < l.length) : befX key l k < key l[k] := by
  cases k with
  | zero => have := h1 _ (ho.each 0 h); unfold befX; simp; omega
  | succ k => rw [befX_succ (by omega)]; exact ho.inc k h
/-- where a binary search ends -/
theorem find_end {α : Type} {key : α → Int} {one : α → Prop} {l : List α} (ho : Ok key one l) {n : Int} {a i : Nat} (hi : i < l.length) (hn : key l[i] = n) (h1 : ∀ j (h : j < l.length), j < a → key l[j] < n) (h2 : ∀ j (h : j < l.length), a ≤ j → n ≤ key l[j]) : a = i := by
  rcases Nat.lt_trichotomy a i with h | h | h
  · have x1 := h2 a (by omega) (Nat.le_refl _)
    have x2 := ho.lt i a hi h
    omega
  · exact h
  · have := h1 i hi h; omega
theorem na_v (x : Vd) (w : World) : (nilAhead 211 60 (.agg #[.int .i64 x.n, .int .i64 x.e]) "chargepark/cards.number").run Try.prog w = .ok (some false) w := by kernel_rfl
theorem me_v (x : Vd) (w : World) : (method 211 60 (.agg #[.int .i64 x.n, .int .i64 x.e]) "chargepark/cards.number").run Try.prog w = .ok (67, .agg #[.int .i64 x.n, .int .i64 x.e]) w := by kernel_rfl
theorem nv_v (x : Vd) (w : World) : (nilAhead 211 60 (.agg #[.int .i64 x.n, .int .i64 x.e]) "chargepark/cards.valid").run Try.prog w = .ok (some false) w := by kernel_rfl
theorem mv_v (x : Vd) (w : World) : (method 211 60 (.agg #[.int .i64 x.n, .int .i64 x.e]) "chargepark/cards.valid").run Try.prog w = .ok (68, .agg #[.int .i64 x.n, .int .i64 x.e]) w := by kernel_rfl
theorem na_c (x : Cd) (w : World) : (nilAhead 211 58 (.agg #[.int .i64 x.n, .int .i64 x.k, .int .i64 x.f, .int .i64 x.l]) "chargepark/cards.number").run Try.prog w = .ok (some false) w := by kernel_rfl
theorem me_c (x : Cd) (w : World) : (method 211 58 (.agg #[.int .i64 x.n, .int .i64 x.k, .int .i64 x.f, .int .i64 x.l]) "chargepark/cards.number").run Try.prog w = .ok (65, .agg #[.int .i64 x.n, .int .i64 x.k, .int .i64 x.f, .int .i64 x.l]) w := by kernel_rfl
theorem nv_c (x : Cd) (w : World) : (nilAhead 211 58 (.agg #[.int .i64 x.n, .int .i64 x.k, .int .i64 x.f, .int .i64 x.l]) "chargepark/cards.valid").run Try.prog w = .ok (some false) w := by kernel_rfl
theorem mv_c (x : Cd) (w : World) : (method 211 58 (.agg #[.int .i64 x.n, .int .i64 x.k, .int .i64 x.f, .int .i64 x.l]) "chargepark/cards.valid").run Try.prog w = .ok (66, .agg #[.int .i64 x.n, .int .i64 x.k, .int .i64 x.f, .int .i64 x.l]) w := by kernel_rfl
set_option maxHeartbeats 1000000 in
theorem validList_v (l : List Vd) (A : Option Addr) (c : Nat) (w : World) (h : VOk l) (hA : RdV w w.heap.size A l) :
    Calls Try.prog 19 #[.slice A l.length c] w fun e w' => e = .returned (.bool true) ∧ Below w.heap.size w w' := by
  have HA := Lib.hid hA
  have HV := Lib.hid h
  have h64 := h.len
  clear hA h
  go_enter Try.func19, Try.ntmps19
  go_wp2
  go_loopw [3, 11] (fun bf i wr => ∃ k : Nat, i = .int .i64 (k : Int) ∧ k ≤ l.length ∧ bf = .int .i64 (befX Vd.n l k) ∧ Below w.heap.size w wr) (fun _ i _ => l.length - (intOf i).toNat)
  case atStart => exact ⟨0, rfl, Nat.zero_le _, rfl, Below.refl _ _⟩
  case round =>
    obtain ⟨k, rfl, hk, rfl, hb⟩ := hrel
    have HB := Lib.hid hb
    clear hb
    by_cases hlt : k < l.length
    · obtain ⟨b, o, rfl, hbb, x0, x1⟩ := rdV_at (HA.out.next HB.out) hlt
      obtain ⟨x, hx⟩ : ∃ x, x = l[k] := ⟨_, rfl⟩
      have hone : vOne x := by rw [hx]; exact HV.out.each k hlt
      have hbef : befX Vd.n l k < x.n := by rw [hx]; exact befX_lt HV.out (fun x h => h.1) hlt
      rw [← hx] at x0 x1
      have HX := Lib.hid hx
      have HONE := Lib.hid hone
      have hnr : decide (1 ≤ x.n ∧ x.n ≤ 1000000) = true := decide_eq_true ⟨hone.1, hone.2.1⟩
      have HNR := Lib.hid hnr
      have k1 : (0 : Int) ≤ (k : Int) := by omega
      have k2 : (k : Int) < (l.length : Int) := by omega
      obtain ⟨bf, hbf⟩ : ∃ bf, bf = befX Vd.n l k := ⟨_, rfl⟩
      rw [← hbf] at hbef ⊢
      have na := na_v x
      have me := me_v x
      have nv := nv_v x
      have mv := mv_v x
      clear hx hone hnr hbf
      go_wp2_with fail
      obtain ⟨U, hU⟩ : ∃ Zz, Zz = wr.alloc (.cells #[.int .i64 x.n, .int .i64 x.e] 60) := ⟨_, rfl⟩
      have hbU : Below wr.heap.size wr U := by rw [hU]; exact al1 _ _
      have kx : Bk U wr.heap.size 60 #[.int .i64 x.n, .int .i64 x.e] := by rw [hU]; exact Bk.new _ _ _
      rw [← hU]
      clear hU
      have K := Lib.hid kx
      replace HB := Lib.hid (bt hbU HB.out)
      obtain ⟨gx, hgx⟩ : ∃ g, g = wr.heap.size := ⟨_, rfl⟩
      rw [← hgx] at K ⊢
      clear kx hbU x0 x1 hgx
      refine (vNumber x _).mono ?_
      rintro e W0 ⟨rfl, hb⟩
      replace K := Lib.hid (K.out.next hb)
      replace HB := Lib.hid (bt hb HB.out)
      clear hb
      obtain ⟨c0, c1⟩ := box2 K.out
      have lk := K.out.lt
      go_wp2_with fail
      clear c0 c1 lk
      refine (vNumber x _).mono ?_
      rintro e W1 ⟨rfl, hb⟩
      replace K := Lib.hid (K.out.next hb)
      replace HB := Lib.hid (bt hb HB.out)
      clear hb
      obtain ⟨c0, c1⟩ := box2 K.out
      have lk := K.out.lt
      go_wp2_with fail
      clear c0 c1 lk
      refine (isNumber_lit true x.n _ HNR.out).mono ?_
      rintro e W' ⟨rfl, rfl⟩
      obtain ⟨c0, c1⟩ := box2 K.out
      have lk := K.out.lt
      go_wp2_with fail
      clear c0 c1 lk
      refine (vValid_yes x _ HONE.out).mono ?_
      rintro e W3 ⟨rfl, hb⟩
      replace K := Lib.hid (K.out.next hb)
      replace HB := Lib.hid (bt hb HB.out)
      clear hb
      obtain ⟨c0, c1⟩ := box2 K.out
      have lk := K.out.lt
      go_wp2_with fail
      clear c0 c1 lk
      refine (vNumber x _).mono ?_
      rintro e W4 ⟨rfl, hb⟩
      replace K := Lib.hid (K.out.next hb)
      replace HB := Lib.hid (bt hb HB.out)
      clear hb
      clear na me nv mv
      go_wp2
      go_roundw
      case rel => exact ⟨k + 1, by go_num, by omega, by rw [befX_succ hlt, ← HX.out], HB.out⟩
      case measure => simp [intOf]; omega
    · obtain rfl : k = l.length := by omega
      go_wp2
      go_ret
      exact ⟨rfl, HB.out⟩
set_option maxHeartbeats 1000000 in
theorem validList_c (l : List Cd) (A : Option Addr) (c : Nat) (w : World) (h : COk l) (hA : RdC w w.heap.size A l) :
    Calls Try.prog 18 #[.slice A l.length c] w fun e w' => e = .returned (.bool true) ∧ Below w.heap.size w w' := by
  have HA := Lib.hid hA
  have HV := Lib.hid h
  have h64 := h.len
  clear hA h
  go_enter Try.func18, Try.ntmps18
  go_wp2
  go_loopw [3, 11] (fun bf i wr => ∃ k : Nat, i = .int .i64 (k : Int) ∧ k ≤ l.length ∧ bf = .int .i64 (befX Cd.n l k) ∧ Below w.heap.size w wr) (fun _ i _ => l.length - (intOf i).toNat)
  case atStart => exact ⟨0, rfl, Nat.zero_le _, rfl, Below.refl _ _⟩
  case round =>
    obtain ⟨k, rfl, hk, rfl, hb⟩ := hrel
    have HB := Lib.hid hb
    clear hb
    by_cases hlt : k < l.length
    · obtain ⟨b, o, rfl, hbb, x0, x1, x2, x3⟩ := rdC_at (HA.out.next HB.out) hlt
      obtain ⟨x, hx⟩ : ∃ x, x = l[k] := ⟨_, rfl⟩
      have hone : cOne x := by rw [hx]; exact HV.out.each k hlt
      have hbef : befX Cd.n l k < x.n := by rw [hx]; exact befX_lt HV.out (fun x h => h.1) hlt
      rw [← hx] at x0 x1 x2 x3
      have HX := Lib.hid hx
      have HONE := Lib.hid hone
      have hnr : decide (1 ≤ x.n ∧ x.n ≤ 1000000) = true := decide_eq_true ⟨hone.1, hone.2.1⟩
      have HNR := Lib.hid hnr
      have k1 : (0 : Int) ≤ (k : Int) := by omega
      have k2 : (k : Int) < (l.length : Int) := by omega
      obtain ⟨bf, hbf⟩ : ∃ bf, bf = befX Cd.n l k := ⟨_, rfl⟩
      rw [← hbf] at hbef ⊢
      have na := na_c x
      have me := me_c x
      have nv := nv_c x
      have mv := mv_c x
      clear hx hone hnr hbf
      go_wp2_with fail
      obtain ⟨U, hU⟩ : ∃ Zz, Zz = wr.alloc (.cells #[.int .i64 x.n, .int .i64 x.k, .int .i64 x.f, .int .i64 x.l] 58) := ⟨_, rfl⟩
      have hbU : Below wr.heap.size wr U := by rw [hU]; exact al1 _ _
      have kx : Bk U wr.heap.size 58 #[.int .i64 x.n, .int .i64 x.k, .int .i64 x.f, .int .i64 x.l] := by rw [hU]; exact Bk.new _ _ _
      rw [← hU]
      clear hU
      have K := Lib.hid kx
      replace HB := Lib.hid (bt hbU HB.out)
      obtain ⟨gx, hgx⟩ : ∃ g, g = wr.heap.size := ⟨_, rfl⟩
      rw [← hgx] at K ⊢
      clear kx hbU x0 x1 x2 x3 hgx
      refine (cNumber x _).mono ?_
      rintro e W0 ⟨rfl, hb⟩
      replace K := Lib.hid (K.out.next hb)
      replace HB := Lib.hid (bt hb HB.out)
      clear hb
      obtain ⟨c0, c1, c2, c3⟩ := box4 K.out
      have lk := K.out.lt
      go_wp2_with fail
      clear c0 c1 c2 c3 lk
      refine (cNumber x _).mono ?_
      rintro e W1 ⟨rfl, hb⟩
      replace K := Lib.hid (K.out.next hb)
      replace HB := Lib.hid (bt hb HB.out)
      clear hb
      obtain ⟨c0, c1, c2, c3⟩ := box4 K.out
      have lk := K.out.lt
      go_wp2_with fail
      clear c0 c1 c2 c3 lk
      refine (isNumber_lit true x.n _ HNR.out).mono ?_
      rintro e W' ⟨rfl, rfl⟩
      obtain ⟨c0, c1, c2, c3⟩ := box4 K.out
      have lk := K.out.lt
      go_wp2_with fail
      clear c0 c1 c2 c3 lk
      refine (cValid_yes x _ HONE.out).mono ?_
      rintro e W3 ⟨rfl, hb⟩
      replace K := Lib.hid (K.out.next hb)
      replace HB := Lib.hid (bt hb HB.out)
      clear hb
      obtain ⟨c0, c1, c2, c3⟩ := box4 K.out
      have lk := K.out.lt
      go_wp2_with fail
      clear c0 c1 c2 c3 lk
      refine (cNumber x _).mono ?_
      rintro e W4 ⟨rfl, hb⟩
      replace K := Lib.hid (K.out.next hb)
      replace HB := Lib.hid (bt hb HB.out)
      clear hb
      clear na me nv mv
      go_wp2
      go_roundw
      case rel => exact ⟨k + 1, by go_num, by omega, by rw [befX_succ hlt, ← HX.out], HB.out⟩
      case measure => simp [intOf]; omega
    · obtain rfl : k = l.length := by omega
      go_wp2
      go_ret
      exact ⟨rfl, HB.out⟩
set_option maxHeartbeats 1000000 in
theorem find_v_yes (l : List Vd) (number : Int) (A : Option Addr) (c : Nat) (w : World) (h : VOk l) (hA : RdV w w.heap.size A l) (i : Nat) (hi : i < l.length) (hn : Vd.n l[i] = number) :
    Calls Try.prog 44 #[.slice A l.length c, .int .i64 number] w fun e w' => e = .returned (.tuple #[.agg #[.int .i64 l[i].n, .int .i64 l[i].e], .bool true]) ∧ Below w.heap.size w w' := by
  have HA := Lib.hid hA
  have HV := Lib.hid h
  have h64 := h.len
  obtain ⟨x, hx⟩ : ∃ x, x = l[i] := ⟨_, rfl⟩
  rw [← hx] at hn ⊢
  subst hn
  have HX0 := Lib.hid hx
  clear hA h hx
  go_enter Try.func44, Try.ntmps44
  go_wp2
  obtain ⟨U, hU⟩ : ∃ Zz, Zz = w.alloc (.cells #[.int .i64 0, .int .i64 0] 60) := ⟨_, rfl⟩
  have hbU : Below w.heap.size w U := by rw [hU]; exact al1 _ _
  have kx : Bk U w.heap.size 60 #[.int .i64 0, .int .i64 0] := by rw [hU]; exact Bk.new _ _ _
  rw [← hU]
  clear hU
  have K := Lib.hid kx
  have HBU := Lib.hid hbU
  have HAU := Lib.hid (HA.out.next hbU)
  clear kx hbU
  go_loopw [6, 7] (fun lo hi wr => ∃ a b : Nat, lo = .int .i64 (a : Int) ∧ hi = .int .i64 (b : Int) ∧ a ≤ b ∧ b ≤ l.length ∧ (∀ j (h : j < l.length), j < a → Vd.n l[j] < x.n) ∧ (∀ j (h : j < l.length), b ≤ j → x.n ≤ Vd.n l[j]) ∧ Below U.heap.size U wr) (fun lo hi _ => (intOf hi).toNat - (intOf lo).toNat)
  case atStart => exact ⟨0, l.length, rfl, rfl, Nat.zero_le _, Nat.le_refl _, fun j h h1 => by omega, fun j h h1 => by omega, Below.refl _ _⟩
  case round =>
    obtain ⟨a, b, rfl, rfl, hab, hbl, q1, q2, hb⟩ := hrel
    have Q1 := Lib.hid q1
    have Q2 := Lib.hid q2
    have HB := Lib.hid hb
    clear q1 q2 hb
    by_cases hlt : a < b
    · obtain ⟨m, hm⟩ : ∃ m, m = a + (b - a) / 2 := ⟨_, rfl⟩
      have hm1 : a ≤ m := by omega
      have hm2 : m < b := by omega
      have hml : m < l.length := by omega
      have k0 : (0 : Int) ≤ (a : Int) := by omega
      have k3 : (a : Int) < (b : Int) := by omega
      have k4 : (b : Int) ≤ 64 := by omega
      have k1 : (0 : Int) ≤ (m : Int) := by omega
      have k2 : (m : Int) < (l.length : Int) := by omega
      have hmm : (a : Int) + ((b : Int) - (a : Int)) / 2 = (m : Int) := by omega
      clear hm
      obtain ⟨bb, oo, rfl, hbb, x0, x1⟩ := rdV_at (HAU.out.next HB.out) (i := m) (by omega)
      obtain ⟨y, hy⟩ : ∃ y, y = l[m] := ⟨_, rfl⟩
      rw [← hy] at x0 x1
      have HY := Lib.hid hy
      have na := na_v y
      have me := me_v y
      clear hy
      by_cases hcm : y.n < x.n
      · go_wp2_with fail
        refine (vNumber y _).mono ?_
        rintro e W0 ⟨rfl, hb⟩
        replace HB := Lib.hid (bt hb HB.out)
        clear hb na me x0 x1
        go_wp2
        go_roundw
        case rel =>
          refine ⟨m + 1, b, by go_num, rfl, by omega, hbl, fun j h h1 => ?_, Q2.out, HB.out⟩
          have h3 := HV.out.le m j hml (by omega)
          rw [HY.out] at hcm
          exact Int.lt_of_le_of_lt h3 hcm
        case measure => simp [intOf]; omega
      · have hcm' : x.n ≤ y.n := by omega
        go_wp2_with fail
        refine (vNumber y _).mono ?_
        rintro e W0 ⟨rfl, hb⟩
        replace HB := Lib.hid (bt hb HB.out)
        clear hb na me x0 x1
        go_wp2
        go_roundw
        case rel =>
          refine ⟨a, m, rfl, rfl, hm1, by omega, Q1.out, fun j h h1 => ?_, HB.out⟩
          have h3 := HV.out.le j m h h1
          rw [HY.out] at hcm'
          exact Int.le_trans hcm' h3
        case measure => simp [intOf]; omega
    · obtain rfl : a = b := by omega
      obtain rfl : a = i := find_end (n := x.n) HV.out hi (by rw [← HX0.out]) Q1.out Q2.out
      have k1 : (0 : Int) ≤ (a : Int) := by omega
      have k2 : (a : Int) < (l.length : Int) := by omega
      obtain ⟨bb, oo, rfl, hbb, x0, x1⟩ := rdV_at (HAU.out.next HB.out) (i := a) (by omega)
      obtain ⟨y, hy⟩ : ∃ y, y = l[a] := ⟨_, rfl⟩
      rw [← hy] at x0 x1
      have HY := Lib.hid hy
      have na := na_v y
      have me := me_v y
      clear hy
      obtain rfl : y = x := by rw [HY.out, HX0.out]
      have K9 := Lib.hid (K.out.next HB.out)
      obtain ⟨c0, c1⟩ := box2 K9.out
      have lk := K9.out.lt
      have f0 := K9.out.frozen 0
      have f1 := K9.out.frozen 1
      go_wp2_with fail
      clear c0 c1 lk f0 f1
      refine (vNumber y _).mono ?_
      rintro e W0 ⟨rfl, hb⟩
      replace K9 := Lib.hid (K9.out.next hb)
      have HB9 := Lib.hid (bt (bt hb HB.out) HBU.out)
      replace x0 := (hb.cell (p := ⟨bb, oo + a * 2, none⟩) hbb).trans x0
      replace x1 := (hb.cell (p := ⟨bb, oo + a * 2 + 1, none⟩) hbb).trans x1
      have hbb2 := Nat.lt_of_lt_of_le hbb hb.size
      clear hb na me
      obtain ⟨c0, c1⟩ := box2 K9.out
      have lk := K9.out.lt
      have f0 := K9.out.frozen 0
      have f1 := K9.out.frozen 1
      have hws : w.heap.size ≠ bb := by
        intro e
        subst e
        have := HA.out.2 (by omega)
        obtain ⟨b8, o8, e8, l8, _⟩ := this
        have : w.heap.size = b8 := by simpa using congrArg (Option.map Addr.block) e8
        omega
      go_wp2
      exact bodyPost_ret (v := .tuple #[.agg #[.int .i64 y.n, .int .i64 y.e], .bool true]) (by simp [results, Try.results44, go_sem, c0, c1]) rfl ⟨rfl, ((HB9.out).setCell (p := ⟨w.heap.size, 0, none⟩) (Nat.le_refl _) _).setCell (p := ⟨w.heap.size, 1, none⟩) (Nat.le_refl _) _⟩
set_option maxHeartbeats 1000000 in
theorem find_v_no (l : List Vd) (number : Int) (A : Option Addr) (c : Nat) (w : World) (h : VOk l) (hA : RdV w w.heap.size A l) (hno : ∀ j (h : j < l.length), Vd.n l[j] ≠ number) :
    Calls Try.prog 44 #[.slice A l.length c, .int .i64 number] w fun e w' => e = .returned (.tuple #[.agg #[.int .i64 0, .int .i64 0], .bool false]) ∧ Below w.heap.size w w' := by
  have HA := Lib.hid hA
  have HV := Lib.hid h
  have h64 := h.len
  have HN := Lib.hid hno
  clear hA h hno
  go_enter Try.func44, Try.ntmps44
  go_wp2
  obtain ⟨U, hU⟩ : ∃ Zz, Zz = w.alloc (.cells #[.int .i64 0, .int .i64 0] 60) := ⟨_, rfl⟩
  have hbU : Below w.heap.size w U := by rw [hU]; exact al1 _ _
  have kx : Bk U w.heap.size 60 #[.int .i64 0, .int .i64 0] := by rw [hU]; exact Bk.new _ _ _
  rw [← hU]
  clear hU
  have K := Lib.hid kx
  have HBU := Lib.hid hbU
  have HAU := Lib.hid (HA.out.next hbU)
  clear kx hbU
  go_loopw [6, 7] (fun lo hi wr => ∃ a b : Nat, lo = .int .i64 (a : Int) ∧ hi = .int .i64 (b : Int) ∧ a ≤ b ∧ b ≤ l.length ∧ (∀ j (h : j < l.length), j < a → Vd.n l[j] < number) ∧ (∀ j (h : j < l.length), b ≤ j → number ≤ Vd.n l[j]) ∧ Below U.heap.size U wr) (fun lo hi _ => (intOf hi).toNat - (intOf lo).toNat)
  case atStart => exact ⟨0, l.length, rfl, rfl, Nat.zero_le _, Nat.le_refl _, fun j h h1 => by omega, fun j h h1 => by omega, Below.refl _ _⟩
  case round =>
    obtain ⟨a, b, rfl, rfl, hab, hbl, q1, q2, hb⟩ := hrel
    have Q1 := Lib.hid q1
    have Q2 := Lib.hid q2
    have HB := Lib.hid hb
    clear q1 q2 hb
    by_cases hlt : a < b
    · obtain ⟨m, hm⟩ : ∃ m, m = a + (b - a) / 2 := ⟨_, rfl⟩
      have hm1 : a ≤ m := by omega
      have hm2 : m < b := by omega
      have hml : m < l.length := by omega
      have k0 : (0 : Int) ≤ (a : Int) := by omega
      have k3 : (a : Int) < (b : Int) := by omega
      have k4 : (b : Int) ≤ 64 := by omega
      have k1 : (0 : Int) ≤ (m : Int) := by omega
      have k2 : (m : Int) < (l.length : Int) := by omega
      have hmm : (a : Int) + ((b : Int) - (a : Int)) / 2 = (m : Int) := by omega
      clear hm
      obtain ⟨bb, oo, rfl, hbb, x0, x1⟩ := rdV_at (HAU.out.next HB.out) (i := m) (by omega)
      obtain ⟨y, hy⟩ : ∃ y, y = l[m] := ⟨_, rfl⟩
      rw [← hy] at x0 x1
      have HY := Lib.hid hy
      have na := na_v y
      have me := me_v y
      clear hy
      by_cases hcm : y.n < number
      · go_wp2_with fail
        refine (vNumber y _).mono ?_
        rintro e W0 ⟨rfl, hb⟩
        replace HB := Lib.hid (bt hb HB.out)
        clear hb na me x0 x1
        go_wp2
        go_roundw
        case rel =>
          refine ⟨m + 1, b, by go_num, rfl, by omega, hbl, fun j h h1 => ?_, Q2.out, HB.out⟩
          have h3 := HV.out.le m j hml (by omega)
          rw [HY.out] at hcm
          exact Int.lt_of_le_of_lt h3 hcm
        case measure => simp [intOf]; omega
      · have hcm' : number ≤ y.n := by omega
        go_wp2_with fail
        refine (vNumber y _).mono ?_
        rintro e W0 ⟨rfl, hb⟩
        replace HB := Lib.hid (bt hb HB.out)
        clear hb na me x0 x1
        go_wp2
        go_roundw
        case rel =>
          refine ⟨a, m, rfl, rfl, hm1, by omega, Q1.out, fun j h h1 => ?_, HB.out⟩
          have h3 := HV.out.le j m h h1
          rw [HY.out] at hcm'
          exact Int.le_trans hcm' h3
        case measure => simp [intOf]; omega
    · obtain rfl : a = b := by omega
      have K9 := Lib.hid (K.out.next HB.out)
      by_cases hal : a < l.length
      · have k1 : (0 : Int) ≤ (a : Int) := by omega
        have k2 : (a : Int) < (l.length : Int) := by omega
        obtain ⟨bb, oo, rfl, hbb, x0, x1⟩ := rdV_at (HAU.out.next HB.out) (i := a) (by omega)
        obtain ⟨y, hy⟩ : ∃ y, y = l[a] := ⟨_, rfl⟩
        rw [← hy] at x0 x1
        have HY := Lib.hid hy
        have na := na_v y
        have me := me_v y
        clear hy
        have hxn : (y.n == number) = false := by rw [beq_eq_false_iff_ne, HY.out]; exact HN.out a hal
        obtain ⟨c0, c1⟩ := box2 K9.out
        have lk := K9.out.lt
        have f0 := K9.out.frozen 0
        have f1 := K9.out.frozen 1
        go_wp2_with fail
        clear c0 c1 lk f0 f1
        refine (vNumber y _).mono ?_
        rintro e W0 ⟨rfl, hb⟩
        replace K9 := Lib.hid (K9.out.next hb)
        have HB9 := Lib.hid (bt (bt hb HB.out) HBU.out)
        clear hb na me x0 x1
        obtain ⟨c0, c1⟩ := box2 K9.out
        have lk := K9.out.lt
        have f0 := K9.out.frozen 0
        have f1 := K9.out.frozen 1
        have hsz : w.heap.size ≤ W0.heap.size := HB9.out.size
        go_wp2
        obtain ⟨X, hX⟩ : ∃ Zz, Zz = ((W0.setCell ⟨w.heap.size, 0, none⟩ (.int .i64 0)).setCell ⟨w.heap.size, 1, none⟩ (.int .i64 0)).alloc (.cells #[.int .i64 0, .int .i64 0] 60) := ⟨_, rfl⟩
        have kX : Bk X w.heap.size 60 #[.int .i64 0, .int .i64 0] := by rw [hX]; exact (by simpa using ((K9.out.set 0 (.int .i64 0)).set 1 (.int .i64 0)).alloc _)
        have hbX : Below w.heap.size w X := by rw [hX]; exact (((((HB9.out).setCell (p := ⟨w.heap.size, 0, none⟩) (Nat.le_refl _) _)).setCell (p := ⟨w.heap.size, 1, none⟩) (Nat.le_refl _) _).alloc (by simp [World.setCell]; exact hsz) _)
        rw [← hX]
        clear hX
        obtain ⟨u0, u1⟩ := box2 kX
        exact bodyPost_ret (v := .tuple #[.agg #[.int .i64 0, .int .i64 0], .bool false]) (by simp [results, Try.results44, go_sem, u0, u1]) rfl ⟨rfl, hbX⟩
      · have hge : ¬ (a : Int) < (l.length : Int) := by omega
        have hge' : decide (a < l.length) = false := decide_eq_false hal
        have HB9 := Lib.hid (bt HB.out HBU.out)
        obtain ⟨c0, c1⟩ := box2 K9.out
        have lk := K9.out.lt
        have f0 := K9.out.frozen 0
        have f1 := K9.out.frozen 1
        have hsz : w.heap.size ≤ wr.heap.size := HB9.out.size
        go_wp2
        obtain ⟨X, hX⟩ : ∃ Zz, Zz = ((wr.setCell ⟨w.heap.size, 0, none⟩ (.int .i64 0)).setCell ⟨w.heap.size, 1, none⟩ (.int .i64 0)).alloc (.cells #[.int .i64 0, .int .i64 0] 60) := ⟨_, rfl⟩
        have kX : Bk X w.heap.size 60 #[.int .i64 0, .int .i64 0] := by rw [hX]; exact (by simpa using ((K9.out.set 0 (.int .i64 0)).set 1 (.int .i64 0)).alloc _)
        have hbX : Below w.heap.size w X := by rw [hX]; exact (((((HB9.out).setCell (p := ⟨w.heap.size, 0, none⟩) (Nat.le_refl _) _)).setCell (p := ⟨w.heap.size, 1, none⟩) (Nat.le_refl _) _).alloc (by simp [World.setCell]; exact hsz) _)
        rw [← hX]
        clear hX
        obtain ⟨u0, u1⟩ := box2 kX
        exact bodyPost_ret (v := .tuple #[.agg #[.int .i64 0, .int .i64 0], .bool false]) (by simp [results, Try.results44, go_sem, u0, u1]) rfl ⟨rfl, hbX⟩
set_option maxHeartbeats 1000000 in
theorem find_c_yes (l : List Cd) (number : Int) (A : Option Addr) (c : Nat) (w : World) (h : COk l) (hA : RdC w w.heap.size A l) (i : Nat) (hi : i < l.length) (hn : Cd.n l[i] = number) :
    Calls Try.prog 22 #[.slice A l.length c, .int .i64 number] w fun e w' => e = .returned (.tuple #[.agg #[.int .i64 l[i].n, .int .i64 l[i].k, .int .i64 l[i].f, .int .i64 l[i].l], .bool true]) ∧ Below w.heap.size w w' := by
  have HA := Lib.hid hA
  have HV := Lib.hid h
  have h64 := h.len
  obtain ⟨x, hx⟩ : ∃ x, x = l[i] := ⟨_, rfl⟩
  rw [← hx] at hn ⊢
  subst hn
  have HX0 := Lib.hid hx
  clear hA h hx
  go_enter Try.func22, Try.ntmps22
  go_wp2
  obtain ⟨U, hU⟩ : ∃ Zz, Zz = w.alloc (.cells #[.int .i64 0, .int .i64 0, .int .i64 0, .int .i64 0] 58) := ⟨_, rfl⟩
  have hbU : Below w.heap.size w U := by rw [hU]; exact al1 _ _
  have kx : Bk U w.heap.size 58 #[.int .i64 0, .int .i64 0, .int .i64 0, .int .i64 0] := by rw [hU]; exact Bk.new _ _ _
  rw [← hU]
  clear hU
  have K := Lib.hid kx
  have HBU := Lib.hid hbU
  have HAU := Lib.hid (HA.out.next hbU)
  clear kx hbU
  go_loopw [6, 7] (fun lo hi wr => ∃ a b : Nat, lo = .int .i64 (a : Int) ∧ hi = .int .i64 (b : Int) ∧ a ≤ b ∧ b ≤ l.length ∧ (∀ j (h : j < l.length), j < a → Cd.n l[j] < x.n) ∧ (∀ j (h : j < l.length), b ≤ j → x.n ≤ Cd.n l[j]) ∧ Below U.heap.size U wr) (fun lo hi _ => (intOf hi).toNat - (intOf lo).toNat)
  case atStart => exact ⟨0, l.length, rfl, rfl, Nat.zero_le _, Nat.le_refl _, fun j h h1 => by omega, fun j h h1 => by omega, Below.refl _ _⟩
  case round =>
    obtain ⟨a, b, rfl, rfl, hab, hbl, q1, q2, hb⟩ := hrel
    have Q1 := Lib.hid q1
    have Q2 := Lib.hid q2
    have HB := Lib.hid hb
    clear q1 q2 hb
    by_cases hlt : a < b
    · obtain ⟨m, hm⟩ : ∃ m, m = a + (b - a) / 2 := ⟨_, rfl⟩
      have hm1 : a ≤ m := by omega
      have hm2 : m < b := by omega
      have hml : m < l.length := by omega
      have k0 : (0 : Int) ≤ (a : Int) := by omega
      have k3 : (a : Int) < (b : Int) := by omega
      have k4 : (b : Int) ≤ 64 := by omega
      have k1 : (0 : Int) ≤ (m : Int) := by omega
      have k2 : (m : Int) < (l.length : Int) := by omega
      have hmm : (a : Int) + ((b : Int) - (a : Int)) / 2 = (m : Int) := by omega
      clear hm
      obtain ⟨bb, oo, rfl, hbb, x0, x1, x2, x3⟩ := rdC_at (HAU.out.next HB.out) (i := m) (by omega)
      obtain ⟨y, hy⟩ : ∃ y, y = l[m] := ⟨_, rfl⟩
      rw [← hy] at x0 x1 x2 x3
      have HY := Lib.hid hy
      have na := na_c y
      have me := me_c y
      clear hy
      by_cases hcm : y.n < x.n
      · go_wp2_with fail
        refine (cNumber y _).mono ?_
        rintro e W0 ⟨rfl, hb⟩
        replace HB := Lib.hid (bt hb HB.out)
        clear hb na me x0 x1 x2 x3
        go_wp2
        go_roundw
        case rel =>
          refine ⟨m + 1, b, by go_num, rfl, by omega, hbl, fun j h h1 => ?_, Q2.out, HB.out⟩
          have h3 := HV.out.le m j hml (by omega)
          rw [HY.out] at hcm
          exact Int.lt_of_le_of_lt h3 hcm
        case measure => simp [intOf]; omega
      · have hcm' : x.n ≤ y.n := by omega
        go_wp2_with fail
        refine (cNumber y _).mono ?_
        rintro e W0 ⟨rfl, hb⟩
        replace HB := Lib.hid (bt hb HB.out)
        clear hb na me x0 x1 x2 x3
        go_wp2
        go_roundw
        case rel =>
          refine ⟨a, m, rfl, rfl, hm1, by omega, Q1.out, fun j h h1 => ?_, HB.out⟩
          have h3 := HV.out.le j m h h1
          rw [HY.out] at hcm'
          exact Int.le_trans hcm' h3
        case measure => simp [intOf]; omega
    · obtain rfl : a = b := by omega
      obtain rfl : a = i := find_end (n := x.n) HV.out hi (by rw [← HX0.out]) Q1.out Q2.out
      have k1 : (0 : Int) ≤ (a : Int) := by omega
      have k2 : (a : Int) < (l.length : Int) := by omega
      obtain ⟨bb, oo, rfl, hbb, x0, x1, x2, x3⟩ := rdC_at (HAU.out.next HB.out) (i := a) (by omega)
      obtain ⟨y, hy⟩ : ∃ y, y = l[a] := ⟨_, rfl⟩
      rw [← hy] at x0 x1 x2 x3
      have HY := Lib.hid hy
      have na := na_c y
      have me := me_c y
      clear hy
      obtain rfl : y = x := by rw [HY.out, HX0.out]
      have K9 := Lib.hid (K.out.next HB.out)
      obtain ⟨c0, c1, c2, c3⟩ := box4 K9.out
      have lk := K9.out.lt
      have f0 := K9.out.frozen 0
      have f1 := K9.out.frozen 1
      have f2 := K9.out.frozen 2
      have f3 := K9.out.frozen 3
      go_wp2_with fail
      clear c0 c1 c2 c3 lk f0 f1 f2 f3
      refine (cNumber y _).mono ?_
      rintro e W0 ⟨rfl, hb⟩
      replace K9 := Lib.hid (K9.out.next hb)
      have HB9 := Lib.hid (bt (bt hb HB.out) HBU.out)
      replace x0 := (hb.cell (p := ⟨bb, oo + a * 4, none⟩) hbb).trans x0
      replace x1 := (hb.cell (p := ⟨bb, oo + a * 4 + 1, none⟩) hbb).trans x1
      replace x2 := (hb.cell (p := ⟨bb, oo + a * 4 + 2, none⟩) hbb).trans x2
      replace x3 := (hb.cell (p := ⟨bb, oo + a * 4 + 3, none⟩) hbb).trans x3
      have hbb2 := Nat.lt_of_lt_of_le hbb hb.size
      clear hb na me
      obtain ⟨c0, c1, c2, c3⟩ := box4 K9.out
      have lk := K9.out.lt
      have f0 := K9.out.frozen 0
      have f1 := K9.out.frozen 1
      have f2 := K9.out.frozen 2
      have f3 := K9.out.frozen 3
      have hws : w.heap.size ≠ bb := by
        intro e
        subst e
        have := HA.out.2 (by omega)
        obtain ⟨b8, o8, e8, l8, _⟩ := this
        have : w.heap.size = b8 := by simpa using congrArg (Option.map Addr.block) e8
        omega
      go_wp2
      exact bodyPost_ret (v := .tuple #[.agg #[.int .i64 y.n, .int .i64 y.k, .int .i64 y.f, .int .i64 y.l], .bool true]) (by simp [results, Try.results22, go_sem, c0, c1, c2, c3]) rfl ⟨rfl, ((((HB9.out).setCell (p := ⟨w.heap.size, 0, none⟩) (Nat.le_refl _) _).setCell (p := ⟨w.heap.size, 1, none⟩) (Nat.le_refl _) _).setCell (p := ⟨w.heap.size, 2, none⟩) (Nat.le_refl _) _).setCell (p := ⟨w.heap.size, 3, none⟩) (Nat.le_refl _) _⟩
set_option maxHeartbeats 1000000 in
theorem find_c_no (l : List Cd) (number : Int) (A : Option Addr) (c : Nat) (w : World) (h : COk l) (hA : RdC w w.heap.size A l) (hno : ∀ j (h : j < l.length), Cd.n l[j] ≠ number) :
    Calls Try.prog 22 #[.slice A l.length c, .int .i64 number] w fun e w' => e = .returned (.tuple #[.agg #[.int .i64 0, .int .i64 0, .int .i64 0, .int .i64 0], .bool false]) ∧ Below w.heap.size w w' := by
  have HA := Lib.hid hA
  have HV := Lib.hid h
  have h64 := h.len
  have HN := Lib.hid hno
  clear hA h hno
  go_enter Try.func22, Try.ntmps22
  go_wp2
  obtain ⟨U, hU⟩ : ∃ Zz, Zz = w.alloc (.cells #[.int .i64 0, .int .i64 0, .int .i64 0, .int .i64 0] 58) := ⟨_, rfl⟩
  have hbU : Below w.heap.size w U := by rw [hU]; exact al1 _ _
  have kx : Bk U w.heap.size 58 #[.int .i64 0, .int .i64 0, .int .i64 0, .int .i64 0] := by rw [hU]; exact Bk.new _ _ _
  rw [← hU]
  clear hU
  have K := Lib.hid kx
  have HBU := Lib.hid hbU
  have HAU := Lib.hid (HA.out.next hbU)
  clear kx hbU
  go_loopw [6, 7] (fun lo hi wr => ∃ a b : Nat, lo = .int .i64 (a : Int) ∧ hi = .int .i64 (b : Int) ∧ a ≤ b ∧ b ≤ l.length ∧ (∀ j (h : j < l.length), j < a → Cd.n l[j] < number) ∧ (∀ j (h : j < l.length), b ≤ j → number ≤ Cd.n l[j]) ∧ Below U.heap.size U wr) (fun lo hi _ => (intOf hi).toNat - (intOf lo).toNat)
  case atStart => exact ⟨0, l.length, rfl, rfl, Nat.zero_le _, Nat.le_refl _, fun j h h1 => by omega, fun j h h1 => by omega, Below.refl _ _⟩
  case round =>
    obtain ⟨a, b, rfl, rfl, hab, hbl, q1, q2, hb⟩ := hrel
    have Q1 := Lib.hid q1
    have Q2 := Lib.hid q2
    have HB := Lib.hid hb
    clear q1 q2 hb
    by_cases hlt : a < b
    · obtain ⟨m, hm⟩ : ∃ m, m = a + (b - a) / 2 := ⟨_, rfl⟩
      have hm1 : a ≤ m := by omega
      have hm2 : m < b := by omega
      have hml : m < l.length := by omega
      have k0 : (0 : Int) ≤ (a : Int) := by omega
      have k3 : (a : Int) < (b : Int) := by omega
      have k4 : (b : Int) ≤ 64 := by omega
      have k1 : (0 : Int) ≤ (m : Int) := by omega
      have k2 : (m : Int) < (l.length : Int) := by omega
      have hmm : (a : Int) + ((b : Int) - (a : Int)) / 2 = (m : Int) := by omega
      clear hm
      obtain ⟨bb, oo, rfl, hbb, x0, x1, x2, x3⟩ := rdC_at (HAU.out.next HB.out) (i := m) (by omega)
      obtain ⟨y, hy⟩ : ∃ y, y = l[m] := ⟨_, rfl⟩
      rw [← hy] at x0 x1 x2 x3
      have HY := Lib.hid hy
      have na := na_c y
      have me := me_c y
      clear hy
      by_cases hcm : y.n < number
      · go_wp2_with fail
        refine (cNumber y _).mono ?_
        rintro e W0 ⟨rfl, hb⟩
        replace HB := Lib.hid (bt hb HB.out)
        clear hb na me x0 x1 x2 x3
        go_wp2
        go_roundw
        case rel =>
          refine ⟨m + 1, b, by go_num, rfl, by omega, hbl, fun j h h1 => ?_, Q2.out, HB.out⟩
          have h3 := HV.out.le m j hml (by omega)
          rw [HY.out] at hcm
          exact Int.lt_of_le_of_lt h3 hcm
        case measure => simp [intOf]; omega
      · have hcm' : number ≤ y.n := by omega
        go_wp2_with fail
        refine (cNumber y _).mono ?_
        rintro e W0 ⟨rfl, hb⟩
        replace HB := Lib.hid (bt hb HB.out)
        clear hb na me x0 x1 x2 x3
        go_wp2
        go_roundw
        case rel =>
          refine ⟨a, m, rfl, rfl, hm1, by omega, Q1.out, fun j h h1 => ?_, HB.out⟩
          have h3 := HV.out.le j m h h1
          rw [HY.out] at hcm'
          exact Int.le_trans hcm' h3
        case measure => simp [intOf]; omega
    · obtain rfl : a = b := by omega
      have K9 := Lib.hid (K.out.next HB.out)
      by_cases hal : a < l.length
      · have k1 : (0 : Int) ≤ (a : Int) := by omega
        have k2 : (a : Int) < (l.length : Int) := by omega
        obtain ⟨bb, oo, rfl, hbb, x0, x1, x2, x3⟩ := rdC_at (HAU.out.next HB.out) (i := a) (by omega)
        obtain ⟨y, hy⟩ : ∃ y, y = l[a] := ⟨_, rfl⟩
        rw [← hy] at x0 x1 x2 x3
        have HY := Lib.hid hy
        have na := na_c y
        have me := me_c y
        clear hy
        have hxn : (y.n == number) = false := by rw [beq_eq_false_iff_ne, HY.out]; exact HN.out a hal
        obtain ⟨c0, c1, c2, c3⟩ := box4 K9.out
        have lk := K9.out.lt
        have f0 := K9.out.frozen 0
        have f1 := K9.out.frozen 1
        have f2 := K9.out.frozen 2
        have f3 := K9.out.frozen 3
        go_wp2_with fail
        clear c0 c1 c2 c3 lk f0 f1 f2 f3
        refine (cNumber y _).mono ?_
        rintro e W0 ⟨rfl, hb⟩
        replace K9 := Lib.hid (K9.out.next hb)
        have HB9 := Lib.hid (bt (bt hb HB.out) HBU.out)
        clear hb na me x0 x1 x2 x3
        obtain ⟨c0, c1, c2, c3⟩ := box4 K9.out
        have lk := K9.out.lt
        have f0 := K9.out.frozen 0
        have f1 := K9.out.frozen 1
        have f2 := K9.out.frozen 2
        have f3 := K9.out.frozen 3
        have hsz : w.heap.size ≤ W0.heap.size := HB9.out.size
        go_wp2
        obtain ⟨X, hX⟩ : ∃ Zz, Zz = ((((W0.setCell ⟨w.heap.size, 0, none⟩ (.int .i64 0)).setCell ⟨w.heap.size, 1, none⟩ (.int .i64 0)).setCell ⟨w.heap.size, 2, none⟩ (.int .i64 0)).setCell ⟨w.heap.size, 3, none⟩ (.int .i64 0)).alloc (.cells #[.int .i64 0, .int .i64 0, .int .i64 0, .int .i64 0] 58) := ⟨_, rfl⟩
        have kX : Bk X w.heap.size 58 #[.int .i64 0, .int .i64 0, .int .i64 0, .int .i64 0] := by rw [hX]; exact (by simpa using ((((K9.out.set 0 (.int .i64 0)).set 1 (.int .i64 0)).set 2 (.int .i64 0)).set 3 (.int .i64 0)).alloc _)
        have hbX : Below w.heap.size w X := by rw [hX]; exact (((((((((HB9.out).setCell (p := ⟨w.heap.size, 0, none⟩) (Nat.le_refl _) _)).setCell (p := ⟨w.heap.size, 1, none⟩) (Nat.le_refl _) _)).setCell (p := ⟨w.heap.size, 2, none⟩) (Nat.le_refl _) _)).setCell (p := ⟨w.heap.size, 3, none⟩) (Nat.le_refl _) _).alloc (by simp [World.setCell]; exact hsz) _)
        rw [← hX]
        clear hX
        obtain ⟨u0, u1, u2, u3⟩ := box4 kX
        exact bodyPost_ret (v := .tuple #[.agg #[.int .i64 0, .int .i64 0, .int .i64 0, .int .i64 0], .bool false]) (by simp [results, Try.results22, go_sem, u0, u1, u2, u3]) rfl ⟨rfl, hbX⟩
      · have hge : ¬ (a : Int) < (l.length : Int) := by omega
        have hge' : decide (a < l.length) = false := decide_eq_false hal
        have HB9 := Lib.hid (bt HB.out HBU.out)
        obtain ⟨c0, c1, c2, c3⟩ := box4 K9.out
        have lk := K9.out.lt
        have f0 := K9.out.frozen 0
        have f1 := K9.out.frozen 1
        have f2 := K9.out.frozen 2
        have f3 := K9.out.frozen 3
        have hsz : w.heap.size ≤ wr.heap.size := HB9.out.size
        go_wp2
        obtain ⟨X, hX⟩ : ∃ Zz, Zz = ((((wr.setCell ⟨w.heap.size, 0, none⟩ (.int .i64 0)).setCell ⟨w.heap.size, 1, none⟩ (.int .i64 0)).setCell ⟨w.heap.size, 2, none⟩ (.int .i64 0)).setCell ⟨w.heap.size, 3, none⟩ (.int .i64 0)).alloc (.cells #[.int .i64 0, .int .i64 0, .int .i64 0, .int .i64 0] 58) := ⟨_, rfl⟩
        have kX : Bk X w.heap.size 58 #[.int .i64 0, .int .i64 0, .int .i64 0, .int .i64 0] := by rw [hX]; exact (by simpa using ((((K9.out.set 0 (.int .i64 0)).set 1 (.int .i64 0)).set 2 (.int .i64 0)).set 3 (.int .i64 0)).alloc _)
        have hbX : Below w.heap.size w X := by rw [hX]; exact (((((((((HB9.out).setCell (p := ⟨w.heap.size, 0, none⟩) (Nat.le_refl _) _)).setCell (p := ⟨w.heap.size, 1, none⟩) (Nat.le_refl _) _)).setCell (p := ⟨w.heap.size, 2, none⟩) (Nat.le_refl _) _)).setCell (p := ⟨w.heap.size, 3, none⟩) (Nat.le_refl _) _).alloc (by simp [World.setCell]; exact hsz) _)
        rw [← hX]
        clear hX
        obtain ⟨u0, u1, u2, u3⟩ := box4 kX
        exact bodyPost_ret (v := .tuple #[.agg #[.int .i64 0, .int .i64 0, .int .i64 0, .int .i64 0], .bool false]) (by simp [results, Try.results22, go_sem, u0, u1, u2, u3]) rfl ⟨rfl, hbX⟩
set_option maxHeartbeats 1000000 in
theorem revoked_lit (b : Bool) (l : List Vd) (number epoch : Int) (A : Option Addr) (c : Nat) (w : World) (hb : rvB l number epoch = b) (h : VOk l) (hA : RdV w w.heap.size A l) :
    Calls Try.prog 24 #[.slice A l.length c, .int .i64 number, .int .i64 epoch] w fun e w' => e = .returned (.bool b) ∧ Below w.heap.size w w' := by
  by_cases hf : ∃ i, ∃ (hi : i < l.length), l[i].n = number
  · obtain ⟨i, hi, hn⟩ := hf
    rw [rv_at h hi hn] at hb
    have HA := Lib.hid hA
    have HV := Lib.hid h
    have HN := Lib.hid hn
    obtain ⟨y, hy⟩ : ∃ y, y = l[i] := ⟨_, rfl⟩
    rw [← hy] at hb
    have HY := Lib.hid hy
    clear hA h hn hy
    by_cases hq : y.e ≤ epoch
    · rw [decide_eq_true hq] at hb
      subst hb
      go_enter Try.func24, Try.ntmps24
      go_wp2_with fail
      refine (find_v_yes l number A c _ HV.out HA.out i hi HN.out).mono ?_
      rintro e W0 ⟨rfl, hb⟩
      have HB := Lib.hid hb
      rw [← HY.out]
      clear hb
      go_wp2
      go_ret
      exact ⟨rfl, bt (al1 _ _) HB.out⟩
    · rw [decide_eq_false hq] at hb
      subst hb
      have hqd : decide (y.e ≤ epoch) = false := decide_eq_false hq
      go_enter Try.func24, Try.ntmps24
      go_wp2_with fail
      refine (find_v_yes l number A c _ HV.out HA.out i hi HN.out).mono ?_
      rintro e W0 ⟨rfl, hb⟩
      have HB := Lib.hid hb
      rw [← HY.out]
      clear hb
      go_wp2
      go_ret
      exact ⟨rfl, bt (al1 _ _) HB.out⟩
  · have hno : ∀ j (h : j < l.length), l[j].n ≠ number := fun j h e => hf ⟨j, h, e⟩
    rw [rv_none hno] at hb
    subst hb
    have HA := Lib.hid hA
    have HV := Lib.hid h
    have HN := Lib.hid hno
    clear hA h hno hf
    go_enter Try.func24, Try.ntmps24
    go_wp2_with fail
    refine (find_v_no l number A c _ HV.out HA.out HN.out).mono ?_
    rintro e W0 ⟨rfl, hb⟩
    have HB := Lib.hid hb
    clear hb
    go_wp2
    go_ret
    exact ⟨rfl, bt (al1 _ _) HB.out⟩
end Go.Proofs.Ythihhmlgpokomaa
