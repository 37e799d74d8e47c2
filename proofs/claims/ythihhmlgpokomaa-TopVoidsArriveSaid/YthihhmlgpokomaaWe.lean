/- cards: mapped, cardsOf, voidsOf: a new list with the same elements. -/
import Derived.Test.YthihhmlgpokomaaWc
import Derived.Laws.MakeOwn
set_option maxRecDepth 100000
set_option linter.unusedVariables false
set_option linter.unusedSimpArgs false
namespace Go.Proofs.Ythihhmlgpokomaa
open Go.RowKit

theorem own_zero {W : World} {g base n sz : Nat} {e : TypeId} {cs : Array Value} (h : Bk W g e cs) (hb : base ≤ g) (hs : cs.size = n * sz) (hn : n ≤ 1000000) : W.ownsRow base e sz (.slice (some ⟨g, 0, none⟩) 0 n) 0 [] :=
  ⟨by simp, .inr ⟨g, n, cs, rfl, hb, h, by omega, by simp only [maxLen]; omega, hs, by simp⟩⟩
theorem news2 (W : World) (t : TypeId) (a b : Value) : ∀ j u, [a, b][j]? = some u → (W.alloc (.cells #[a, b] t)).cell? ((⟨W.heap.size, 0, none⟩ : Addr).add j) = some u := news_at W t [a, b]
theorem news4 (W : World) (t : TypeId) (a b c d : Value) : ∀ j u, [a, b, c, d][j]? = some u → (W.alloc (.cells #[a, b, c, d] t)).cell? ((⟨W.heap.size, 0, none⟩ : Addr).add j) = some u := news_at W t [a, b, c, d]
theorem info_tv : (Try.prog.info? 60).map (fun i => (i.zero, i.size, i.bytes)) = some (some (.agg #[.int .i64 0, .int .i64 0]), 2, 16) := by kernel_rfl
theorem make_tv (n : Nat) (hn : n ≤ 1000000) (w : World) : ∃ cs : Array Value, cs.size = n * 2 ∧
    (Instr.makeSlice 55 (.int .i64 0) (.int .i64 (n : Int))).run Try.prog w = .ok (.slice (some ⟨w.heap.size, 0, none⟩) 0 n) (w.alloc (.cells cs 60)) := by
  obtain ⟨i0, hi, hz0, hz1, hz2⟩ := info_parts info_tv
  have hr := run_make (P := Try.prog) w 55 60 i0 _ Try.underlying55 hi hz0 .i64 .i64 0 n (by omega) (by omega) (by rw [hz2]; omega) (by omega)
  rw [hz1] at hr
  exact ⟨_, by rw [size_madeCells, Int.toNat_natCast], hr⟩
set_option maxHeartbeats 1000000 in
theorem mapped_tv (l : List Vd) (A : Option Addr) (c : Nat) (w : World) (hn : l.length ≤ 1000) (hA : RdV w w.heap.size A l) :
    Calls Try.prog 42 #[.slice A l.length c, .func (.func 43) #[] #[]] w fun e w' => ∃ A' c', e = .returned (.slice A' l.length c') ∧ l.length ≤ c' ∧ RdV w' w'.heap.size A' l ∧ Below w.heap.size w w' := by
  obtain ⟨i0, hi, hz0, hz1, hz2⟩ := info_parts info_tv
  have HA := Lib.hid hA
  obtain ⟨cs, hcs, hmk⟩ := make_tv l.length (by omega) w
  have HCS := Lib.hid hcs
  clear hA hcs
  go_enter Try.func42, Try.ntmps42
  go_wp2
  obtain ⟨U, hU⟩ : ∃ Zz, Zz = w.alloc (.cells cs 60) := ⟨_, rfl⟩
  have hbU : Below w.heap.size w U := by rw [hU]; exact al1 _ _
  have kx : Bk U w.heap.size 60 cs := by rw [hU]; exact Bk.new _ _ _
  rw [← hU]
  clear hU
  have HO0 := Lib.hid (own_zero (base := w.heap.size) (sz := 2) kx (Nat.le_refl _) HCS.out (by omega))
  have HBU := Lib.hid hbU
  clear hbU kx hmk
  go_loopw [5, 13] (fun v i wr => ∃ k : Nat, i = .int .i64 (k : Int) ∧ k ≤ l.length ∧ wr.ownsRow w.heap.size 60 2 v k (encs vdE (l.take k)) ∧ Below w.heap.size w wr) (fun _ i _ => l.length - (intOf i).toNat)
  case atStart => exact ⟨0, rfl, Nat.zero_le _, HO0.out, HBU.out⟩
  case round =>
    obtain ⟨k, rfl, hk, ho, hb⟩ := hrel
    have HO := Lib.hid ho
    have HB := Lib.hid hb
    have hbase := hb.size
    clear ho hb
    by_cases hlt : k < l.length
    · obtain ⟨b, o, rfl, hbb, x0, x1⟩ := rdV_at (HA.out.next HB.out) hlt
      obtain ⟨x, hx⟩ : ∃ x, x = l[k] := ⟨_, rfl⟩
      rw [← hx] at x0 x1
      have HX := Lib.hid hx
      have k1 : (0 : Int) ≤ (k : Int) := by omega
      have k2 : (k : Int) < (l.length : Int) := by omega
      clear hx
      go_wp2_with fail
      obtain ⟨V, hV⟩ : ∃ Zz, Zz = wr.alloc (.cells #[.int .i64 x.n, .int .i64 x.e] 42) := ⟨_, rfl⟩
      have hbV : Below wr.heap.size wr V := by rw [hV]; exact al1 _ _
      rw [← hV]
      clear hV
      refine (toVoid x _).mono ?_
      rintro e W0 ⟨rfl, hb⟩
      have HB0 := Lib.hid (bt hb (bt hbV HB.out))
      have hbase0 := HB0.out.size
      have HO0' := Lib.hid (own_on HO.out (bt hb hbV))
      clear hb hbV x0 x1
      go_wp2_with (at_builtin; refine wpList_append_own _ rfl _ _ 55 rfl w.heap.size 60 i0 (.agg #[.int .i64 0, .int .i64 0]) 2 16 Try.underlying55 hi hz0 hz1 hz2 rfl (by decide) _ k (encs vdE (l.take k)) rfl (HO0'.out.alloc _) ⟨W0.heap.size, 0, none⟩ 1 1 [.int .i64 x.n, .int .i64 x.e] rfl rfl (news2 _ _ _ _) (by simp [Value.oneCell']) (by simp only [maxLen]; omega) (by omega) (by simp; omega) ?_; intro v' w1 hown' hgrow _)
      have HR : Hid (w1.ownsRow w.heap.size 60 2 v' (k + 1) (encs vdE (l.take (k + 1)))) := by
        show w1.ownsRow _ _ _ _ _ _
        rw [List.take_succ_eq_append_getElem hlt, encs_snoc, ← HX.out]; exact hown'
      have HG : Hid (Below w.heap.size w w1) := own_grow (HB0.out.alloc hbase0 _) (HO0'.out.alloc _) hgrow (by simp; omega) (Nat.le_refl _)
      clear hown' hgrow
      go_wp2
      go_roundw
      case rel => exact ⟨k + 1, by go_num, by omega, HR.out, HG.out⟩
      case measure => simp [intOf]; omega
    · obtain rfl : k = l.length := by omega
      have ho := HO.out
      rw [List.take_of_length_le (Nat.le_refl _)] at ho
      obtain ⟨A', c', rfl, hc', hr'⟩ := own_rdx ho
      have HR := Lib.hid (⟨hc', hr'⟩ : _ ∧ _)
      clear ho hc' hr' HO
      go_wp2
      go_ret
      exact ⟨A', c', rfl, HR.out.1, HR.out.2, HB.out⟩
theorem info_fv : (Try.prog.info? 42).map (fun i => (i.zero, i.size, i.bytes)) = some (some (.agg #[.int .i64 0, .int .i64 0]), 2, 16) := by kernel_rfl
theorem make_fv (n : Nat) (hn : n ≤ 1000000) (w : World) : ∃ cs : Array Value, cs.size = n * 2 ∧
    (Instr.makeSlice 23 (.int .i64 0) (.int .i64 (n : Int))).run Try.prog w = .ok (.slice (some ⟨w.heap.size, 0, none⟩) 0 n) (w.alloc (.cells cs 42)) := by
  obtain ⟨i0, hi, hz0, hz1, hz2⟩ := info_parts info_fv
  have hr := run_make (P := Try.prog) w 23 42 i0 _ Try.underlying23 hi hz0 .i64 .i64 0 n (by omega) (by omega) (by rw [hz2]; omega) (by omega)
  rw [hz1] at hr
  exact ⟨_, by rw [size_madeCells, Int.toNat_natCast], hr⟩
set_option maxHeartbeats 1000000 in
theorem mapped_fv (l : List Vd) (A : Option Addr) (c : Nat) (w : World) (hn : l.length ≤ 1000) (hA : RdV w w.heap.size A l) :
    Calls Try.prog 38 #[.slice A l.length c, .func (.func 39) #[] #[]] w fun e w' => ∃ A' c', e = .returned (.slice A' l.length c') ∧ l.length ≤ c' ∧ RdV w' w'.heap.size A' l ∧ Below w.heap.size w w' := by
  obtain ⟨i0, hi, hz0, hz1, hz2⟩ := info_parts info_fv
  have HA := Lib.hid hA
  obtain ⟨cs, hcs, hmk⟩ := make_fv l.length (by omega) w
  have HCS := Lib.hid hcs
  clear hA hcs
  go_enter Try.func38, Try.ntmps38
  go_wp2
  obtain ⟨U, hU⟩ : ∃ Zz, Zz = w.alloc (.cells cs 42) := ⟨_, rfl⟩
  have hbU : Below w.heap.size w U := by rw [hU]; exact al1 _ _
  have kx : Bk U w.heap.size 42 cs := by rw [hU]; exact Bk.new _ _ _
  rw [← hU]
  clear hU
  have HO0 := Lib.hid (own_zero (base := w.heap.size) (sz := 2) kx (Nat.le_refl _) HCS.out (by omega))
  have HBU := Lib.hid hbU
  clear hbU kx hmk
  go_loopw [5, 13] (fun v i wr => ∃ k : Nat, i = .int .i64 (k : Int) ∧ k ≤ l.length ∧ wr.ownsRow w.heap.size 42 2 v k (encs vdE (l.take k)) ∧ Below w.heap.size w wr) (fun _ i _ => l.length - (intOf i).toNat)
  case atStart => exact ⟨0, rfl, Nat.zero_le _, HO0.out, HBU.out⟩
  case round =>
    obtain ⟨k, rfl, hk, ho, hb⟩ := hrel
    have HO := Lib.hid ho
    have HB := Lib.hid hb
    have hbase := hb.size
    clear ho hb
    by_cases hlt : k < l.length
    · obtain ⟨b, o, rfl, hbb, x0, x1⟩ := rdV_at (HA.out.next HB.out) hlt
      obtain ⟨x, hx⟩ : ∃ x, x = l[k] := ⟨_, rfl⟩
      rw [← hx] at x0 x1
      have HX := Lib.hid hx
      have k1 : (0 : Int) ≤ (k : Int) := by omega
      have k2 : (k : Int) < (l.length : Int) := by omega
      clear hx
      go_wp2_with fail
      obtain ⟨V, hV⟩ : ∃ Zz, Zz = wr.alloc (.cells #[.int .i64 x.n, .int .i64 x.e] 60) := ⟨_, rfl⟩
      have hbV : Below wr.heap.size wr V := by rw [hV]; exact al1 _ _
      rw [← hV]
      clear hV
      refine (ofVoid x _).mono ?_
      rintro e W0 ⟨rfl, hb⟩
      have HB0 := Lib.hid (bt hb (bt hbV HB.out))
      have hbase0 := HB0.out.size
      have HO0' := Lib.hid (own_on HO.out (bt hb hbV))
      clear hb hbV x0 x1
      go_wp2_with (at_builtin; refine wpList_append_own _ rfl _ _ 23 rfl w.heap.size 42 i0 (.agg #[.int .i64 0, .int .i64 0]) 2 16 Try.underlying23 hi hz0 hz1 hz2 rfl (by decide) _ k (encs vdE (l.take k)) rfl (HO0'.out.alloc _) ⟨W0.heap.size, 0, none⟩ 1 1 [.int .i64 x.n, .int .i64 x.e] rfl rfl (news2 _ _ _ _) (by simp [Value.oneCell']) (by simp only [maxLen]; omega) (by omega) (by simp; omega) ?_; intro v' w1 hown' hgrow _)
      have HR : Hid (w1.ownsRow w.heap.size 42 2 v' (k + 1) (encs vdE (l.take (k + 1)))) := by
        show w1.ownsRow _ _ _ _ _ _
        rw [List.take_succ_eq_append_getElem hlt, encs_snoc, ← HX.out]; exact hown'
      have HG : Hid (Below w.heap.size w w1) := own_grow (HB0.out.alloc hbase0 _) (HO0'.out.alloc _) hgrow (by simp; omega) (Nat.le_refl _)
      clear hown' hgrow
      go_wp2
      go_roundw
      case rel => exact ⟨k + 1, by go_num, by omega, HR.out, HG.out⟩
      case measure => simp [intOf]; omega
    · obtain rfl : k = l.length := by omega
      have ho := HO.out
      rw [List.take_of_length_le (Nat.le_refl _)] at ho
      obtain ⟨A', c', rfl, hc', hr'⟩ := own_rdx ho
      have HR := Lib.hid (⟨hc', hr'⟩ : _ ∧ _)
      clear ho hc' hr' HO
      go_wp2
      go_ret
      exact ⟨A', c', rfl, HR.out.1, HR.out.2, HB.out⟩
theorem info_tc : (Try.prog.info? 58).map (fun i => (i.zero, i.size, i.bytes)) = some (some (.agg #[.int .i64 0, .int .i64 0, .int .i64 0, .int .i64 0]), 4, 32) := by kernel_rfl
theorem make_tc (n : Nat) (hn : n ≤ 1000000) (w : World) : ∃ cs : Array Value, cs.size = n * 4 ∧
    (Instr.makeSlice 53 (.int .i64 0) (.int .i64 (n : Int))).run Try.prog w = .ok (.slice (some ⟨w.heap.size, 0, none⟩) 0 n) (w.alloc (.cells cs 58)) := by
  obtain ⟨i0, hi, hz0, hz1, hz2⟩ := info_parts info_tc
  have hr := run_make (P := Try.prog) w 53 58 i0 _ Try.underlying53 hi hz0 .i64 .i64 0 n (by omega) (by omega) (by rw [hz2]; omega) (by omega)
  rw [hz1] at hr
  exact ⟨_, by rw [size_madeCells, Int.toNat_natCast], hr⟩
set_option maxHeartbeats 1000000 in
theorem mapped_tc (l : List Cd) (A : Option Addr) (c : Nat) (w : World) (hn : l.length ≤ 1000) (hA : RdC w w.heap.size A l) :
    Calls Try.prog 40 #[.slice A l.length c, .func (.func 41) #[] #[]] w fun e w' => ∃ A' c', e = .returned (.slice A' l.length c') ∧ l.length ≤ c' ∧ RdC w' w'.heap.size A' l ∧ Below w.heap.size w w' := by
  obtain ⟨i0, hi, hz0, hz1, hz2⟩ := info_parts info_tc
  have HA := Lib.hid hA
  obtain ⟨cs, hcs, hmk⟩ := make_tc l.length (by omega) w
  have HCS := Lib.hid hcs
  clear hA hcs
  go_enter Try.func40, Try.ntmps40
  go_wp2
  obtain ⟨U, hU⟩ : ∃ Zz, Zz = w.alloc (.cells cs 58) := ⟨_, rfl⟩
  have hbU : Below w.heap.size w U := by rw [hU]; exact al1 _ _
  have kx : Bk U w.heap.size 58 cs := by rw [hU]; exact Bk.new _ _ _
  rw [← hU]
  clear hU
  have HO0 := Lib.hid (own_zero (base := w.heap.size) (sz := 4) kx (Nat.le_refl _) HCS.out (by omega))
  have HBU := Lib.hid hbU
  clear hbU kx hmk
  go_loopw [5, 13] (fun v i wr => ∃ k : Nat, i = .int .i64 (k : Int) ∧ k ≤ l.length ∧ wr.ownsRow w.heap.size 58 4 v k (encs cdE (l.take k)) ∧ Below w.heap.size w wr) (fun _ i _ => l.length - (intOf i).toNat)
  case atStart => exact ⟨0, rfl, Nat.zero_le _, HO0.out, HBU.out⟩
  case round =>
    obtain ⟨k, rfl, hk, ho, hb⟩ := hrel
    have HO := Lib.hid ho
    have HB := Lib.hid hb
    have hbase := hb.size
    clear ho hb
    by_cases hlt : k < l.length
    · obtain ⟨b, o, rfl, hbb, x0, x1, x2, x3⟩ := rdC_at (HA.out.next HB.out) hlt
      obtain ⟨x, hx⟩ : ∃ x, x = l[k] := ⟨_, rfl⟩
      rw [← hx] at x0 x1 x2 x3
      have HX := Lib.hid hx
      have k1 : (0 : Int) ≤ (k : Int) := by omega
      have k2 : (k : Int) < (l.length : Int) := by omega
      clear hx
      go_wp2_with fail
      obtain ⟨V, hV⟩ : ∃ Zz, Zz = wr.alloc (.cells #[.int .i64 x.n, .int .i64 x.k, .int .i64 x.f, .int .i64 x.l] 44) := ⟨_, rfl⟩
      have hbV : Below wr.heap.size wr V := by rw [hV]; exact al1 _ _
      rw [← hV]
      clear hV
      refine (toCard x _).mono ?_
      rintro e W0 ⟨rfl, hb⟩
      have HB0 := Lib.hid (bt hb (bt hbV HB.out))
      have hbase0 := HB0.out.size
      have HO0' := Lib.hid (own_on HO.out (bt hb hbV))
      clear hb hbV x0 x1 x2 x3
      go_wp2_with (at_builtin; refine wpList_append_own _ rfl _ _ 53 rfl w.heap.size 58 i0 (.agg #[.int .i64 0, .int .i64 0, .int .i64 0, .int .i64 0]) 4 32 Try.underlying53 hi hz0 hz1 hz2 rfl (by decide) _ k (encs cdE (l.take k)) rfl (HO0'.out.alloc _) ⟨W0.heap.size, 0, none⟩ 1 1 [.int .i64 x.n, .int .i64 x.k, .int .i64 x.f, .int .i64 x.l] rfl rfl (news4 _ _ _ _ _ _) (by simp [Value.oneCell']) (by simp only [maxLen]; omega) (by omega) (by simp; omega) ?_; intro v' w1 hown' hgrow _)
      have HR : Hid (w1.ownsRow w.heap.size 58 4 v' (k + 1) (encs cdE (l.take (k + 1)))) := by
        show w1.ownsRow _ _ _ _ _ _
        rw [List.take_succ_eq_append_getElem hlt, encs_snoc, ← HX.out]; exact hown'
      have HG : Hid (Below w.heap.size w w1) := own_grow (HB0.out.alloc hbase0 _) (HO0'.out.alloc _) hgrow (by simp; omega) (Nat.le_refl _)
      clear hown' hgrow
      go_wp2
      go_roundw
      case rel => exact ⟨k + 1, by go_num, by omega, HR.out, HG.out⟩
      case measure => simp [intOf]; omega
    · obtain rfl : k = l.length := by omega
      have ho := HO.out
      rw [List.take_of_length_le (Nat.le_refl _)] at ho
      obtain ⟨A', c', rfl, hc', hr'⟩ := own_rdx ho
      have HR := Lib.hid (⟨hc', hr'⟩ : _ ∧ _)
      clear ho hc' hr' HO
      go_wp2
      go_ret
      exact ⟨A', c', rfl, HR.out.1, HR.out.2, HB.out⟩
theorem cardsOf_any (l : List Cd) (A : Option Addr) (c : Nat) (w : World) (hn : l.length ≤ 1000) (hA : RdC w w.heap.size A l) :
    Calls Try.prog 16 #[.slice A l.length c] w fun e w' => ∃ A' c', e = .returned (.slice A' l.length c') ∧ l.length ≤ c' ∧ RdC w' w'.heap.size A' l ∧ Below w.heap.size w w' := by
  have HA := Lib.hid hA
  clear hA
  go_enter Try.func16, Try.ntmps16
  go_wp2_with fail
  refine (mapped_tc l A c w hn HA.out).mono ?_
  rintro e W0 ⟨A', c', rfl, hc', hr', hb⟩
  have HR := Lib.hid (⟨hc', hr', hb⟩ : _ ∧ _ ∧ _)
  clear hc' hr' hb
  go_wp2
  go_ret
  exact ⟨A', c', rfl, HR.out.1, HR.out.2.1, HR.out.2.2⟩
theorem voidsOf_any (l : List Vd) (A : Option Addr) (c : Nat) (w : World) (hn : l.length ≤ 1000) (hA : RdV w w.heap.size A l) :
    Calls Try.prog 17 #[.slice A l.length c] w fun e w' => ∃ A' c', e = .returned (.slice A' l.length c') ∧ l.length ≤ c' ∧ RdV w' w'.heap.size A' l ∧ Below w.heap.size w w' := by
  have HA := Lib.hid hA
  clear hA
  go_enter Try.func17, Try.ntmps17
  go_wp2_with fail
  refine (mapped_tv l A c w hn HA.out).mono ?_
  rintro e W0 ⟨A', c', rfl, hc', hr', hb⟩
  have HR := Lib.hid (⟨hc', hr', hb⟩ : _ ∧ _ ∧ _)
  clear hc' hr' hb
  go_wp2
  go_ret
  exact ⟨A', c', rfl, HR.out.1, HR.out.2.1, HR.out.2.2⟩
end Go.Proofs.Ythihhmlgpokomaa
