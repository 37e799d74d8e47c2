/- The law's helpers. -/
import Derived.Test.YtpcklbmhblmjpaaJl
set_option maxRecDepth 100000
set_option linter.unusedVariables false
set_option linter.unusedSimpArgs false
namespace Go.Proofs.Ytpcklbmhblmjpaa
open Go.RowKit Go.Sort Go.Shelf

def appM (m : Mem) (d : Rec) : List Mem := (appL m d).map fun b => (m.1, b)
def rewM (m : Mem) (keep : List Rec) : List Mem := (rewL m keep).map fun b => (m.1, b)
theorem listPost_of {s : Int} {L : List (List UInt8)} {er : Int} {w : World} {e : Ending} {w' : World} (h : memPost s L er w e w') : ListPost w (L.map fun b => (s, b)) er e w' := by
  obtain ⟨v, its, rfl, hm, hmap, hb⟩ := h
  obtain ⟨A, c, rfl, hc, hr⟩ := hm.rd
  have hl : its.length = L.length := by rw [← hmap]; simp
  refine ⟨A, c, by rw [hl]; simp, by rw [List.length_map, ← hl]; exact hc, ?_, hb⟩
  rw [← hmap, List.map_map]; exact hr
theorem Append_l (m : Mem) (d : Rec) (A Ad : Option Addr) (c cd : Nat) (w : World) (hA : RdB w w.heap.size A m.2) (hc : m.2.length ≤ c) (hD : RdB w w.heap.size Ad d) (hcd : d.length ≤ cd) (hdl : d.length ≤ 1000000) :
    Calls Try.prog 12 #[.agg #[.int .i64 m.1, .slice A m.2.length c], .slice Ad d.length cd] w (ListPost w (appM m d) (appE m d)) :=
  (Append_any m d A Ad c cd w hA hc hD hcd hdl).mono fun _ _ h => listPost_of h
theorem Rewrite_l (m : Mem) (keep : List Rec) (A Ak : Option Addr) (c ck : Nat) (w : World) (hA : RdB w w.heap.size A m.2) (hc : m.2.length ≤ c) (hK : RdBs w w.heap.size Ak keep) (hk1 : keep.length ≤ 10000) (hk2 : ∀ d ∈ keep, d.length ≤ 9223372036854775807) :
    Calls Try.prog 14 #[.agg #[.int .i64 m.1, .slice A m.2.length c], .slice Ak keep.length ck] w (ListPost w (rewM m keep) (rewE m keep)) :=
  (Rewrite_any m keep A Ak c ck w hA hc hK hk1 hk2).mono fun _ _ h => listPost_of h

set_option maxHeartbeats 1000000 in
theorem Bytes_any (x y : Rec) (A1 A2 : Option Addr) (c1 c2 : Nat) (w : World) (h1 : RdB w w.heap.size A1 x) (h2 : RdB w w.heap.size A2 y) (n1 : x.length ≤ 1000000000) (n2 : y.length ≤ 1000000000) :
    Calls Try.prog 42 #[.slice A1 x.length c1, .slice A2 y.length c2] w fun e w' => e = .returned (.bool (decide (x = y))) ∧ Below w.heap.size w w' := by
  have H1 := Lib.hid h1
  have H2 := Lib.hid h2
  clear h1 h2
  by_cases hl : x.length = y.length
  · have e0 : ((x.length : Int) != (y.length : Int)) = false := by rw [hl]; simp
    have HL := Lib.hid hl
    have hl1 : x.length ≤ y.length := by omega
    have hl2 : y.length ≤ x.length := by omega
    clear hl
    go_enter Try.func42, Try.ntmps42
    go_wp2
    go_loopw [5] (fun i wr => ∃ k : Nat, i = .int .i64 (k : Int) ∧ k ≤ x.length ∧ x.take k = y.take k ∧ Below w.heap.size w wr) (fun i _ => x.length - (intOf i).toNat)
    case atStart => exact ⟨0, rfl, Nat.zero_le _, by simp, Below.refl _ _⟩
    case round =>
      obtain ⟨k, rfl, hk, heq, hb⟩ := hrel
      by_cases hlt : k < x.length
      · obtain ⟨b1, o1, rfl, h1b, z1⟩ := (H1.out.below hb).at_ hlt
        obtain ⟨b2, o2, rfl, h2b, z2⟩ := (H2.out.below hb).at_ (by omega : k < y.length)
        have HB := Lib.hid hb
        have HEQ := Lib.hid heq
        clear hb heq
        have k1 : (0 : Int) ≤ (k : Int) := by omega
        have k2 : (k : Int) < (x.length : Int) := by omega
        have k3 : (k : Int) < (y.length : Int) := by omega
        obtain ⟨p, hp⟩ : ∃ p, p = x[k] := ⟨_, rfl⟩
        obtain ⟨q, hq⟩ : ∃ q, q = y[k]'(by omega) := ⟨_, rfl⟩
        rw [← hp] at z1
        rw [← hq] at z2
        have HP := Lib.hid hp
        have HQ := Lib.hid hq
        clear hp hq
        by_cases hpq : p = q
        · have e1 : ((p.toNat : Int) != (q.toNat : Int)) = false := by rw [hpq]; simp
          go_wp2
          go_quiet (fail)
          go_wp2
          go_roundw
          case rel => exact ⟨k + 1, by go_num, by omega, by rw [List.take_succ_eq_append_getElem hlt, List.take_succ_eq_append_getElem (by omega : k < y.length), HEQ.out, ← HP.out, ← HQ.out, hpq], belowDrew HB.out _⟩
          case measure => simp [intOf]; omega
        · have e1 : ((p.toNat : Int) != (q.toNat : Int)) = true := by
            rw [bne_iff_ne]
            intro e
            exact hpq (UInt8.toNat_inj.1 (by omega))
          have hno : decide (x = y) = false := by
            rw [decide_eq_false_iff_not]
            intro e
            subst e
            exact hpq (by rw [HP.out, HQ.out])
          have HNO := Lib.hid hno
          clear hno
          go_wp2
          go_quiet (fail)
          go_wp2
          go_ret
          exact ⟨by rw [HNO.out]; rfl, belowDrew HB.out _⟩
      · obtain rfl : k = x.length := by omega
        have hyes : decide (x = y) = true := by
          rw [decide_eq_true_iff]
          rw [List.take_of_length_le (Nat.le_refl _), List.take_of_length_le (by omega)] at heq
          exact heq
        have HY := Lib.hid hyes
        have HB := Lib.hid hb
        clear hyes hb heq
        go_wp2
        go_ret
        exact ⟨by rw [HY.out]; rfl, HB.out⟩
  · have e0 : ((x.length : Int) != (y.length : Int)) = true := by rw [bne_iff_ne]; omega
    have hno : decide (x = y) = false := by rw [decide_eq_false_iff_not]; intro e; exact hl (by rw [e])
    have HNO := Lib.hid hno
    clear hno
    go_enter Try.func42, Try.ntmps42
    go_wp2
    go_ret
    exact ⟨by rw [HNO.out]; rfl, Below.refl _ _⟩
set_option maxHeartbeats 1000000 in
theorem SameR_any (x y : List Rec) (A1 A2 : Option Addr) (c1 c2 : Nat) (w : World) (h1 : RdBs w w.heap.size A1 x) (h2 : RdBs w w.heap.size A2 y) (m1 : x.length ≤ 1000000000) (m2 : y.length ≤ 1000000000) (n1 : ∀ d ∈ x, d.length ≤ 1000000000) (n2 : ∀ d ∈ y, d.length ≤ 1000000000) :
    Calls Try.prog 16 #[.slice A1 x.length c1, .slice A2 y.length c2] w fun e w' => e = .returned (.bool (decide (x = y))) ∧ Below w.heap.size w w' := by
  have H1 := Lib.hid h1
  have H2 := Lib.hid h2
  clear h1 h2
  by_cases hl : x.length = y.length
  · have e0 : ((x.length : Int) != (y.length : Int)) = false := by rw [hl]; simp
    have HL := Lib.hid hl
    have hl1 : x.length ≤ y.length := by omega
    have hl2 : y.length ≤ x.length := by omega
    clear hl
    go_enter Try.func16, Try.ntmps16
    go_wp2
    go_loopw [5] (fun i wr => ∃ k : Nat, i = .int .i64 (k : Int) ∧ k ≤ x.length ∧ x.take k = y.take k ∧ Below w.heap.size w wr) (fun i _ => x.length - (intOf i).toNat)
    case atStart => exact ⟨0, rfl, Nat.zero_le _, by simp, Below.refl _ _⟩
    case round =>
      obtain ⟨k, rfl, hk, heq, hb⟩ := hrel
      have HB := Lib.hid hb
      have HEQ := Lib.hid heq
      clear hb heq
      by_cases hlt : k < x.length
      · obtain ⟨b1, o1, A1', c1', rfl, h1b, z1, h1c, r1⟩ := (H1.out.next HB.out).at_ hlt
        obtain ⟨b2, o2, A2', c2', rfl, h2b, z2, h2c, r2⟩ := (H2.out.next HB.out).at_ (by omega : k < y.length)
        have k1 : (0 : Int) ≤ (k : Int) := by omega
        have k2 : (k : Int) < (x.length : Int) := by omega
        have k3 : (k : Int) < (y.length : Int) := by omega
        obtain ⟨p, hp⟩ : ∃ p, p = x[k] := ⟨_, rfl⟩
        obtain ⟨q, hq⟩ : ∃ q, q = y[k]'(by omega) := ⟨_, rfl⟩
        rw [← hp] at z1 h1c r1
        rw [← hq] at z2 h2c r2
        have hp1 := n1 p (by rw [hp]; exact List.getElem_mem hlt)
        have hq1 := n2 q (by rw [hq]; exact List.getElem_mem (by omega))
        have HP := Lib.hid hp
        have HQ := Lib.hid hq
        have R1 := Lib.hid r1
        have R2 := Lib.hid r2
        obtain ⟨bb, hbb⟩ : ∃ bb, bb = decide (p = q) := ⟨_, rfl⟩
        have HBB := Lib.hid hbb
        have HC : Hid (∀ W, Below wr.heap.size wr W → Calls Try.prog 42 #[.slice A1' p.length c1', .slice A2' q.length c2'] W fun e w' => e = .returned (.bool bb) ∧ Below W.heap.size W w') := fun W hW => by rw [hbb]; exact Bytes_any p q A1' A2' c1' c2' W (R1.out.next hW) (R2.out.next hW) hp1 hq1
        clear hp hq r1 r2 hbb
        go_wp2
        have Rz1 := cell_regrown z1
        have Rz2 := cell_regrown z2
        have CB := fun (d : Nat) (os : Array Obj) => Calls.regrown_of (HC.out (grow (redrawn wr d) os) (below_regrown wr d os))
        refine wp_region_quiet_below (by kernel_rfl) (by kernel_rfl) ?_
        repeat (first | go_big_quiet_step (first | (with_reducible exact CB _ _)) | quiet_step (first | (with_reducible exact CB _ _)))
        refine wpQuiet_nil ?_
        intro _ hw'
        obtain ⟨⟨dq, osq⟩, hw''⟩ := hw'
        subst hw''
        obtain ⟨V, hV⟩ : ∃ V, V = grow (redrawn wr dq) osq := ⟨_, rfl⟩
        have hbV : Below wr.heap.size wr V := by rw [hV]; exact below_regrown _ _ _
        rw [← hV]
        clear hV
        clear Rz1
        clear Rz2
        clear CB
        have HV := Lib.hid (bt hbV HB.out)
        clear hbV HC z1 z2
        cases bb with
        | true =>
          have hpq : p = q := of_decide_eq_true HBB.out.symm
          go_wp2
          go_roundw
          case rel => exact ⟨k + 1, by go_num, by omega, by rw [List.take_succ_eq_append_getElem hlt, List.take_succ_eq_append_getElem (by omega : k < y.length), HEQ.out, ← HP.out, ← HQ.out, hpq], HV.out⟩
          case measure => simp [intOf]; omega
        | false =>
          have hpq : ¬ p = q := of_decide_eq_false HBB.out.symm
          have hno : decide (x = y) = false := by
            rw [decide_eq_false_iff_not]
            intro e
            subst e
            exact hpq (by rw [HP.out, HQ.out])
          have HNO := Lib.hid hno
          clear hno
          go_wp2
          go_ret
          exact ⟨by rw [HNO.out]; rfl, HV.out⟩
      · obtain rfl : k = x.length := by omega
        have hyes : decide (x = y) = true := by
          rw [decide_eq_true_iff]
          have heq := HEQ.out
          rw [List.take_of_length_le (Nat.le_refl _), List.take_of_length_le (by omega)] at heq
          exact heq
        have HY := Lib.hid hyes
        clear hyes
        go_wp2
        go_ret
        exact ⟨by rw [HY.out]; rfl, HB.out⟩
  · have e0 : ((x.length : Int) != (y.length : Int)) = true := by rw [bne_iff_ne]; omega
    have hno : decide (x = y) = false := by rw [decide_eq_false_iff_not]; intro e; exact hl (by rw [e])
    have HNO := Lib.hid hno
    clear hno
    go_enter Try.func16, Try.ntmps16
    go_wp2
    go_ret
    exact ⟨by rw [HNO.out]; rfl, Below.refl _ _⟩
end Go.Proofs.Ytpcklbmhblmjpaa
