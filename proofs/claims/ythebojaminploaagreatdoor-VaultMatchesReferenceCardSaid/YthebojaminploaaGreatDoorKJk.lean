/- journal.Rewrite. -/
import Derived.Test.YthebojaminploaaGreatDoorKJG
set_option maxRecDepth 100000
set_option linter.unusedVariables false
set_option linter.unusedSimpArgs false
namespace Go.Proofs.YthebojaminploaaGreatDoor
open Go.RowKit Go.Sort Go.Shelf

def memPost (s : Int) (L : List (List UInt8)) (er : Int) (w : World) (e : Ending) (w' : World) : Prop :=
  ∃ v its, e = .returned (.tuple #[v, .int .i64 er]) ∧ Ms w.heap.size s its v w' ∧ its.map (·.2.2) = L ∧ Below w.heap.size w w'
theorem Ms.nil (base : Nat) (s : Int) (W : World) : Ms base s [] (.slice none 0 0) W := ⟨World.ownsRow_nil _ _ _ _, by simp⟩
theorem jv_even {s : Int} {n : Nat} (h : jvB s n = true) : n % 2 = 0 := by
  unfold jvB at h
  simp only [Bool.and_eq_true, decide_eq_true_eq] at h
  obtain ⟨⟨h1, h2⟩, h3⟩ := h
  obtain ⟨v1, v2, v3, v4, v5⟩ := (valid_iff s n).1 h1
  have e := Int.emod_add_mul_ediv (n : Int) s
  rw [v5] at e
  obtain ⟨q, hq⟩ : ∃ q, q = (n : Int) / s := ⟨_, rfl⟩
  rw [← hq] at e h2
  obtain ⟨r, hr⟩ : ∃ r, q = 2 * r := ⟨q / 2, by omega⟩
  rw [hr, ← Int.mul_assoc, Int.mul_comm s 2, Int.mul_assoc] at e
  omega
theorem jv_parts {s n : Nat} (h : jvB (s : Int) n = true) (hs : 1 ≤ s) : ∃ q, n = 2 * q * s ∧ n / 2 = q * s ∧ (n : Int) / (s : Int) = 2 * (q : Int) ∧ n / 2 / s = q := by
  unfold jvB at h
  simp only [Bool.and_eq_true, decide_eq_true_eq] at h
  obtain ⟨⟨h1, h2⟩, h3⟩ := h
  obtain ⟨v1, v2, v3, v4, v5⟩ := (valid_iff (s : Int) n).1 h1
  rw [← Int.natCast_emod] at v5
  rw [← Int.natCast_ediv] at h2
  have v5' : n % s = 0 := by omega
  obtain ⟨r, hr⟩ : ∃ r, n / s = 2 * r := ⟨n / s / 2, by omega⟩
  have e := Nat.mod_add_div n s
  rw [v5', hr, Nat.zero_add] at e
  have e1 : n = 2 * r * s := by rw [← e, Nat.mul_comm]
  have e2 : n / 2 = r * s := by rw [e1, Nat.mul_assoc]; omega
  refine ⟨r, e1, e2, by rw [← Int.natCast_ediv, hr]; simp, ?_⟩
  rw [e2, Nat.mul_div_cancel _ (by omega)]
theorem u8s_append (a b : List UInt8) : u8s (a ++ b) = u8s a ++ u8s b := by simp [u8s]
theorem add_map (pre : List Itm) (x : Itm) (l : List Itm) (f : Nat → UInt8 → UInt8) (p n : Nat) (h : l.map (·.2.2) = (memos f x.2.2 p n).drop 1) : (pre ++ [x] ++ l).map (·.2.2) = addB ((pre ++ [x]).map (·.2.2)) f p n := by
  unfold addB
  rw [List.map_append, h]
  simp
theorem look_s (m : Mem) (s : Int) (hs : m.1 = s) (A : Option Addr) (c : Nat) (w : World) (hA : RdB w w.heap.size A m.2) (hc : m.2.length ≤ c) :
    Calls Tryz.prog 36 #[.agg #[.int .i64 s, .slice A m.2.length c]] w (lookPost m w) := by
  subst hs; exact look_any m A c w hA hc
theorem lookE_ok {m : Mem} (h : lookE m = 0) : ∃ a l e, jvB m.1 m.2.length = true ∧ curO m = some a ∧ scanA (areaB m a) = some (l, e) ∧ lookC m = ⟨a, genB (areaB m a), l, e, restB (areaB m a) e⟩ := by
  by_cases hv : jvB m.1 m.2.length = true
  · cases hq : curO m with
    | none => rw [(look_none hv hq).1] at h; cases h
    | some a =>
      cases hs : scanA (areaB m a) with
      | none => rw [(look_sum hv hq hs).1] at h; cases h
      | some r => exact ⟨a, r.1, r.2, hv, rfl, hs, (look_ok hv hq hs).2⟩
  · rw [(look_inv (by simpa using hv)).1] at h; cases h
set_option maxHeartbeats 1500000 in
theorem Rewrite_any (m : Mem) (keep : List Rec) (A Ak : Option Addr) (c ck : Nat) (w : World) (hA : RdB w w.heap.size A m.2) (hc : m.2.length ≤ c) (hK : RdBs w w.heap.size Ak keep) (hk1 : keep.length ≤ 10000) (hk2 : ∀ d ∈ keep, d.length ≤ 9223372036854775807) :
    Calls Tryz.prog 21 #[.agg #[.int .i64 m.1, .slice A m.2.length c], .slice Ak keep.length ck] w (memPost m.1 (rewL m keep) (rewE m keep) w) := by
  obtain ⟨i0, hi, hz0, hz1, hz2⟩ := info_parts info_u8
  have HA := Lib.hid hA
  have HKP := Lib.hid hK
  clear hA hK
  by_cases h0 : lookE m = 0
  · obtain ⟨a, l, en, hv, hq, hsc, hC⟩ := lookE_ok h0
    have h32 := jv_len hv
    have h4k := jv_max hv
    obtain ⟨b, o, rfl, hbb9, _⟩ := HA.out.addr (by omega)
    have hv2 : validB m.1 m.2.length = true := by unfold jvB at hv; simp only [Bool.and_eq_true] at hv; exact hv.1.1
    obtain ⟨vx1, vx2, vx3, vx4, vx5⟩ := (valid_iff _ _).1 hv2
    obtain ⟨s, hs⟩ := Int.eq_ofNat_of_zero_le (by omega : 0 ≤ m.1)
    have HV2 := Lib.hid hv2
    have HV := Lib.hid hv
    have HQ := Lib.hid hq
    have HCE := Lib.hid hC
    have HSS := Lib.hid hs
    have ha := curO_le hq
    have hga : (lookC m).area = a := by rw [hC]
    have hgg : (lookC m).gen < 4294967296 := by rw [hC]; exact num4_lt _ _ _ _
    obtain ⟨gen, hgen⟩ : ∃ gen, gen = (lookC m).gen := ⟨_, rfl⟩
    obtain ⟨fi, hfi⟩ : ∃ fi, fi = (lookC m).fin := ⟨_, rfl⟩
    obtain ⟨cl, hcl⟩ : ∃ cl, cl = (lookC m).clean := ⟨_, rfl⟩
    rw [← hgen] at hgg
    have HGEN := Lib.hid hgen
    have HFI := Lib.hid hfi
    have HGA := Lib.hid hga
    have hhf : hf m = m.2.length / 2 := rfl
    rw [hs] at vx1 vx2 vx3 ⊢
    clear hs
    clear hv hv2 hq hsc hC vx5
    go_enter Tryz.func21, Tryz.ntmps21
    go_wp2_with fail
    obtain ⟨U, hU⟩ : ∃ Zz, Zz = w.alloc (.cells #[.int .i64 (s : Int), .slice (some ⟨b, o, none⟩) m.2.length c] 24) := ⟨_, rfl⟩
    have hb1 : Below w.heap.size w U := by rw [hU]; exact al1 _ _
    have k2 : Bk U w.heap.size 24 #[.int .i64 (s : Int), .slice (some ⟨b, o, none⟩) m.2.length c] := by rw [hU]; exact Bk.new _ _ _
    rw [← hU]
    clear hU
    refine (look_s m (s : Int) HSS.out _ c _ (HA.out.next hb1) hc).mono ?_
    rintro e V ⟨v, its, rfl, hrw, hmap, hbV⟩
    obtain ⟨Ar, cr, rfl, hcr, _⟩ := own_read hrw.1
    have K2 := Lib.hid (k2.next hbV)
    have HB := Lib.hid (bt hbV hb1)
    have HRW := Lib.hid hrw
    have HMP := Lib.hid hmap
    clear hrw hmap hbV hb1 k2
    rw [hga, h0, ← hgen, ← hfi, ← hcl]
    clear hga hgen hfi hcl
    have e0 : ((0 : Int) != 0) = false := rfl
    obtain ⟨c0, c1⟩ := box2 K2.out
    have lk := K2.out.lt
    go_wp2_with fail
    obtain ⟨Wc, hWc⟩ : ∃ Zz, Zz = V.alloc (.cells #[.int .i64 (a : Int), .int .u32 (gen : Int), .slice Ar its.length cr, .int .i64 (fi : Int), .bool cl] 61) := ⟨_, rfl⟩
    have hbc : Below V.heap.size V Wc := by rw [hWc]; exact al1 _ _
    have k6 : Bk Wc V.heap.size 61 #[.int .i64 (a : Int), .int .u32 (gen : Int), .slice Ar its.length cr, .int .i64 (fi : Int), .bool cl] := by rw [hWc]; exact Bk.new _ _ _
    rw [← hWc]
    clear hWc
    replace K2 := Lib.hid (K2.out.next hbc)
    replace HB := Lib.hid (bt hbc HB.out)
    clear c0 c1 hbc HRW HMP
    obtain ⟨ff, hff⟩ : ∃ ff, ff = decide (room keep + 5 ≤ m.2.length / 2) := ⟨_, rfl⟩
    have HFT := Lib.hid (fits_any keep Ak ck (m.2.length / 2) Wc (HKP.out.next HB.out) (by omega) hk2 (by omega) (by omega))
    rw [← hff] at HFT
    refine HFT.out.mono ?_
    rintro e _ ⟨rfl, rfl⟩
    have HFF := Lib.hid hff
    clear HFT hff
    have lk6 := k6.lt
    obtain ⟨c0, c1⟩ := box2 K2.out
    obtain ⟨d0, d1, d2, d3, d4⟩ := box5 k6
    cases ff with
    | false =>
      have HZ : Hid (rewE m keep = 10 ∧ rewL m keep = []) := by
        have h1 : rewE m keep = 10 := by unfold rewE; rw [if_pos h0, if_neg (fun h => by have h1 := h.1; rw [hhf] at h1; have h2 := HFF.out; rw [decide_eq_true h1] at h2; cases h2)]
        exact ⟨h1, by unfold rewL; rw [h1]; rfl⟩
      clear k6 K2
      go_wp2
      go_ret2
      exact ⟨.slice none 0 0, [], by rw [HZ.out.1]; rfl, Ms.nil _ _ _, by rw [HZ.out.2]; rfl, HB.out⟩
    | true =>
      by_cases hg : gen = 4294967295
      · have eg : ((gen : Int) == 4294967295) = true := by rw [hg]; rfl
        have HZ : Hid (rewE m keep = 10 ∧ rewL m keep = []) := by
          have h1 : rewE m keep = 10 := by unfold rewE; rw [if_pos h0, if_neg (fun h => h.2 (by rw [← HGEN.out]; exact hg))]
          exact ⟨h1, by unfold rewL; rw [h1]; rfl⟩
        clear k6 K2
        go_wp2
        go_ret2
        exact ⟨.slice none 0 0, [], by rw [HZ.out.1]; rfl, Ms.nil _ _ _, by rw [HZ.out.2]; rfl, HB.out⟩
      · have hrm : room keep + 5 ≤ m.2.length / 2 := of_decide_eq_true HFF.out.symm
        have eg : ((gen : Int) == 4294967295) = false := by rw [beq_eq_false_iff_ne]; omega
        have HZ : Hid (rewE m keep = 0 ∧ rewL m keep = rewB m keep) := by
          have h1 : rewE m keep = 0 := by unfold rewE; rw [if_pos h0, if_pos ⟨by rw [hhf]; exact hrm, by rw [← HGEN.out]; exact hg⟩]
          exact ⟨h1, by unfold rewL; rw [h1]; rfl⟩
        have K6 := Lib.hid k6
        clear k6
        obtain ⟨n2, hn2⟩ : ∃ n2, n2 = m.2.length / 2 := ⟨_, rfl⟩
        have hn2I : ((m.2.length : Nat) : Int) / 2 = (n2 : Int) := by omega
        have hn2b : n2 ≤ 2048 := by omega
        have hn2c : 16 ≤ n2 := by omega
        have hn2d : m.2.length = 2 * n2 := by have := jv_even HV.out; omega
        rw [← hn2] at hrm
        have HN2 := Lib.hid hn2
        have HND := Lib.hid hn2d
        have hle1 : 2 * n2 ≤ m.2.length := by omega
        have hle2 : m.2.length ≤ 2 * n2 := by omega
        clear hn2d
        obtain ⟨ot, hot⟩ : ∃ ot : Nat, (1 : Int) - (a : Int) = (ot : Int) ∧ ot ≤ 1 ∧ ot = 1 - a := ⟨1 - a, by omega, by omega, rfl⟩
        obtain ⟨hot1, hot2, hot3⟩ := hot
        have HOT := Lib.hid hot3
        have wsub : IntKind.i64.wrap (ot : Int) = (ot : Int) := IntWalk.i64_in _ (by omega)
        clear hot3 hn2
        go_wp2
        clear hn2I
        have HS0 : Wc.drew.cell? ⟨w.heap.size, 0, none⟩ = some (.int .i64 (s : Int)) ∧ Wc.drew.cell? ⟨w.heap.size, 1, none⟩ = some (.slice (some ⟨b, o, none⟩) m.2.length c) ∧ Wc.drew.cell? ⟨V.heap.size, 0, none⟩ = some (.int .i64 (a : Int)) := ⟨c0, c1, d0⟩
        refine region_S (fun w' => w'.cell? ⟨w.heap.size, 0, none⟩ = some (.int .i64 (s : Int)) ∧ w'.cell? ⟨w.heap.size, 1, none⟩ = some (.slice (some ⟨b, o, none⟩) m.2.length c) ∧ w'.cell? ⟨V.heap.size, 0, none⟩ = some (.int .i64 (a : Int))) 6 (by kernel_rfl) ?_
        refine anyS_take (i := 0) rfl (by kernel_rfl) (by kernel_rfl) (by kernel_rfl) (by kernel_rfl) (fun _ _ _ h => h) (Or.inl ⟨by rfl, fun w' hS' => (by obtain ⟨s1, s2, s3⟩ := hS'; go_simp; try with_reducible rfl)⟩) HS0 ?_
        refine anyS_take (i := 2) rfl (by kernel_rfl) (by kernel_rfl) (by kernel_rfl) (by kernel_rfl) (fun _ _ _ h => h) (Or.inl ⟨by rfl, fun w' hS' => (by obtain ⟨s1, s2, s3⟩ := hS'; go_simp; try with_reducible rfl)⟩) HS0 ?_
        refine anyS_take (i := 3) rfl (by kernel_rfl) (by kernel_rfl) (by kernel_rfl) (by kernel_rfl) (fun _ _ _ h => h) (Or.inl ⟨by rfl, fun w' hS' => (by obtain ⟨s1, s2, s3⟩ := hS'; go_simp; try with_reducible rfl)⟩) HS0 ?_
        refine anyS_take (i := 4) rfl (by kernel_rfl) (by kernel_rfl) (by kernel_rfl) (by kernel_rfl) (fun _ _ _ h => h) (Or.inl ⟨by rfl, fun w' hS' => (by obtain ⟨s1, s2, s3⟩ := hS'; go_simp; try with_reducible rfl)⟩) HS0 ?_
        refine anyS_one (i := 1) (by kernel_rfl) rfl rfl (fun K hK => ?_)
        go_simp
        refine (begin_any (s : Int) m.2 _ c Wc.drew ((HA.out.next HB.out).next ((Below.refl _ Wc).drew)) (by omega)).mono ?_
        rintro e Wb ⟨sp, x0, rfl, hsp, hst, hx0, hbb⟩
        have hbb' : Below Wc.heap.size Wc Wb := ⟨hbb.os, hbb.tape, hbb.output, hbb.size, hbb.block⟩
        have hsp' : Wc.heap.size ≤ sp := hsp
        have HST0 : Hid (St Wc.heap.size sp (s : Int) [x0] Wb ∧ x0.2.2 = m.2 ∧ Below Wc.heap.size Wc Wb) := ⟨hst, hx0, hbb'⟩
        go_simp
        refine hK _ _ (fun _ => ⟨(box2 (K2.out.next hbb')).1, (box2 (K2.out.next hbb')).2, (box5 (K6.out.next hbb')).1⟩) ?_
        have HS1 : Wb.cell? ⟨w.heap.size, 0, none⟩ = some (.int .i64 (s : Int)) ∧ Wb.cell? ⟨w.heap.size, 1, none⟩ = some (.slice (some ⟨b, o, none⟩) m.2.length c) ∧ Wb.cell? ⟨V.heap.size, 0, none⟩ = some (.int .i64 (a : Int)) := ⟨(box2 (K2.out.next hbb')).1, (box2 (K2.out.next hbb')).2, (box5 (K6.out.next hbb')).1⟩
        clear hK K hsp hst hx0 hbb hbb' HS0
        refine anyS_one (i := 5) (by kernel_rfl) rfl rfl (fun K hK => ?_)
        go_simp
        refine hK _ _ (fun _ => HS1) ?_
        clear hK K
        refine anyS_one (i := 6) (by kernel_rfl) rfl rfl (fun K hK => ?_)
        go_simp
        refine hK _ _ (fun h => absurd rfl h) ?_
        clear hK K
        refine anyS_done (by kernel_rfl) ?_ _
        simp only [normPost]
        obtain ⟨c0, c1, _⟩ := HS1
        obtain ⟨q, hq1, hq2, hq3, hq4⟩ := jv_parts (s := s) (n := m.2.length) (by rw [← HSS.out]; exact HV.out) (by omega)
        have hqI : (n2 : Int) / (s : Int) = (q : Int) := by rw [← Int.natCast_ediv]; rw [← HN2.out] at hq4; rw [hq4]
        obtain ⟨p0, hp0⟩ : ∃ p0, p0 = ot * q := ⟨_, rfl⟩
        have hqs : q ≤ n2 := by rw [HN2.out, hq2]; exact Nat.le_mul_of_pos_right _ (by omega)
        have hp1 : p0 ≤ q := by
          rw [hp0]
          have : ot * q ≤ 1 * q := Nat.mul_le_mul_right _ hot2
          omega
        have e1 : (ot : Int) * (q : Int) = (p0 : Int) := by rw [hp0]; simp
        have e2 : ((ot : Int) + 1) * (q : Int) = (p0 : Int) + (q : Int) := by rw [Int.add_mul, e1]; simp
        have HQ1 := Lib.hid hq1
        have HQ2 := Lib.hid hq2
        have HQ3 := Lib.hid hq3
        have HP0 := Lib.hid hp0
        have HQ4 := Lib.hid hq4
        have s0 : (s : Int) ≠ 0 := by omega
        clear hq1 hq2 hq3 hq4 hp0
        go_wp2
        go_loopw [13] (fun i wr => ∃ (j : Nat) (its : List Itm), i = .int .i64 ((p0 : Int) + (j : Int)) ∧ j ≤ q ∧ its ≠ [] ∧ (∀ x ∈ its, x.2.2.length = m.2.length) ∧ its.length ≤ 1 + j * s ∧ eraseB m s (its.map (·.2.2)) (p0 + j) (q - j) = eraseB m s [m.2] p0 q ∧ St Wc.heap.size sp (s : Int) its wr ∧ Below Wc.heap.size Wc wr) (fun i _ => p0 + q - (intOf i).toNat)
        case atStart =>
          refine ⟨0, [x0], by simp [e1], Nat.zero_le _, by simp, ?_, by simp, by simp [HST0.out.2.1], HST0.out.1, HST0.out.2.2⟩
          intro x hx
          obtain rfl : x = x0 := by simpa using hx
          rw [HST0.out.2.1]
        case round =>
          obtain ⟨j, its2, rfl, hj, hne, hlen, hil, hera, hst, hbw⟩ := hrel
          have HST := Lib.hid hst
          have HBW := Lib.hid hbw
          have HER := Lib.hid hera
          have HLN := Lib.hid hlen
          obtain ⟨pr, x, rfl⟩ : ∃ pr x, its2 = pr ++ [x] := ⟨its2.dropLast, its2.getLast hne, (List.dropLast_concat_getLast hne).symm⟩
          have hxl : x.2.2.length = m.2.length := hlen x (by simp)
          have HXL := Lib.hid hxl
          rw [List.length_append, List.length_cons, List.length_nil] at hil
          have hjs : j * s ≤ n2 := by rw [HN2.out, HQ2.out]; exact Nat.mul_le_mul_right _ hj
          clear hst hbw hera hlen hne hxl
          by_cases hlt : j < q
          · have q1 : (p0 : Int) + (j : Int) < (p0 : Int) + (q : Int) := by omega
            obtain ⟨i, hi⟩ : ∃ i, i = p0 + j := ⟨_, rfl⟩
            have hiI : (p0 : Int) + (j : Int) = (i : Int) := by omega
            have hi2 : (i + 1) * s ≤ m.2.length := by
              rw [HQ1.out]
              exact Nat.mul_le_mul_right _ (by omega)
            have HI := Lib.hid hi
            rw [hiI] at q1 ⊢
            have hib : i ≤ 8192 := by omega
            obtain ⟨rb, hrb⟩ : ∃ rb, rb = restB ((m.2.drop (i * s)).take s) 0 := ⟨_, rfl⟩
            have HWR := Lib.hid (written_any m b o c i s w.heap.size wr HSS.out ((HA.out.next HB.out).next HBW.out) (by rw [HSS.out]; exact K2.out.next HBW.out) hc (by omega) (by omega) hi2 (by omega))
            rw [← hrb] at HWR
            have HRB := Lib.hid hrb
            clear hrb hiI hi hi2
            go_wp2_with fail
            refine HWR.out.mono ?_
            rintro e _ ⟨rfl, rfl⟩
            have HEU : Hid (eraseB m s ((pr ++ [x]).map (·.2.2)) (p0 + j) (q - j) = eraseB m s (if rb = true then (pr ++ [x]).map (·.2.2) else addB ((pr ++ [x]).map (·.2.2)) eraF (i * s) s) (i + 1) (q - (j + 1))) := by
              show _ = _
              rw [show q - j = q - (j + 1) + 1 by omega, eraseB, ← HI.out, ← HRB.out]
            cases rb with
            | true =>
              go_wp2
              go_roundw
              case rel =>
                refine ⟨j + 1, pr ++ [x], ?_, by omega, by simp, HLN.out, by rw [List.length_append, Nat.succ_mul]; simp; omega, ?_, HST.out, HBW.out⟩
                · have := HI.out; go_num
                · have h9 := HEU.out; simp only [if_true] at h9; rw [← HER.out, h9, HI.out]; rfl
              case measure => have := HI.out; simp [intOf]; omega
            | false =>
              go_wp2_with fail
              refine (st_erase Wc.heap.size sp (s : Int) pr x (i : Int) wr HST.out hsp' (by rw [HXL.out, ← HSS.out]; exact HV2.out) (by omega) (by rw [HXL.out, HQ3.out]; have := HI.out; omega) (by omega)).mono ?_
              rintro e W3 ⟨⟨u, rfl⟩, ⟨l, hlm, hst3⟩, ht3⟩
              have e9 : ((i : Int) * (s : Int)).toNat = i * s := by rw [← Int.natCast_mul]; exact Int.toNat_natCast _
              rw [e9, Int.toNat_natCast] at hlm
              have hll : l.length = s := by have := congrArg List.length hlm; simpa [memos_length] using this
              have hlx : ∀ y ∈ l, y.2.2.length = m.2.length := by
                intro y hy
                have : y.2.2 ∈ l.map (·.2.2) := List.mem_map.2 ⟨y, hy, rfl⟩
                rw [hlm] at this
                have := List.mem_of_mem_drop this
                obtain ⟨r, _, hr⟩ := List.mem_map.1 this
                rw [← hr, memo_length]; exact HXL.out
              have hadd : (pr ++ [x] ++ l).map (·.2.2) = addB ((pr ++ [x]).map (·.2.2)) eraF (i * s) s := by
                unfold addB
                rw [List.map_append, hlm]
                simp
              have HT3 := Lib.hid (HBW.out.trans (ht3.below hsp' (HBW.out.size)))
              have H3 := Lib.hid (⟨hst3, hlx, hadd, hll⟩ : _ ∧ _ ∧ _ ∧ _)
              clear hst3 hlx hadd hll ht3 hlm e9
              go_wp2
              go_roundw
              case rel =>
                refine ⟨j + 1, pr ++ [x] ++ l, ?_, by omega, by simp, ?_, ?_, ?_, H3.out.1, HT3.out⟩
                · have := HI.out; go_num
                · intro y hy
                  rcases List.mem_append.1 hy with hy | hy
                  · exact HLN.out y hy
                  · exact H3.out.2.1 y hy
                · have := H3.out.2.2.2; rw [List.length_append, List.length_append, Nat.succ_mul]; simp; omega
                · have h9 := HEU.out; rw [if_neg (by simp)] at h9; rw [← HER.out, h9, H3.out.2.2.1, HI.out]; rfl
              case measure => have := HI.out; simp [intOf]; omega
          · obtain rfl : j = q := by omega
            have q1 : ¬ ((p0 : Int) + (j : Int) < (p0 : Int) + (j : Int)) := by omega
            have hL1 : (pr ++ [x]).map (·.2.2) = eraseB m s [m.2] p0 j := by
              have := HER.out
              rw [Nat.sub_self] at this
              exact this
            have HL1 := Lib.hid hL1
            have lwc := HBW.out.size
            obtain ⟨d0, d1, d2, d3, d4⟩ := box5 (K6.out.next HBW.out)
            have hgl : gen + 1 < 4294967296 := by omega
            have wg : IntKind.u32.wrap ((gen : Int) + 1) = (gen : Int) + 1 := by simp [IntKind.wrap, IntKind.bits, IntKind.signed]; omega
            have H4 := four_any (gen + 1) hgl wr
            rw [Int.natCast_succ] at H4
            have H4H := Lib.hid H4
            clear hL1 H4 hgl
            go_wp2_with fail
            refine H4H.out.mono ?_
            rintro e Y ⟨rfl, hY⟩
            obtain ⟨bx, hbx⟩ : ∃ bx, bx = be4 (gen + 1) := ⟨_, rfl⟩
            rw [← hbx] at hY
            have hbxl : bx.length = 4 := by rw [hbx]; exact be4_length _
            have kY : Bk Y wr.heap.size 5 (u8s bx).toArray := by rw [hY]; exact Bk.new _ _ _
            have hbY : Below wr.heap.size wr Y := by rw [hY]; exact al1 _ _
            have hOY : Y.ownsRow wr.heap.size 5 1 (.slice (some ⟨wr.heap.size, 0, none⟩) 4 4) 4 (u8s bx) := by
              have := own_block kY (Nat.le_refl _) (by simp; omega)
              simpa [hbxl] using this
            have HOY := Lib.hid hOY
            have HBY := Lib.hid hbY
            have HBX := Lib.hid hbx
            have HBXL := Lib.hid hbxl
            clear hY kY hbY hOY hbx H4H wg d0 d1 d2 d3 d4 hbxl
            obtain ⟨wo, hwo⟩ : ∃ wo : World, wo = wr := ⟨_, rfl⟩
            rw [← hwo] at HST HBW HOY HBY lwc ⊢
            clear hwo
            go_wp2
            go_loopw [14, 71] (fun v i wr2 => ∃ k : Nat, i = .int .i64 (k : Int) ∧ k ≤ keep.length ∧ wr2.ownsRow wo.heap.size 5 1 v (4 + room (keep.take k)) (u8s (bx ++ recs (keep.take k))) ∧ Below wo.heap.size wo wr2) (fun _ i _ => keep.length - (intOf i).toNat)
            case atStart => exact ⟨0, rfl, Nat.zero_le _, by simpa [room, recs] using HOY.out, HBY.out⟩
            case round =>
              obtain ⟨k, rfl, hk, hown, hb2⟩ := hrel
              have HO2 := Lib.hid hown
              have HB2 := Lib.hid hb2
              obtain ⟨Av, cv, rfl, hcv, hrv⟩ := own_read hown
              have hrt := room_take_le keep k
              by_cases hlt : k < keep.length
              · obtain ⟨b5, o5, A', c', rfl, hb5, hcell, hcc, hrd⟩ := (((HKP.out.next HB.out).next HBW.out).next HB2.out).at_ hlt
                obtain ⟨d, hd⟩ : ∃ d, d = keep[k] := ⟨_, rfl⟩
                rw [← hd] at hcell hcc hrd
                have hrs := room_take_succ hlt
                rw [← hd] at hrs
                have hrl := room_take_le keep (k + 1)
                have hd6 : d.length ≤ 60000 := by omega
                have HD := Lib.hid hd
                have HRD := Lib.hid hrd
                have HRS := Lib.hid hrs
                have k1 : (0 : Int) ≤ (k : Int) := by omega
                have k2 : (k : Int) < (keep.length : Int) := by omega
                clear hd hrd hown hb2 hrv
                go_wp2_with fail
                refine (pack_any d A' c' _ HRD.out hcc (by omega)).mono ?_
                rintro e V5 ⟨A3, c3, rfl, hc3, ho3, hb3⟩
                have HO3 := Lib.hid (own_on HO2.out hb3)
                obtain ⟨A3', c3', e3, _, hr3⟩ := own_read ho3
                have ea : A3 = A3' ∧ c3 = c3' := by simpa using e3
                have HR3 : Hid (RdS V5 V5.heap.size 1 A3 (7 + d.length) (u8s (recL d))) := by show RdS _ _ _ _ _ _; rw [ea.1]; exact hr3
                have HB3 := Lib.hid (bt hb3 HB2.out)
                have lb3 := HB3.out.size
                have hrk : room (keep.take k) + 7 + d.length ≤ 60000 := by omega
                clear ho3 e3 ea hr3 hb3 hrs
                go_wp2_with (at_builtin; refine wpList_append_rd _ rfl (.tmp 75) (.tmp 77) _ rfl wo.heap.size 5 i0 _ 1 1 Tryz.underlying22 hi hz0 hz1 hz2 rfl (by omega) (.slice Av (4 + room (keep.take k)) cv) (4 + room (keep.take k)) (u8s (bx ++ recs (keep.take k))) rfl HO3.out V5.heap.size A3 (7 + d.length) c3 (u8s (recL d)) rfl HR3.out (u8s_one _) (by simp only [maxLen]; omega) (by omega) lb3 ?_; intro v6 w6 hown6 hg6 hat6; have hb6 : Below wo.heap.size wo w6 := (HB3.out.grown hg6 lb3 (fun k hk => (own_lt HO3.out hk).1)); have ho6 : w6.ownsRow wo.heap.size 5 1 v6 (4 + room (keep.take (k + 1))) (u8s (bx ++ recs (keep.take (k + 1)))) := (by rw [HRS.out, List.take_succ_eq_append_getElem hlt, recs_append, ← HD.out]; rw [show recs [d] = recL d by simp [recs]]; have := hown6; rw [← u8s_append] at this; rw [← List.append_assoc, ← Nat.add_assoc]; exact this); have HO6 := Lib.hid ho6; have HB6 := Lib.hid hb6; clear hown6 hg6 hat6 ho6 hb6)
                go_roundw
                case rel => exact ⟨k + 1, by go_num, by omega, HO6.out, HB6.out⟩
                case measure => simp [intOf]; omega
              · obtain rfl : k = keep.length := by omega
                have q2 : ¬ ((keep.length : Int) < (keep.length : Int)) := by omega
                rw [List.take_of_length_le (Nat.le_refl _)] at hrv hcv ⊢
                obtain ⟨txt, htxt⟩ : ∃ txt, txt = bx ++ recs keep := ⟨_, rfl⟩
                have htl : 4 + room keep = txt.length := by rw [htxt, List.length_append, recs_length, HBXL.out]
                rw [← htxt] at hrv
                rw [htl] at hrv hcv ⊢
                have HRT : Hid (RdB wr wr.heap.size Av txt) := hrv
                have HTX := Lib.hid htxt
                have HTL := Lib.hid htl
                obtain ⟨h0n, hh0⟩ : ∃ h0n, h0n = ot * n2 := ⟨_, rfl⟩
                have hh1 : h0n + n2 ≤ 2 * n2 := by
                  rw [hh0]
                  have : ot * n2 ≤ 1 * n2 := Nat.mul_le_mul_right _ hot2
                  omega
                have e3 : (ot : Int) * (n2 : Int) = (h0n : Int) := by rw [hh0]; simp
                have hT0 : 0 < txt.length := by omega
                have hT1 : txt.length + 1 ≤ n2 := by omega
                have HH0 := Lib.hid hh0
                have H5 := st_program Wc.heap.size sp (s : Int) pr x (h0n + 1) txt Av cv wr (HST.out.next HB2.out) hsp' (by rw [HXL.out, ← HSS.out]; exact HV2.out) HRT.out (by rw [HXL.out]; omega) hT0 (by omega)
                rw [Int.natCast_succ] at H5
                have H5H := Lib.hid H5
                clear H5 hh0 htxt hrv hown hb2 htl
                go_wp2_with fail
                refine H5H.out.mono ?_
                rintro e W5 ⟨⟨u5, rfl⟩, ⟨l5, hlm5, hst5⟩, ht5⟩
                have hll5 : l5.length = txt.length := by have := congrArg List.length hlm5; simpa [memos_length] using this
                have hlx5 : ∀ y ∈ l5, y.2.2.length = m.2.length := by
                  intro y hy
                  have : y.2.2 ∈ l5.map (·.2.2) := List.mem_map.2 ⟨y, hy, rfl⟩
                  rw [hlm5] at this
                  have := List.mem_of_mem_drop this
                  obtain ⟨r, _, hr⟩ := List.mem_map.1 this
                  rw [← hr, memo_length]; exact HXL.out
                have hadd5 : (pr ++ [x] ++ l5).map (·.2.2) = addB ((pr ++ [x]).map (·.2.2)) (andF txt) (h0n + 1) txt.length := by
                  unfold addB
                  rw [List.map_append, hlm5]
                  simp
                have HB5 := Lib.hid ((HBW.out.trans (HB2.out.mono lwc)).trans (ht5.below hsp' (by have := HB2.out.size; omega)))
                obtain ⟨p5, x5, rfl⟩ : ∃ p5 x5, l5 = p5 ++ [x5] := by
                  have hne5 : l5 ≠ [] := by intro e; rw [e] at hll5; simp at hll5; omega
                  exact ⟨l5.dropLast, l5.getLast hne5, (List.dropLast_concat_getLast hne5).symm⟩
                have hx5 : x5.2.2.length = m.2.length := hlx5 x5 (by simp)
                rw [← List.append_assoc] at hst5 hadd5
                have hpl : (pr ++ [x] ++ p5).length ≤ 100000 := by
                  simp at hll5 ⊢
                  omega
                have HS5 := Lib.hid hst5
                have HA5 := Lib.hid hadd5
                have HX5 := Lib.hid hx5
                clear hst5 hadd5 hx5 hlx5 hll5 ht5 hlm5 H5H
                go_wp2_with fail
                obtain ⟨U9, hU9⟩ : ∃ Zz, Zz = W5.alloc (.cells #[.int .u8 80] 5) := ⟨_, rfl⟩
                have hb9 : Below W5.heap.size W5 U9 := by rw [hU9]; exact al1 _ _
                have k9 : Bk U9 W5.heap.size 5 (u8s [80]).toArray := by rw [hU9]; exact Bk.new _ _ _
                rw [← hU9]
                clear hU9
                have H6 := st_program Wc.heap.size sp (s : Int) (pr ++ [x] ++ p5) x5 h0n [80] (some ⟨W5.heap.size, 0, none⟩) 1 U9 (HS5.out.next hb9) hsp' (by rw [HX5.out, ← HSS.out]; exact HV2.out) (RdB.of_bk k9 k9.lt) (by rw [HX5.out]; simp; omega) (by simp) hpl
                refine H6.mono ?_
                rintro e W6 ⟨⟨u6, rfl⟩, ⟨l6, hlm6, hst6⟩, ht6⟩
                have HB6 := Lib.hid ((HB5.out.trans (hb9.mono HB5.out.size)).trans (ht6.below hsp' (by have := HB5.out.size; have := hb9.size; omega)))
                have hadd6 : (pr ++ [x] ++ p5 ++ [x5] ++ l6).map (·.2.2) = addB ((pr ++ [x] ++ p5 ++ [x5]).map (·.2.2)) (andF [80]) h0n 1 := add_map _ x5 l6 _ _ _ hlm6
                have HS6 := Lib.hid hst6
                have HA6 := Lib.hid hadd6
                clear hst6 hadd6 hlm6 ht6 H6 k9 hb9
                go_wp2_with fail
                refine (result_any _ sp (s : Int) _ W6 HS6.out).mono ?_
                rintro e _ ⟨v9, rfl, hm9, rfl⟩
                obtain ⟨A9, c9, rfl, _, _⟩ := own_read hm9.1
                obtain ⟨nn, hnn⟩ : ∃ nn, nn = (pr ++ [x] ++ p5 ++ [x5] ++ l6).length := ⟨_, rfl⟩
                rw [← hnn] at hm9 ⊢
                clear hnn
                have HM9 := Lib.hid hm9
                clear hm9
                go_wp2
                go_ret2
                refine ⟨_, _, ?_, HM9.out.mono HB.out.size, ?_, bt HB6.out HB.out⟩
                · rw [HZ.out.1]; rfl
                · rw [HZ.out.2, HA6.out, HA5.out, HL1.out]
                  have f1 : otherA m = ot := by unfold otherA; rw [HGA.out, HOT.out]
                  have f2 : hf m = n2 := HN2.out.symm
                  have f3 : m.1.toNat = s := by rw [HSS.out]; simp
                  have f4 : hf m / s = j := by rw [← HQ4.out]; rfl
                  have f5 : txtB m keep = txt := by unfold txtB; rw [← HGEN.out, ← HBX.out, ← HTX.out]
                  unfold rewB
                  rw [f1, f3, f4, f5, f2, ← HH0.out, ← HP0.out]
  · go_enter Tryz.func21, Tryz.ntmps21
    go_wp2_with fail
    obtain ⟨U, hU⟩ : ∃ Zz, Zz = w.alloc (.cells #[.int .i64 m.1, .slice A m.2.length c] 24) := ⟨_, rfl⟩
    have hb1 : Below w.heap.size w U := by rw [hU]; exact al1 _ _
    have k2 : Bk U w.heap.size 24 #[.int .i64 m.1, .slice A m.2.length c] := by rw [hU]; exact Bk.new _ _ _
    rw [← hU]
    clear hU
    refine (look_any m A c _ (HA.out.next hb1) hc).mono ?_
    rintro e V ⟨v, its, rfl, hrw, hmap, hbV⟩
    obtain ⟨Ar, cr, rfl, hcr, _⟩ := own_read hrw.1
    have K2 := Lib.hid (k2.next hbV)
    have HB := Lib.hid (bt hbV hb1)
    have HRW := Lib.hid hrw
    have HMP := Lib.hid hmap
    clear hrw hmap hbV hb1 k2
    have e0 : (lookE m != 0) = true := by simp [h0]
    have HZ : Hid (rewE m keep = lookE m ∧ rewL m keep = []) := by
      have h1 : rewE m keep = lookE m := by unfold rewE; rw [if_neg h0]
      exact ⟨h1, by unfold rewL; rw [h1, if_neg h0]⟩
    obtain ⟨c0, c1⟩ := box2 K2.out
    go_wp2
    go_ret2
    exact ⟨.slice none 0 0, [], by rw [HZ.out.1]; rfl, Ms.nil _ _ _, by rw [HZ.out.2]; rfl, bt (al1 _ _) HB.out⟩
end Go.Proofs.YthebojaminploaaGreatDoor
