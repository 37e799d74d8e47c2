/- The walk of the law FlashOrder. -/
import Derived.Test.YtjfpnldijlbmiaaFwb
import Derived.Test.YtjfpnldijlbmiaaApp
import Derived.Test.YtjfpnldijlbmiaaReg
import Derived.Lib.QuietBelow
set_option linter.unusedVariables false
set_option linter.unusedSimpArgs false
namespace Go.Proofs.Ytjfpnldijlbmiaa
open Go.RowKit Go.Sort

theorem box2 {w : World} {k : Nat} {t : TypeId} {a b : Value} (h : Bk w k t #[a, b]) : w.cell? ⟨k, 0, none⟩ = some a ∧ w.cell? ⟨k, 1, none⟩ = some b := ⟨(boxFacts h).1, (boxFacts h).2.1⟩
theorem own_read {w : World} {base n sz : Nat} {e : TypeId} {v : Value} {xs : List Value} (h : w.ownsRow base e sz v n xs) : ∃ A c, v = .slice A n c ∧ n ≤ c ∧ RdS w w.heap.size sz A n xs := by
  have h' := h
  obtain ⟨h1, h2⟩ := h
  rcases h2 with ⟨rfl, rfl⟩ | ⟨g, cap, cur, rfl, _, _, hc, _⟩
  · have : xs = [] := List.eq_nil_of_length_eq_zero (by omega)
    subst this
    exact ⟨none, 0, rfl, Nat.le_refl _, RdS.nil⟩
  · exact ⟨some ⟨g, 0, none⟩, cap, rfl, hc, RdS.of_own h'⟩
theorem done_ok {m : Mem} {p : Int} {ds : List UInt8} (h : progE m p ds = 0) : doneM m p ds = (m.1, memo (andF ds) m.2 p.toNat ds.length) ∧ doneB m p ds = true := ⟨by rw [doneM, if_pos h], by simp [doneB, h]⟩
theorem done_len {m : Mem} {p : Int} {ds : List UInt8} : (doneM m p ds).2.length ≤ m.2.length := by
  unfold doneM; split
  · simp [memo_length]
  · exact Nat.zero_le _
/-- two programs in either order -/
theorem order_done {m : Mem} {p r : Int} {ds es : List UInt8} (h1 : progE m p ds = 0) (h2 : progE m r es = 0) :
    doneM (doneM m p ds) r es = doneM (doneM m r es) p ds ∧ doneB (doneM m p ds) r es = true ∧ doneB (doneM m r es) p ds = true := by
  have a := prog0_memo h2 (andF ds) p.toNat ds.length
  have b := prog0_memo h1 (andF es) r.toNat es.length
  rw [(done_ok h1).1, (done_ok h2).1]
  refine ⟨?_, (done_ok a).2, (done_ok b).2⟩
  rw [(done_ok a).1, (done_ok b).1]
  simp only [memo_order]
/-- two programs of one place -/
theorem common_done {m : Mem} {p : Int} {ds es : List UInt8} (h1 : progE m p ds = 0) (hl : es.length ≤ ds.length) :
    doneM (doneM m p ds) p es = doneM m p (commonB ds es ds.length) ∧ doneB (doneM m p ds) p es = true ∧ doneB m p (commonB ds es ds.length) = true := by
  obtain ⟨v, p0, p1⟩ := prog0 h1
  have a : progE (m.1, memo (andF ds) m.2 p.toNat ds.length) p es = 0 := prog0_of (by simpa [memo_length] using v) p0 (by simp only [memo_length]; omega)
  have b : progE m p (commonB ds es ds.length) = 0 := prog0_of v p0 (by rw [commonB_length]; exact p1)
  rw [(done_ok h1).1]
  refine ⟨?_, (done_ok a).2, (done_ok b).2⟩
  rw [(done_ok a).1, (done_ok b).1]
  simp only [memo_common _ _ _ _ hl, commonB_length]
theorem own_empty1 {W : World} {g base : Nat} (h : at? W g = some (.cells #[] 5 (0, 0))) (hb : base ≤ g) : W.ownsRow base 5 1 (.slice (some ⟨g, 0, none⟩) 0 0) 0 [] :=
  ⟨rfl, .inr ⟨g, 0, #[], rfl, hb, h, Nat.le_refl _, by simp [maxLen], rfl, rfl⟩⟩
theorem u8s_setV (l : List UInt8) (i : Nat) (b : UInt8) : (u8s l).set i (.int .u8 (b.toNat : Int)) = u8s (l.set i b) := by simp [u8s, u8, List.map_set]

theorem done_at (M : Mem) (b : Bool) (m : Mem) (p : Int) (ds : List UInt8) (A Ad : Option Addr) (c len cd : Nat) (w : World) (hlen : ds.length = len) (hM : doneM m p ds = M) (hbb : doneB m p ds = b) (hA : RdB w w.heap.size A m.2) (hAd : RdB w w.heap.size Ad ds) (hn : m.2.length ≤ 1000000000) (hd : ds.length ≤ 100000000) (hp0 : -9223372036854775808 ≤ p) (hp1 : p ≤ 9223372036854775807) :
    Calls Try.prog 22 #[.agg #[.int .i64 m.1, .slice A m.2.length c], .int .i64 p, .slice Ad len cd] w (MemPost w M (.bool b)) := by rw [← hlen]; exact done_lit M b m p ds A Ad c cd w hM hbb hA hAd hn hd hp0 hp1

set_option maxRecDepth 100000 in
set_option maxHeartbeats 4000000 in
theorem FlashOrder_walk (m : Mem) (A Ad Ae : Option Addr) (c cd ce : Nat) (p r : Int) (ds es : List UInt8) (w : World) (hA : RdB w w.heap.size A m.2) (hD : RdB w w.heap.size Ad ds) (hE : RdB w w.heap.size Ae es)
    (p0 : -9223372036854775808 ≤ p) (p1 : p ≤ 9223372036854775807) (q0 : -9223372036854775808 ≤ r) (q1 : r ≤ 9223372036854775807) (hmx : m.2.length ≤ maxLen) (hdx : ds.length ≤ maxLen) (hex : es.length ≤ maxLen) :
    Calls Try.prog 7 #[.agg #[.int .i64 m.1, .slice A m.2.length c], .int .i64 p, .slice Ad ds.length cd, .int .i64 r, .slice Ae es.length ce] w fun e w' => e = .returned (.bool true) ∧ Below w.heap.size w w' := by
  unfold maxLen at hmx hdx hex
  by_cases g1 : m.2.length ≤ 300
  · have u1 : (m.2.length : Int) ≤ 300 := by omega
    by_cases g2 : ds.length ≤ 300
    · have u2 : (ds.length : Int) ≤ 300 := by omega
      by_cases g3 : es.length ≤ 300
      · have u3 : (es.length : Int) ≤ 300 := by omega
        by_cases h1 : progE m p ds = 0
        · have H1 := Lib.hid h1
          have HE1 : Hid (doneB m p ds = true) := by show _ = _; simp [doneB, h1]
          clear h1
          by_cases h2 : progE m r es = 0
          · have H2 := Lib.hid h2
            have HE2 : Hid (doneB m r es = true) := by show _ = _; simp [doneB, h2]
            clear h2
            have HB := Lib.hid (Below.refl w.heap.size w)
            have F_f := Lib.hid hA
            have F_d := Lib.hid hD
            have F_e := Lib.hid hE
            clear hA hD hE
            go_enter Try.func7, Try.ntmps7
            go_wp2_with fail
            refine (head_any _).mono ?_
            rintro e V1 ⟨rfl, hb⟩
            have hB := bt hb (al1 w _)
            have K_f : Hid (Bk V1 (w.heap.size) 24 #[.int .i64 m.1, .slice A m.2.length c]) := Bk.next (by first | exact Bk.new _ _ _ | exact (Bk.new _ _ _).alloc _ | exact bkOf (by simp [at?_alloc])) hb
            replace F_f := Lib.hid (F_f.out.next hB)
            replace F_d := Lib.hid (F_d.out.next hB)
            replace F_e := Lib.hid (F_e.out.next hB)
            replace HB := Lib.hid (bt hB HB.out)
            clear hb hB
            obtain ⟨c_f0, c_f1⟩ := box2 K_f.out
            have l_f := K_f.out.lt
            go_wp2_with fail
            clear c_f0 c_f1 l_f
            refine (done_lit (doneM m p ds) true m p ds A Ad c cd _ rfl HE1.out F_f.out F_d.out (by omega) (by omega) p0 p1).mono ?_
            rintro e V2 ⟨Aa, ca, rfl, hca, ra, hb⟩
            have hB := hb
            replace F_f := Lib.hid (F_f.out.next hB)
            replace F_d := Lib.hid (F_d.out.next hB)
            replace F_e := Lib.hid (F_e.out.next hB)
            replace K_f := Lib.hid (K_f.out.next hB)
            replace HB := Lib.hid (bt hB HB.out)
            clear hb hB
            have F_a := Lib.hid (ra)
            clear ra
            obtain ⟨c_f0, c_f1⟩ := box2 K_f.out
            have l_f := K_f.out.lt
            go_wp2_with fail
            clear c_f0 c_f1 l_f
            refine (done_lit (doneM m r es) true m r es A Ae c ce _ rfl HE2.out (F_f.out.next (al1 _ _)) (F_e.out.next (al1 _ _)) (by omega) (by omega) q0 q1).mono ?_
            rintro e V3 ⟨Ab, cb, rfl, hcb, rb, hb⟩
            have hB := bt hb (al1 V2 _)
            have K_a : Hid (Bk V3 (V2.heap.size) 24 #[.int .i64 ((doneM m p ds)).1, .slice Aa ((doneM m p ds)).2.length ca]) := Bk.next (by first | exact Bk.new _ _ _ | exact (Bk.new _ _ _).alloc _ | exact bkOf (by simp [at?_alloc])) hb
            replace F_f := Lib.hid (F_f.out.next hB)
            replace F_d := Lib.hid (F_d.out.next hB)
            replace F_e := Lib.hid (F_e.out.next hB)
            replace F_a := Lib.hid (F_a.out.next hB)
            replace K_f := Lib.hid (K_f.out.next hB)
            replace HB := Lib.hid (bt hB HB.out)
            clear hb hB
            have F_b := Lib.hid (rb)
            clear rb
            have la : (doneM m p ds).2.length ≤ m.2.length := done_len
            have lb : (doneM m r es).2.length ≤ m.2.length := done_len
            obtain ⟨od1, od2, od3⟩ := order_done H1.out H2.out
            have OD1 := Lib.hid od1
            have OD2 := Lib.hid od2
            have OD3 := Lib.hid od3
            clear od1 od2 od3
            have lc : (doneM (doneM m r es) p ds).2.length ≤ m.2.length := Nat.le_trans done_len lb
            obtain ⟨c_f0, c_f1⟩ := box2 K_f.out
            have l_f := K_f.out.lt
            obtain ⟨c_a0, c_a1⟩ := box2 K_a.out
            have l_a := K_a.out.lt
            go_wp2_with fail
            clear c_f0 c_f1 l_f
            clear c_a0 c_a1 l_a
            refine (done_lit (doneM (doneM m r es) p ds) true (doneM m p ds) r es Aa Ae ca ce _ OD1.out OD2.out (F_a.out.next (al1 _ _)) (F_e.out.next (al1 _ _)) (by omega) (by omega) q0 q1).mono ?_
            rintro e V4 ⟨Ac, cc, rfl, hcc, rc, hb⟩
            have hB := bt hb (al1 V3 _)
            have K_b : Hid (Bk V4 (V3.heap.size) 24 #[.int .i64 ((doneM m r es)).1, .slice Ab ((doneM m r es)).2.length cb]) := Bk.next (by first | exact Bk.new _ _ _ | exact (Bk.new _ _ _).alloc _ | exact bkOf (by simp [at?_alloc])) hb
            replace F_f := Lib.hid (F_f.out.next hB)
            replace F_d := Lib.hid (F_d.out.next hB)
            replace F_e := Lib.hid (F_e.out.next hB)
            replace F_a := Lib.hid (F_a.out.next hB)
            replace F_b := Lib.hid (F_b.out.next hB)
            replace K_f := Lib.hid (K_f.out.next hB)
            replace K_a := Lib.hid (K_a.out.next hB)
            replace HB := Lib.hid (bt hB HB.out)
            clear hb hB
            have F_c := Lib.hid (rc)
            clear rc
            obtain ⟨c_f0, c_f1⟩ := box2 K_f.out
            have l_f := K_f.out.lt
            obtain ⟨c_a0, c_a1⟩ := box2 K_a.out
            have l_a := K_a.out.lt
            obtain ⟨c_b0, c_b1⟩ := box2 K_b.out
            have l_b := K_b.out.lt
            go_wp2_with fail
            clear c_f0 c_f1 l_f
            clear c_a0 c_a1 l_a
            clear c_b0 c_b1 l_b
            refine (done_lit (doneM (doneM m r es) p ds) true (doneM m r es) p ds Ab Ad cb cd _ rfl OD3.out (F_b.out.next (al1 _ _)) (F_d.out.next (al1 _ _)) (by omega) (by omega) p0 p1).mono ?_
            rintro e V5 ⟨Ag, cg, rfl, hcg, rg, hb⟩
            have hB := bt hb (al1 V4 _)
            have K_c : Hid (Bk V5 (V4.heap.size) 24 #[.int .i64 ((doneM (doneM m r es) p ds)).1, .slice Ac ((doneM (doneM m r es) p ds)).2.length cc]) := Bk.next (by first | exact Bk.new _ _ _ | exact (Bk.new _ _ _).alloc _ | exact bkOf (by simp [at?_alloc])) hb
            replace F_f := Lib.hid (F_f.out.next hB)
            replace F_d := Lib.hid (F_d.out.next hB)
            replace F_e := Lib.hid (F_e.out.next hB)
            replace F_a := Lib.hid (F_a.out.next hB)
            replace F_b := Lib.hid (F_b.out.next hB)
            replace F_c := Lib.hid (F_c.out.next hB)
            replace K_f := Lib.hid (K_f.out.next hB)
            replace K_a := Lib.hid (K_a.out.next hB)
            replace K_b := Lib.hid (K_b.out.next hB)
            replace HB := Lib.hid (bt hB HB.out)
            clear hb hB
            have F_g := Lib.hid (rg)
            clear rg
            obtain ⟨c_f0, c_f1⟩ := box2 K_f.out
            have l_f := K_f.out.lt
            obtain ⟨c_a0, c_a1⟩ := box2 K_a.out
            have l_a := K_a.out.lt
            obtain ⟨c_b0, c_b1⟩ := box2 K_b.out
            have l_b := K_b.out.lt
            obtain ⟨c_c0, c_c1⟩ := box2 K_c.out
            have l_c := K_c.out.lt
            go_wp2_with fail
            clear c_f0 c_f1 l_f
            clear c_a0 c_a1 l_a
            clear c_b0 c_b1 l_b
            clear c_c0 c_c1 l_c
            refine (Same_same (doneM (doneM m r es) p ds) Ac Ag cc cg _ (F_c.out.next (al1 _ _)) (F_g.out.next (al1 _ _)) (by omega)).mono ?_
            rintro e V6 ⟨rfl, hb⟩
            have hB := bt hb (al1 V5 _)
            have K_g : Hid (Bk V6 (V5.heap.size) 24 #[.int .i64 ((doneM (doneM m r es) p ds)).1, .slice Ag ((doneM (doneM m r es) p ds)).2.length cg]) := Bk.next (by first | exact Bk.new _ _ _ | exact (Bk.new _ _ _).alloc _ | exact bkOf (by simp [at?_alloc])) hb
            replace F_f := Lib.hid (F_f.out.next hB)
            replace F_d := Lib.hid (F_d.out.next hB)
            replace F_e := Lib.hid (F_e.out.next hB)
            replace F_a := Lib.hid (F_a.out.next hB)
            replace F_b := Lib.hid (F_b.out.next hB)
            replace F_c := Lib.hid (F_c.out.next hB)
            replace F_g := Lib.hid (F_g.out.next hB)
            replace K_f := Lib.hid (K_f.out.next hB)
            replace K_a := Lib.hid (K_a.out.next hB)
            replace K_b := Lib.hid (K_b.out.next hB)
            replace K_c := Lib.hid (K_c.out.next hB)
            replace HB := Lib.hid (bt hB HB.out)
            clear hb hB
            obtain ⟨i0, hi, hz0, hz1, hz2⟩ := info_parts info_u8
            obtain ⟨c_f0, c_f1⟩ := box2 K_f.out
            have l_f := K_f.out.lt
            obtain ⟨c_a0, c_a1⟩ := box2 K_a.out
            have l_a := K_a.out.lt
            obtain ⟨c_b0, c_b1⟩ := box2 K_b.out
            have l_b := K_b.out.lt
            obtain ⟨c_c0, c_c1⟩ := box2 K_c.out
            have l_c := K_c.out.lt
            obtain ⟨c_g0, c_g1⟩ := box2 K_g.out
            have l_g := K_g.out.lt
            go_wp2_with (at_builtin; refine wpList_append_rd _ rfl (.tmp 89) (.tmp 90) _ rfl V6.heap.size 5 i0 _ 1 1 Try.underlying22 hi hz0 hz1 hz2 rfl (by omega) (.slice (some ⟨V6.heap.size, 0, none⟩) 0 0) 0 [] rfl (own_empty1 (by simp [at?_alloc]) (Nat.le_refl _)) V6.heap.size Ad ds.length cd (u8s ds) rfl (RdS.alloc F_d.out (Nat.le_refl _) _) (u8s_one ds) (by simp only [maxLen]; omega) (by omega) (by simp) ?_; intro v' w1 hown' hgrow hat; simp only [Nat.zero_add, List.nil_append] at hown'; obtain ⟨Ao, co, rfl, hco, hro⟩ := own_read hown')
            clear c_f0 c_f1 l_f
            clear c_a0 c_a1 l_a
            clear c_b0 c_b1 l_b
            clear c_c0 c_c1 l_c
            clear c_g0 c_g1 l_g
            have hbw : Below V6.heap.size V6 w1 := ((Below.refl _ _).alloc (Nat.le_refl _) _).grown hgrow (by simp) (by simp [Value.ownBlock])
            clear hgrow hat hro i0 hi hz0 hz1 hz2
            have HO0 := Lib.hid hown'
            have HBW := Lib.hid hbw
            clear hown' hbw
            go_loopw [94] (fun i wr => ∃ j : Nat, i = .int .i64 (j : Int) ∧ j ≤ ds.length ∧ wr.ownsRow V6.heap.size 5 1 (.slice Ao ds.length co) ds.length (u8s (commonB ds es j)) ∧ Below V6.heap.size V6 wr) (fun i _ => ds.length - (intOf i).toNat)
            case atStart => exact ⟨0, rfl, Nat.zero_le _, by rw [commonB_zero]; exact HO0.out, HBW.out⟩
            case round =>
              obtain ⟨j, rfl, hj, hown, hbr⟩ := hrel
              have HO := Lib.hid hown
              have HBR := Lib.hid hbr
              clear hown hbr
              by_cases hlt : j < ds.length
              · by_cases hle : j < es.length
                · obtain ⟨g, cap, hv, hgb, hgl⟩ := HO.out.form (by omega)
                  injection hv with hv1 _ hv2
                  subst hv1
                  subst hv2
                  have hcj : j < (commonB ds es j).length := by rw [commonB_length]; exact hlt
                  have a1 := HO.out.cellAt j (by omega)
                  rw [u8s_get (commonB ds es j) j hcj] at a1
                  have a2 := HO.out.frozenAt j
                  obtain ⟨b, o, rfl, hb1, a3⟩ := (F_e.out.next HBR.out).at_ (k := j) hle
                  have hand := and_u8 (commonB ds es j)[j] es[j]
                  have HN : Hid ((commonB ds es j).set j ((commonB ds es j)[j] &&& es[j]) = commonB ds es (j + 1)) := by
                    show _ = _
                    rw [commonB_next _ _ _ hle hlt]
                    congr 1
                    have h1 : (commonB ds es j).getD j 0 = (commonB ds es j)[j] := by rw [List.getD_eq_getElem?_getD, List.getElem?_eq_getElem hcj]; rfl
                    rw [← h1, commonB_get _ _ _ _ hlt, if_neg (by omega)]
                    rw [List.getD_eq_getElem?_getD (l := es), List.getElem?_eq_getElem hle]; rfl
                  obtain ⟨cv, hcv⟩ : ∃ v, v = (commonB ds es j)[j] := ⟨_, rfl⟩
                  obtain ⟨ev, hev⟩ : ∃ v, v = es[j] := ⟨_, rfl⟩
                  rw [← hcv, ← hev] at hand HN
                  rw [← hcv] at a1
                  rw [← hev] at a3
                  have cb := cv.toNat_lt
                  have eb := ev.toNat_lt
                  have k1 : (0 : Int) ≤ (j : Int) := by omega
                  have k2 : (j : Int) < (ds.length : Int) := by omega
                  have k3 : (j : Int) < (es.length : Int) := by omega
                  clear hcv hev hcj
                  have HS := Lib.hid (HO.out.stored j (.int .u8 ((cv &&& ev).toNat : Int))).1
                  go_wp2
                  refine region_tail 10 (by kernel_rfl) (by kernel_rfl) ?_
                  simp only [List.take_succ_cons, List.take_zero, List.drop_succ_cons, List.drop_zero]
                  repeat still_step
                  refine wpStill_nil ?_
                  go_wp2
                  go_roundw
                  case rel => exact ⟨j + 1, by go_num, by omega, by rw [← HN.out, ← u8s_setV]; exact HS.out, (HBR.out.setCell (p := ⟨g, j, none⟩) hgb _).drew⟩
                  case measure => simp [intOf]; omega
                · go_wp2
                  go_roundw
                  case rel => exact ⟨j + 1, by go_num, by omega, by rw [commonB_out _ _ _ (by omega)]; exact HO.out, HBR.out⟩
                  case measure => simp [intOf]; omega
              · obtain rfl : j = ds.length := by omega
                have hro := own_read HO.out
                obtain ⟨A', c', he, _, hrd⟩ := hro
                injection he with he1 _ he2
                subst he1
                subst he2
                have rdc : RdB wr wr.heap.size Ao (commonB ds es ds.length) := by unfold RdB; rw [commonB_length]; exact hrd
                have F_q := Lib.hid rdc
                clear rdc hrd
                replace F_f := Lib.hid (F_f.out.next HBR.out)
                replace F_d := Lib.hid (F_d.out.next HBR.out)
                replace F_e := Lib.hid (F_e.out.next HBR.out)
                replace F_a := Lib.hid (F_a.out.next HBR.out)
                replace F_b := Lib.hid (F_b.out.next HBR.out)
                replace F_c := Lib.hid (F_c.out.next HBR.out)
                replace F_g := Lib.hid (F_g.out.next HBR.out)
                replace K_f := Lib.hid (K_f.out.next HBR.out)
                replace K_a := Lib.hid (K_a.out.next HBR.out)
                replace K_b := Lib.hid (K_b.out.next HBR.out)
                replace K_c := Lib.hid (K_c.out.next HBR.out)
                replace K_g := Lib.hid (K_g.out.next HBR.out)
                replace HB := Lib.hid (bt HBR.out HB.out)
                by_cases hml : ds.length < es.length
                · have z9 : decide (ds.length < es.length) = true := decide_eq_true hml
                  have z9' : (ds.length : Int) < (es.length : Int) := by omega
                  obtain ⟨c_f0, c_f1⟩ := box2 K_f.out
                  have l_f := K_f.out.lt
                  obtain ⟨c_a0, c_a1⟩ := box2 K_a.out
                  have l_a := K_a.out.lt
                  obtain ⟨c_b0, c_b1⟩ := box2 K_b.out
                  have l_b := K_b.out.lt
                  obtain ⟨c_c0, c_c1⟩ := box2 K_c.out
                  have l_c := K_c.out.lt
                  obtain ⟨c_g0, c_g1⟩ := box2 K_g.out
                  have l_g := K_g.out.lt
                  go_wp2
                  go_ret
                  exact ⟨rfl, HB.out⟩
                · have z9' : (es.length : Int) ≤ (ds.length : Int) := by omega
                  obtain ⟨cd1, cd2, cd3⟩ := common_done H1.out (by omega : es.length ≤ ds.length)
                  have CD1 := Lib.hid cd1
                  have CD2 := Lib.hid cd2
                  have CD3 := Lib.hid cd3
                  clear cd1 cd2 cd3
                  have lx : (doneM m p (commonB ds es ds.length)).2.length ≤ m.2.length := done_len
                  obtain ⟨c_f0, c_f1⟩ := box2 K_f.out
                  have l_f := K_f.out.lt
                  obtain ⟨c_a0, c_a1⟩ := box2 K_a.out
                  have l_a := K_a.out.lt
                  obtain ⟨c_b0, c_b1⟩ := box2 K_b.out
                  have l_b := K_b.out.lt
                  obtain ⟨c_c0, c_c1⟩ := box2 K_c.out
                  have l_c := K_c.out.lt
                  obtain ⟨c_g0, c_g1⟩ := box2 K_g.out
                  have l_g := K_g.out.lt
                  go_wp2_with fail
                  clear c_f0 c_f1 l_f
                  clear c_a0 c_a1 l_a
                  clear c_b0 c_b1 l_b
                  clear c_c0 c_c1 l_c
                  clear c_g0 c_g1 l_g
                  refine (done_lit (doneM m p (commonB ds es ds.length)) true (doneM m p ds) p es Aa Ae ca ce _ CD1.out CD2.out F_a.out F_e.out (by omega) (by omega) p0 p1).mono ?_
                  rintro e V7 ⟨Ax, cx, rfl, hcx, rx, hb⟩
                  have hB := hb
                  replace F_f := Lib.hid (F_f.out.next hB)
                  replace F_d := Lib.hid (F_d.out.next hB)
                  replace F_e := Lib.hid (F_e.out.next hB)
                  replace F_a := Lib.hid (F_a.out.next hB)
                  replace F_b := Lib.hid (F_b.out.next hB)
                  replace F_c := Lib.hid (F_c.out.next hB)
                  replace F_g := Lib.hid (F_g.out.next hB)
                  replace F_q := Lib.hid (F_q.out.next hB)
                  replace K_f := Lib.hid (K_f.out.next hB)
                  replace K_a := Lib.hid (K_a.out.next hB)
                  replace K_b := Lib.hid (K_b.out.next hB)
                  replace K_c := Lib.hid (K_c.out.next hB)
                  replace K_g := Lib.hid (K_g.out.next hB)
                  replace HB := Lib.hid (bt hB HB.out)
                  clear hb hB
                  have F_x := Lib.hid (rx)
                  clear rx
                  obtain ⟨c_f0, c_f1⟩ := box2 K_f.out
                  have l_f := K_f.out.lt
                  obtain ⟨c_a0, c_a1⟩ := box2 K_a.out
                  have l_a := K_a.out.lt
                  obtain ⟨c_b0, c_b1⟩ := box2 K_b.out
                  have l_b := K_b.out.lt
                  obtain ⟨c_c0, c_c1⟩ := box2 K_c.out
                  have l_c := K_c.out.lt
                  obtain ⟨c_g0, c_g1⟩ := box2 K_g.out
                  have l_g := K_g.out.lt
                  go_wp2_with fail
                  clear c_f0 c_f1 l_f
                  clear c_a0 c_a1 l_a
                  clear c_b0 c_b1 l_b
                  clear c_c0 c_c1 l_c
                  clear c_g0 c_g1 l_g
                  refine (done_at (doneM m p (commonB ds es ds.length)) true m p (commonB ds es ds.length) A Ao c ds.length co _ (commonB_length _ _ _) rfl CD3.out (F_f.out.next (al1 _ _)) (F_q.out.next (al1 _ _)) (by omega) (by rw [commonB_length]; omega) p0 p1).mono ?_
                  rintro e V8 ⟨Ay, cy, rfl, hcy, ry, hb⟩
                  have hB := bt hb (al1 V7 _)
                  have K_x : Hid (Bk V8 (V7.heap.size) 24 #[.int .i64 ((doneM m p (commonB ds es ds.length))).1, .slice Ax ((doneM m p (commonB ds es ds.length))).2.length cx]) := Bk.next (by first | exact Bk.new _ _ _ | exact (Bk.new _ _ _).alloc _ | exact bkOf (by simp [at?_alloc])) hb
                  replace F_f := Lib.hid (F_f.out.next hB)
                  replace F_d := Lib.hid (F_d.out.next hB)
                  replace F_e := Lib.hid (F_e.out.next hB)
                  replace F_a := Lib.hid (F_a.out.next hB)
                  replace F_b := Lib.hid (F_b.out.next hB)
                  replace F_c := Lib.hid (F_c.out.next hB)
                  replace F_g := Lib.hid (F_g.out.next hB)
                  replace F_q := Lib.hid (F_q.out.next hB)
                  replace F_x := Lib.hid (F_x.out.next hB)
                  replace K_f := Lib.hid (K_f.out.next hB)
                  replace K_a := Lib.hid (K_a.out.next hB)
                  replace K_b := Lib.hid (K_b.out.next hB)
                  replace K_c := Lib.hid (K_c.out.next hB)
                  replace K_g := Lib.hid (K_g.out.next hB)
                  replace HB := Lib.hid (bt hB HB.out)
                  clear hb hB
                  have F_y := Lib.hid (ry)
                  clear ry
                  obtain ⟨c_f0, c_f1⟩ := box2 K_f.out
                  have l_f := K_f.out.lt
                  obtain ⟨c_a0, c_a1⟩ := box2 K_a.out
                  have l_a := K_a.out.lt
                  obtain ⟨c_b0, c_b1⟩ := box2 K_b.out
                  have l_b := K_b.out.lt
                  obtain ⟨c_c0, c_c1⟩ := box2 K_c.out
                  have l_c := K_c.out.lt
                  obtain ⟨c_g0, c_g1⟩ := box2 K_g.out
                  have l_g := K_g.out.lt
                  obtain ⟨c_x0, c_x1⟩ := box2 K_x.out
                  have l_x := K_x.out.lt
                  go_wp2_with fail
                  clear c_f0 c_f1 l_f
                  clear c_a0 c_a1 l_a
                  clear c_b0 c_b1 l_b
                  clear c_c0 c_c1 l_c
                  clear c_g0 c_g1 l_g
                  clear c_x0 c_x1 l_x
                  refine (Same_same (doneM m p (commonB ds es ds.length)) Ax Ay cx cy _ (F_x.out.next (al1 _ _)) (F_y.out.next (al1 _ _)) (by omega)).mono ?_
                  rintro e V9 ⟨rfl, hb⟩
                  have hB := bt hb (al1 V8 _)
                  have K_y : Hid (Bk V9 (V8.heap.size) 24 #[.int .i64 ((doneM m p (commonB ds es ds.length))).1, .slice Ay ((doneM m p (commonB ds es ds.length))).2.length cy]) := Bk.next (by first | exact Bk.new _ _ _ | exact (Bk.new _ _ _).alloc _ | exact bkOf (by simp [at?_alloc])) hb
                  replace F_f := Lib.hid (F_f.out.next hB)
                  replace F_d := Lib.hid (F_d.out.next hB)
                  replace F_e := Lib.hid (F_e.out.next hB)
                  replace F_a := Lib.hid (F_a.out.next hB)
                  replace F_b := Lib.hid (F_b.out.next hB)
                  replace F_c := Lib.hid (F_c.out.next hB)
                  replace F_g := Lib.hid (F_g.out.next hB)
                  replace F_q := Lib.hid (F_q.out.next hB)
                  replace F_x := Lib.hid (F_x.out.next hB)
                  replace F_y := Lib.hid (F_y.out.next hB)
                  replace K_f := Lib.hid (K_f.out.next hB)
                  replace K_a := Lib.hid (K_a.out.next hB)
                  replace K_b := Lib.hid (K_b.out.next hB)
                  replace K_c := Lib.hid (K_c.out.next hB)
                  replace K_g := Lib.hid (K_g.out.next hB)
                  replace K_x := Lib.hid (K_x.out.next hB)
                  replace HB := Lib.hid (bt hB HB.out)
                  clear hb hB
                  obtain ⟨c_f0, c_f1⟩ := box2 K_f.out
                  have l_f := K_f.out.lt
                  obtain ⟨c_a0, c_a1⟩ := box2 K_a.out
                  have l_a := K_a.out.lt
                  obtain ⟨c_b0, c_b1⟩ := box2 K_b.out
                  have l_b := K_b.out.lt
                  obtain ⟨c_c0, c_c1⟩ := box2 K_c.out
                  have l_c := K_c.out.lt
                  obtain ⟨c_g0, c_g1⟩ := box2 K_g.out
                  have l_g := K_g.out.lt
                  obtain ⟨c_x0, c_x1⟩ := box2 K_x.out
                  have l_x := K_x.out.lt
                  obtain ⟨c_y0, c_y1⟩ := box2 K_y.out
                  have l_y := K_y.out.lt
                  go_wp2
                  go_ret
                  exact ⟨rfl, HB.out⟩
          · have H2 := Lib.hid h2
            have HE2 : Hid (doneB m r es = false) := by show _ = _; simp [doneB, h2]
            clear h2
            have HB := Lib.hid (Below.refl w.heap.size w)
            have F_f := Lib.hid hA
            have F_d := Lib.hid hD
            have F_e := Lib.hid hE
            clear hA hD hE
            go_enter Try.func7, Try.ntmps7
            go_wp2_with fail
            refine (head_any _).mono ?_
            rintro e V1 ⟨rfl, hb⟩
            have hB := bt hb (al1 w _)
            have K_f : Hid (Bk V1 (w.heap.size) 24 #[.int .i64 m.1, .slice A m.2.length c]) := Bk.next (by first | exact Bk.new _ _ _ | exact (Bk.new _ _ _).alloc _ | exact bkOf (by simp [at?_alloc])) hb
            replace F_f := Lib.hid (F_f.out.next hB)
            replace F_d := Lib.hid (F_d.out.next hB)
            replace F_e := Lib.hid (F_e.out.next hB)
            replace HB := Lib.hid (bt hB HB.out)
            clear hb hB
            obtain ⟨c_f0, c_f1⟩ := box2 K_f.out
            have l_f := K_f.out.lt
            go_wp2_with fail
            clear c_f0 c_f1 l_f
            refine (done_lit (doneM m p ds) true m p ds A Ad c cd _ rfl HE1.out F_f.out F_d.out (by omega) (by omega) p0 p1).mono ?_
            rintro e V2 ⟨Aa, ca, rfl, hca, ra, hb⟩
            have hB := hb
            replace F_f := Lib.hid (F_f.out.next hB)
            replace F_d := Lib.hid (F_d.out.next hB)
            replace F_e := Lib.hid (F_e.out.next hB)
            replace K_f := Lib.hid (K_f.out.next hB)
            replace HB := Lib.hid (bt hB HB.out)
            clear hb hB
            have F_a := Lib.hid (ra)
            clear ra
            obtain ⟨c_f0, c_f1⟩ := box2 K_f.out
            have l_f := K_f.out.lt
            go_wp2_with fail
            clear c_f0 c_f1 l_f
            refine (done_lit (doneM m r es) false m r es A Ae c ce _ rfl HE2.out (F_f.out.next (al1 _ _)) (F_e.out.next (al1 _ _)) (by omega) (by omega) q0 q1).mono ?_
            rintro e V3 ⟨Ab, cb, rfl, hcb, rb, hb⟩
            have hB := bt hb (al1 V2 _)
            have K_a : Hid (Bk V3 (V2.heap.size) 24 #[.int .i64 ((doneM m p ds)).1, .slice Aa ((doneM m p ds)).2.length ca]) := Bk.next (by first | exact Bk.new _ _ _ | exact (Bk.new _ _ _).alloc _ | exact bkOf (by simp [at?_alloc])) hb
            replace F_f := Lib.hid (F_f.out.next hB)
            replace F_d := Lib.hid (F_d.out.next hB)
            replace F_e := Lib.hid (F_e.out.next hB)
            replace F_a := Lib.hid (F_a.out.next hB)
            replace K_f := Lib.hid (K_f.out.next hB)
            replace HB := Lib.hid (bt hB HB.out)
            clear hb hB
            have F_b := Lib.hid (rb)
            clear rb
            obtain ⟨c_f0, c_f1⟩ := box2 K_f.out
            have l_f := K_f.out.lt
            obtain ⟨c_a0, c_a1⟩ := box2 K_a.out
            have l_a := K_a.out.lt
            go_wp2
            go_ret
            exact ⟨rfl, bt (al1 _ _) HB.out⟩
        · have H1 := Lib.hid h1
          have HE1 : Hid (doneB m p ds = false) := by show _ = _; simp [doneB, h1]
          clear h1
          by_cases h2 : progE m r es = 0
          · have H2 := Lib.hid h2
            have HE2 : Hid (doneB m r es = true) := by show _ = _; simp [doneB, h2]
            clear h2
            have HB := Lib.hid (Below.refl w.heap.size w)
            have F_f := Lib.hid hA
            have F_d := Lib.hid hD
            have F_e := Lib.hid hE
            clear hA hD hE
            go_enter Try.func7, Try.ntmps7
            go_wp2_with fail
            refine (head_any _).mono ?_
            rintro e V1 ⟨rfl, hb⟩
            have hB := bt hb (al1 w _)
            have K_f : Hid (Bk V1 (w.heap.size) 24 #[.int .i64 m.1, .slice A m.2.length c]) := Bk.next (by first | exact Bk.new _ _ _ | exact (Bk.new _ _ _).alloc _ | exact bkOf (by simp [at?_alloc])) hb
            replace F_f := Lib.hid (F_f.out.next hB)
            replace F_d := Lib.hid (F_d.out.next hB)
            replace F_e := Lib.hid (F_e.out.next hB)
            replace HB := Lib.hid (bt hB HB.out)
            clear hb hB
            obtain ⟨c_f0, c_f1⟩ := box2 K_f.out
            have l_f := K_f.out.lt
            go_wp2_with fail
            clear c_f0 c_f1 l_f
            refine (done_lit (doneM m p ds) false m p ds A Ad c cd _ rfl HE1.out F_f.out F_d.out (by omega) (by omega) p0 p1).mono ?_
            rintro e V2 ⟨Aa, ca, rfl, hca, ra, hb⟩
            have hB := hb
            replace F_f := Lib.hid (F_f.out.next hB)
            replace F_d := Lib.hid (F_d.out.next hB)
            replace F_e := Lib.hid (F_e.out.next hB)
            replace K_f := Lib.hid (K_f.out.next hB)
            replace HB := Lib.hid (bt hB HB.out)
            clear hb hB
            have F_a := Lib.hid (ra)
            clear ra
            obtain ⟨c_f0, c_f1⟩ := box2 K_f.out
            have l_f := K_f.out.lt
            go_wp2_with fail
            clear c_f0 c_f1 l_f
            refine (done_lit (doneM m r es) true m r es A Ae c ce _ rfl HE2.out (F_f.out.next (al1 _ _)) (F_e.out.next (al1 _ _)) (by omega) (by omega) q0 q1).mono ?_
            rintro e V3 ⟨Ab, cb, rfl, hcb, rb, hb⟩
            have hB := bt hb (al1 V2 _)
            have K_a : Hid (Bk V3 (V2.heap.size) 24 #[.int .i64 ((doneM m p ds)).1, .slice Aa ((doneM m p ds)).2.length ca]) := Bk.next (by first | exact Bk.new _ _ _ | exact (Bk.new _ _ _).alloc _ | exact bkOf (by simp [at?_alloc])) hb
            replace F_f := Lib.hid (F_f.out.next hB)
            replace F_d := Lib.hid (F_d.out.next hB)
            replace F_e := Lib.hid (F_e.out.next hB)
            replace F_a := Lib.hid (F_a.out.next hB)
            replace K_f := Lib.hid (K_f.out.next hB)
            replace HB := Lib.hid (bt hB HB.out)
            clear hb hB
            have F_b := Lib.hid (rb)
            clear rb
            obtain ⟨c_f0, c_f1⟩ := box2 K_f.out
            have l_f := K_f.out.lt
            obtain ⟨c_a0, c_a1⟩ := box2 K_a.out
            have l_a := K_a.out.lt
            go_wp2
            go_ret
            exact ⟨rfl, bt (al1 _ _) HB.out⟩
          · have H2 := Lib.hid h2
            have HE2 : Hid (doneB m r es = false) := by show _ = _; simp [doneB, h2]
            clear h2
            have HB := Lib.hid (Below.refl w.heap.size w)
            have F_f := Lib.hid hA
            have F_d := Lib.hid hD
            have F_e := Lib.hid hE
            clear hA hD hE
            go_enter Try.func7, Try.ntmps7
            go_wp2_with fail
            refine (head_any _).mono ?_
            rintro e V1 ⟨rfl, hb⟩
            have hB := bt hb (al1 w _)
            have K_f : Hid (Bk V1 (w.heap.size) 24 #[.int .i64 m.1, .slice A m.2.length c]) := Bk.next (by first | exact Bk.new _ _ _ | exact (Bk.new _ _ _).alloc _ | exact bkOf (by simp [at?_alloc])) hb
            replace F_f := Lib.hid (F_f.out.next hB)
            replace F_d := Lib.hid (F_d.out.next hB)
            replace F_e := Lib.hid (F_e.out.next hB)
            replace HB := Lib.hid (bt hB HB.out)
            clear hb hB
            obtain ⟨c_f0, c_f1⟩ := box2 K_f.out
            have l_f := K_f.out.lt
            go_wp2_with fail
            clear c_f0 c_f1 l_f
            refine (done_lit (doneM m p ds) false m p ds A Ad c cd _ rfl HE1.out F_f.out F_d.out (by omega) (by omega) p0 p1).mono ?_
            rintro e V2 ⟨Aa, ca, rfl, hca, ra, hb⟩
            have hB := hb
            replace F_f := Lib.hid (F_f.out.next hB)
            replace F_d := Lib.hid (F_d.out.next hB)
            replace F_e := Lib.hid (F_e.out.next hB)
            replace K_f := Lib.hid (K_f.out.next hB)
            replace HB := Lib.hid (bt hB HB.out)
            clear hb hB
            have F_a := Lib.hid (ra)
            clear ra
            obtain ⟨c_f0, c_f1⟩ := box2 K_f.out
            have l_f := K_f.out.lt
            go_wp2_with fail
            clear c_f0 c_f1 l_f
            refine (done_lit (doneM m r es) false m r es A Ae c ce _ rfl HE2.out (F_f.out.next (al1 _ _)) (F_e.out.next (al1 _ _)) (by omega) (by omega) q0 q1).mono ?_
            rintro e V3 ⟨Ab, cb, rfl, hcb, rb, hb⟩
            have hB := bt hb (al1 V2 _)
            have K_a : Hid (Bk V3 (V2.heap.size) 24 #[.int .i64 ((doneM m p ds)).1, .slice Aa ((doneM m p ds)).2.length ca]) := Bk.next (by first | exact Bk.new _ _ _ | exact (Bk.new _ _ _).alloc _ | exact bkOf (by simp [at?_alloc])) hb
            replace F_f := Lib.hid (F_f.out.next hB)
            replace F_d := Lib.hid (F_d.out.next hB)
            replace F_e := Lib.hid (F_e.out.next hB)
            replace F_a := Lib.hid (F_a.out.next hB)
            replace K_f := Lib.hid (K_f.out.next hB)
            replace HB := Lib.hid (bt hB HB.out)
            clear hb hB
            have F_b := Lib.hid (rb)
            clear rb
            obtain ⟨c_f0, c_f1⟩ := box2 K_f.out
            have l_f := K_f.out.lt
            obtain ⟨c_a0, c_a1⟩ := box2 K_a.out
            have l_a := K_a.out.lt
            go_wp2
            go_ret
            exact ⟨rfl, bt (al1 _ _) HB.out⟩
      · have u3 : 300 < (es.length : Int) := by omega
        have HB := Lib.hid (Below.refl w.heap.size w)
        have F_f := Lib.hid hA
        have F_d := Lib.hid hD
        have F_e := Lib.hid hE
        clear hA hD hE
        go_enter Try.func7, Try.ntmps7
        go_wp2_with fail
        refine (head_any _).mono ?_
        rintro e V1 ⟨rfl, hb⟩
        have hB := bt hb (al1 w _)
        have K_f : Hid (Bk V1 (w.heap.size) 24 #[.int .i64 m.1, .slice A m.2.length c]) := Bk.next (by first | exact Bk.new _ _ _ | exact (Bk.new _ _ _).alloc _ | exact bkOf (by simp [at?_alloc])) hb
        replace F_f := Lib.hid (F_f.out.next hB)
        replace F_d := Lib.hid (F_d.out.next hB)
        replace F_e := Lib.hid (F_e.out.next hB)
        replace HB := Lib.hid (bt hB HB.out)
        clear hb hB
        obtain ⟨c_f0, c_f1⟩ := box2 K_f.out
        have l_f := K_f.out.lt
        go_wp2
        go_ret
        exact ⟨rfl, HB.out⟩
    · have u2 : 300 < (ds.length : Int) := by omega
      have HB := Lib.hid (Below.refl w.heap.size w)
      have F_f := Lib.hid hA
      have F_d := Lib.hid hD
      have F_e := Lib.hid hE
      clear hA hD hE
      go_enter Try.func7, Try.ntmps7
      go_wp2_with fail
      refine (head_any _).mono ?_
      rintro e V1 ⟨rfl, hb⟩
      have hB := bt hb (al1 w _)
      have K_f : Hid (Bk V1 (w.heap.size) 24 #[.int .i64 m.1, .slice A m.2.length c]) := Bk.next (by first | exact Bk.new _ _ _ | exact (Bk.new _ _ _).alloc _ | exact bkOf (by simp [at?_alloc])) hb
      replace F_f := Lib.hid (F_f.out.next hB)
      replace F_d := Lib.hid (F_d.out.next hB)
      replace F_e := Lib.hid (F_e.out.next hB)
      replace HB := Lib.hid (bt hB HB.out)
      clear hb hB
      obtain ⟨c_f0, c_f1⟩ := box2 K_f.out
      have l_f := K_f.out.lt
      go_wp2
      go_ret
      exact ⟨rfl, HB.out⟩
  · have u1 : 300 < (m.2.length : Int) := by omega
    have HB := Lib.hid (Below.refl w.heap.size w)
    have F_f := Lib.hid hA
    have F_d := Lib.hid hD
    have F_e := Lib.hid hE
    clear hA hD hE
    go_enter Try.func7, Try.ntmps7
    go_wp2_with fail
    refine (head_any _).mono ?_
    rintro e V1 ⟨rfl, hb⟩
    have hB := bt hb (al1 w _)
    have K_f : Hid (Bk V1 (w.heap.size) 24 #[.int .i64 m.1, .slice A m.2.length c]) := Bk.next (by first | exact Bk.new _ _ _ | exact (Bk.new _ _ _).alloc _ | exact bkOf (by simp [at?_alloc])) hb
    replace F_f := Lib.hid (F_f.out.next hB)
    replace F_d := Lib.hid (F_d.out.next hB)
    replace F_e := Lib.hid (F_e.out.next hB)
    replace HB := Lib.hid (bt hB HB.out)
    clear hb hB
    obtain ⟨c_f0, c_f1⟩ := box2 K_f.out
    have l_f := K_f.out.lt
    go_wp2
    go_ret
    exact ⟨rfl, HB.out⟩
end Go.Proofs.Ytjfpnldijlbmiaa
