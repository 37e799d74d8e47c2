/- cards: merge where all of the first list are less than the one element of the second; Join of one more. -/
import Derived.Test.YthihhmlgpokomaaWd
import Derived.Test.YthihhmlgpokomaaWe
import Derived.Test.YthihhmlgpokomaaApp
import Derived.Test.YthihhmlgpokomaaRound
import Derived.BigRegion
import Derived.Lib.QuietBelow
import Derived.Outline
set_option maxRecDepth 100000
set_option linter.unusedVariables false
set_option linter.unusedSimpArgs false
namespace Go.Proofs.Ythihhmlgpokomaa
open Go.RowKit Go.Sort

/-- how many elements are left -/
def lenOf : Value → Nat
  | .slice _ n _ => n
  | _ => 0
theorem rd_block {w : World} {B g n sz : Nat} {t : TypeId} {cs : List Value} (h : Bk w g t cs.toArray) (hg : g < B) (hl : cs.length = n * sz) : RdS w B sz (some ⟨g, 0, none⟩) n cs :=
  ⟨hl, fun _ => ⟨g, 0, rfl, hg, fun j u hu => by rw [Nat.zero_add, h.cell j, ← hu]; simp⟩⟩
theorem drop_get {l : List Vd} {k : Nat} (h : k < l.length) : (l.drop k).length = l.length - k ∧ l.drop k = l[k] :: l.drop (k + 1) := ⟨List.length_drop .., List.drop_eq_getElem_cons h⟩
set_option maxHeartbeats 1000000 in
theorem merge_tail (l : List Vd) (v : Vd) (A B : Option Addr) (c cb : Nat) (w : World) (hA : RdV w w.heap.size A l) (hc : l.length ≤ c) (hB : RdV w w.heap.size B [v]) (hl : ∀ i (h : i < l.length), l[i].n < v.n) (hn : l.length ≤ 64) (hcb : 1 ≤ cb) :
    Calls Try.prog 36 #[.slice A l.length c, .slice B 1 cb, .func (.func 37) #[] #[]] w fun e w' => ∃ A' c', e = .returned (.slice A' (l.length + 1) c') ∧ l.length + 1 ≤ c' ∧ RdV w' w'.heap.size A' (l ++ [v]) ∧ Below w.heap.size w w' := by
  obtain ⟨i0, hi, hz0, hz1, hz2⟩ := info_parts info_tv
  have HA := Lib.hid hA
  have HL := Lib.hid hl
  obtain ⟨bv, ov, rfl, hbv, v0, v1⟩ := rdV_at (i := 0) hB (by simp)
  simp only [List.getElem_cons_zero, Nat.zero_mul, Nat.add_zero] at v0 v1
  have HV : Hid (w.cell? ⟨bv, ov, none⟩ = some (.int .i64 v.n) ∧ w.cell? ⟨bv, ov + 1, none⟩ = some (.int .i64 v.e)) := Lib.hid ⟨v0, v1⟩
  have HBv := Lib.hid hB
  clear hA hB hl v0 v1
  go_enter Try.func36, Try.ntmps36
  go_wp2
  go_loopw [0, 1, 7] (fun a bq v' wr => ∃ (k : Nat) (A' : Option Addr) (c' : Nat), k ≤ l.length ∧ a = .slice A' (l.drop k).length c' ∧ bq = .slice (some ⟨bv, ov, none⟩) 1 cb ∧ (l.drop k).length ≤ c' ∧ RdV w w.heap.size A' (l.drop k) ∧ wr.ownsRow w.heap.size 60 2 v' k (encs vdE (l.take k)) ∧ Below w.heap.size w wr) (fun a _ _ _ => lenOf a)
  case atStart => exact ⟨0, A, c, Nat.zero_le _, rfl, rfl, hc, HA.out, World.ownsRow_nil _ _ _ _, Below.refl _ _⟩
  case round =>
    obtain ⟨k, A', c', hk, rfl, rfl, hc', hr, ho, hb⟩ := hrel
    have HR := Lib.hid hr
    have HO := Lib.hid ho
    have HB := Lib.hid hb
    clear hr ho hb
    by_cases hlt : k < l.length
    · obtain ⟨hdl, hdc⟩ := drop_get hlt
      obtain ⟨b, o, rfl, hbb, x0, x1⟩ := rdV_at (i := 0) (RdX.next HR.out HB.out) (by rw [hdl]; omega)
      obtain ⟨x, hx⟩ : ∃ x, x = l[k] := ⟨_, rfl⟩
      have hx0 : (l.drop k)[0]'(by rw [hdl]; omega) = x := by simp only [hdc, List.getElem_cons_zero, hx]
      rw [hx0] at x0 x1
      simp only [Nat.zero_mul, Nat.add_zero] at x0 x1
      obtain ⟨v0, v1⟩ : _ ∧ _ := ⟨(HB.out.cell (p := ⟨bv, ov, none⟩) hbv).trans HV.out.1, (HB.out.cell (p := ⟨bv, ov + 1, none⟩) hbv).trans HV.out.2⟩
      have HX := Lib.hid hx
      have hlx : x.n < v.n := by rw [hx]; exact HL.out k hlt
      obtain ⟨n, hn⟩ : ∃ n, n = (l.drop k).length := ⟨_, rfl⟩
      rw [← hn] at hc' ⊢
      have hn1 : n = l.length - k := by rw [hn, hdl]
      have hn2 : (0 : Int) < (n : Int) := by omega
      have HN := Lib.hid hn1
      clear hx hx0 hdl hdc hn hn1
      go_wp2
      refine region_S (fun w' => w'.cell? ⟨b, o, none⟩ = some (.int .i64 x.n) ∧ w'.cell? ⟨b, o + 1, none⟩ = some (.int .i64 x.e) ∧ w'.cell? ⟨bv, ov, none⟩ = some (.int .i64 v.n) ∧ w'.cell? ⟨bv, ov + 1, none⟩ = some (.int .i64 v.e)) 9 (by kernel_rfl) ?_
      obtain ⟨W0, hW0⟩ : ∃ Zz, Zz = wr.drew := ⟨_, rfl⟩
      have hb0 : Below wr.heap.size wr W0 := by rw [hW0]; exact (Below.refl _ wr).drew
      rw [← hW0]
      clear hW0
      have HKS : Hid (∀ w', Below wr.heap.size wr w' → (w'.cell? ⟨b, o, none⟩ = some (.int .i64 x.n) ∧ w'.cell? ⟨b, o + 1, none⟩ = some (.int .i64 x.e) ∧ w'.cell? ⟨bv, ov, none⟩ = some (.int .i64 v.n) ∧ w'.cell? ⟨bv, ov + 1, none⟩ = some (.int .i64 v.e))) := Lib.hid (fun w' hW => ⟨(hW.cell (p := ⟨b, o, none⟩) hbb).trans x0, (hW.cell (p := ⟨b, o + 1, none⟩) hbb).trans x1, (hW.cell (p := ⟨bv, ov, none⟩) (Nat.lt_of_lt_of_le hbv HB.out.size)).trans v0, (hW.cell (p := ⟨bv, ov + 1, none⟩) (Nat.lt_of_lt_of_le hbv HB.out.size)).trans v1⟩)
      clear x0 x1 v0 v1
      have HS0 := HKS.out _ hb0
      refine anyS_take (i := 0) rfl (by kernel_rfl) (by kernel_rfl) (by kernel_rfl) (by kernel_rfl) (fun _ _ _ h => h) (Or.inl ⟨by rfl, fun w' hS' => (by obtain ⟨s1, s2, s3, s4⟩ := hS'; go_simp; try with_reducible rfl)⟩) HS0 ?_
      refine anyS_take (i := 1) rfl (by kernel_rfl) (by kernel_rfl) (by kernel_rfl) (by kernel_rfl) (fun _ _ _ h => h) (Or.inl ⟨by rfl, fun w' hS' => (by obtain ⟨s1, s2, s3, s4⟩ := hS'; go_simp; try with_reducible rfl)⟩) HS0 ?_
      refine anyS_take (i := 2) rfl (by kernel_rfl) (by kernel_rfl) (by kernel_rfl) (by kernel_rfl) (fun _ _ _ h => h) (Or.inl ⟨by rfl, fun w' hS' => (by obtain ⟨s1, s2, s3, s4⟩ := hS'; go_simp; try with_reducible rfl)⟩) HS0 ?_
      refine anyS_take (i := 3) rfl (by kernel_rfl) (by kernel_rfl) (by kernel_rfl) (by kernel_rfl) (fun _ _ _ h => h) (Or.inl ⟨by rfl, fun w' hS' => (by obtain ⟨s1, s2, s3, s4⟩ := hS'; go_simp; try with_reducible rfl)⟩) HS0 ?_
      refine anyS_take (i := 4) rfl (by kernel_rfl) (by kernel_rfl) (by kernel_rfl) (by kernel_rfl) (fun _ _ _ h => h) (Or.inl ⟨by rfl, fun w' hS' => (by obtain ⟨s1, s2, s3, s4⟩ := hS'; go_simp; try with_reducible rfl)⟩) HS0 ?_
      refine anyS_take (i := 5) rfl (by kernel_rfl) (by kernel_rfl) (by kernel_rfl) (by kernel_rfl) (fun _ _ _ h => h) (Or.inl ⟨by rfl, fun w' hS' => (by obtain ⟨s1, s2, s3, s4⟩ := hS'; go_simp; try with_reducible rfl)⟩) HS0 ?_
      clear HS0
      refine anyS_two (i := 6) (j := 7) (by kernel_rfl) rfl rfl rfl rfl (fun K_ hK => ?_) (fun K_ hK => ?_)
      · go_simp
        obtain ⟨W1, hW1⟩ : ∃ Zz, Zz = W0.alloc (.cells #[.int .i64 0, .int .i64 0] 60) := ⟨_, rfl⟩
        have hx : Below W0.heap.size W0 W1 := by rw [hW1]; exact al1 _ _
        have kp : Bk W1 W0.heap.size 60 #[.int .i64 0, .int .i64 0] := by rw [hW1]; exact Bk.new _ _ _
        rw [← hW1]
        clear hW1
        obtain ⟨p, hp⟩ : ∃ p, p = W0.heap.size := ⟨_, rfl⟩
        rw [← hp] at kp ⊢
        have hb1 := bt hx hb0
        have lp : wr.heap.size ≤ p := by rw [hp]; exact hb0.size
        refine hK _ _ (fun _ => HKS.out _ hb1) ?_
        clear hK K_ hp
        refine anyS_one (i := 7) (by kernel_rfl) rfl rfl (fun K_ hK => ?_)
        go_simp
        obtain ⟨W2, hW2⟩ : ∃ Zz, Zz = W1.alloc (.cells #[.int .i64 0, .int .i64 0] 60) := ⟨_, rfl⟩
        have hx2 : Below W1.heap.size W1 W2 := by rw [hW2]; exact al1 _ _
        have kq : Bk W2 W1.heap.size 60 #[.int .i64 0, .int .i64 0] := by rw [hW2]; exact Bk.new _ _ _
        rw [← hW2]
        clear hW2
        obtain ⟨q, hq⟩ : ∃ q, q = W1.heap.size := ⟨_, rfl⟩
        rw [← hq] at kq ⊢
        have hb2 := bt hx2 hb1
        have lq : wr.heap.size ≤ q := by rw [hq]; exact hb1.size
        have hne : p ≠ q := by have := kp.lt; omega
        replace kp := kp.next hx2
        refine hK _ _ (fun _ => HKS.out _ hb2) ?_
        clear hK K_ hq hx hx2 hb1
        obtain ⟨a0, a1⟩ := box2 kp
        have f0 := kp.frozen 0
        have f1 := kp.frozen 1
        have lp := kp.lt
        refine anyS_one (i := 8) (by kernel_rfl) rfl rfl (fun K_ hK => ?_)
        go_simp
        clear a0 a1 f0 f1 lp
        obtain ⟨W3, hW3⟩ : ∃ Zz, Zz = (W2.setCell ⟨p, 0, none⟩ (.int .i64 x.n)).setCell ⟨p, 1, none⟩ (.int .i64 x.e) := ⟨_, rfl⟩
        have hb3 : Below wr.heap.size wr W3 := by rw [hW3]; exact (hb2.setCell (p := ⟨p, 0, none⟩) lp _).setCell (p := ⟨p, 1, none⟩) lp _
        have mp : Bk W3 p 60 #[.int .i64 x.n, .int .i64 x.e] := by rw [hW3]; exact (by simpa using (kp.set 0 (.int .i64 x.n)).set 1 (.int .i64 x.e))
        have mq : Bk W3 q 60 #[.int .i64 0, .int .i64 0] := by rw [hW3]; exact ((kq.far (p := ⟨p, 0, none⟩) (Ne.symm hne) _).far (p := ⟨p, 1, none⟩) (Ne.symm hne) _)
        rw [← hW3]
        clear hW3
        refine hK _ _ (fun _ => HKS.out _ hb3) ?_
        clear hK K_ hb2 kp kq
        have kp := mp
        have kq := mq
        clear mp mq
        obtain ⟨a0, a1⟩ := box2 kq
        have f0 := kq.frozen 0
        have f1 := kq.frozen 1
        have lp := kq.lt
        refine anyS_one (i := 9) (by kernel_rfl) rfl rfl (fun K_ hK => ?_)
        go_simp
        clear a0 a1 f0 f1 lp
        obtain ⟨W4, hW4⟩ : ∃ Zz, Zz = (W3.setCell ⟨q, 0, none⟩ (.int .i64 v.n)).setCell ⟨q, 1, none⟩ (.int .i64 v.e) := ⟨_, rfl⟩
        have hb4 : Below wr.heap.size wr W4 := by rw [hW4]; exact (hb3.setCell (p := ⟨q, 0, none⟩) lq _).setCell (p := ⟨q, 1, none⟩) lq _
        have mq : Bk W4 q 60 #[.int .i64 v.n, .int .i64 v.e] := by rw [hW4]; exact (by simpa using (kq.set 0 (.int .i64 v.n)).set 1 (.int .i64 v.e))
        have mp : Bk W4 p 60 #[.int .i64 x.n, .int .i64 x.e] := by rw [hW4]; exact ((kp.far (p := ⟨q, 0, none⟩) (hne) _).far (p := ⟨q, 1, none⟩) (hne) _)
        rw [← hW4]
        clear hW4
        refine hK _ _ (fun h => absurd rfl h) ?_
        clear hK K_ hb3 kp kq
        refine anyS_done (by kernel_rfl) ?_ _
        simp only [normPost]
        have KP := Lib.hid mp
        have KQ := Lib.hid mq
        have HB4 := Lib.hid hb4
        clear mp mq hb0 hb4 HKS
        obtain ⟨c0, c1⟩ := box2 KP.out
        obtain ⟨d0, d1⟩ := box2 KQ.out
        have na := na_v x
        have me := me_v x
        have nb := na_v v
        have mf := me_v v
        have ltp := KP.out.lt
        have ltq := KQ.out.lt
        go_wp2
        have Rc0 := cell_regrown c0
        have Rc1 := cell_regrown c1
        have Rd0 := cell_regrown d0
        have Rd1 := cell_regrown d1
        have CN := fun (d : Nat) (os : Array Obj) => Calls.regrown_of (vNumber x (grow (redrawn W4 d) os))
        have CM := fun (d : Nat) (os : Array Obj) => Calls.regrown_of (vNumber v (grow (redrawn W4 d) os))
        refine wp_region_quiet_below (by kernel_rfl) (by kernel_rfl) ?_
        repeat (first | go_big_quiet_step (first | (with_reducible exact CN _ _) | (with_reducible exact CM _ _)) | quiet_step (first | (with_reducible exact CN _ _) | (with_reducible exact CM _ _)))
        refine wpQuiet_nil ?_
        intro _ hw'
        obtain ⟨⟨dq, osq⟩, hw''⟩ := hw'
        subst hw''
        obtain ⟨V5, hV5⟩ : ∃ V, V = grow (redrawn W4 dq) osq := ⟨_, rfl⟩
        have hbV5 : Below W4.heap.size W4 V5 := by rw [hV5]; exact below_regrown _ _ _
        rw [← hV5]
        clear hV5
        clear Rc0
        clear Rc1
        clear Rd0
        clear Rd1
        clear CN
        clear CM
        replace KP := Lib.hid (KP.out.next hbV5)
        have HB5 := Lib.hid (bt hbV5 HB4.out)
        clear hbV5 KQ HB4 c0 c1 d0 d1 na me nb mf ltp ltq
        obtain ⟨c0, c1⟩ := box2 KP.out
        have hn3 : (1 : Int) ≤ (n : Int) := by omega
        have hn4 : (n : Int) ≤ (c' : Int) := by omega
        have hnn : 1 ≤ n := by omega
        go_wp2
        refine region_S (fun w' => w'.cell? ⟨p, 0, none⟩ = some (.int .i64 x.n) ∧ w'.cell? ⟨p, 1, none⟩ = some (.int .i64 x.e)) 7 (by kernel_rfl) ?_
        obtain ⟨W6, hW6⟩ : ∃ Zz, Zz = V5.drew := ⟨_, rfl⟩
        have hb6 : Below V5.heap.size V5 W6 := by rw [hW6]; exact (Below.refl _ V5).drew
        rw [← hW6]
        clear hW6
        have HKS : Hid (∀ w', Below V5.heap.size V5 w' → (w'.cell? ⟨p, 0, none⟩ = some (.int .i64 x.n) ∧ w'.cell? ⟨p, 1, none⟩ = some (.int .i64 x.e))) := Lib.hid (fun w' hW => box2 (KP.out.next hW))
        have HS0 := HKS.out _ hb6
        clear c0 c1
        refine anyS_take (i := 0) rfl (by kernel_rfl) (by kernel_rfl) (by kernel_rfl) (by kernel_rfl) (fun _ _ _ h => h) (Or.inl ⟨by rfl, fun w' hS' => (by obtain ⟨s1, s2⟩ := hS'; go_simp; try with_reducible rfl)⟩) HS0 ?_
        refine anyS_take (i := 1) rfl (by kernel_rfl) (by kernel_rfl) (by kernel_rfl) (by kernel_rfl) (fun _ _ _ h => h) (Or.inl ⟨by rfl, fun w' hS' => (by obtain ⟨s1, s2⟩ := hS'; go_simp; try with_reducible rfl)⟩) HS0 ?_
        refine anyS_take (i := 4) rfl (by kernel_rfl) (by kernel_rfl) (by kernel_rfl) (by kernel_rfl) (fun _ _ _ h => h) (Or.inl ⟨by rfl, fun w' hS' => (by obtain ⟨s1, s2⟩ := hS'; go_simp; try with_reducible rfl)⟩) HS0 ?_
        refine anyS_take (i := 5) rfl (by kernel_rfl) (by kernel_rfl) (by kernel_rfl) (by kernel_rfl) (fun _ _ _ h => h) (Or.inl ⟨by rfl, fun w' hS' => (by obtain ⟨s1, s2⟩ := hS'; go_simp; try with_reducible rfl)⟩) HS0 ?_
        refine anyS_one (i := 2) (by kernel_rfl) rfl rfl (fun K_ hK => ?_)
        go_simp
        obtain ⟨W7, hW7⟩ : ∃ Zz, Zz = W6.alloc (.cells #[.int .i64 x.n, .int .i64 x.e] 60) := ⟨_, rfl⟩
        have hb7 : Below W6.heap.size W6 W7 := by rw [hW7]; exact al1 _ _
        have k7 : Bk W7 W6.heap.size 60 #[.int .i64 x.n, .int .i64 x.e] := by rw [hW7]; exact Bk.new _ _ _
        rw [← hW7]
        clear hW7
        have hb67 := bt hb7 hb6
        refine hK _ _ (fun _ => HKS.out _ hb67) ?_
        clear hK K_ HS0
        have HBW := Lib.hid (bt (bt hb67 HB5.out) HB.out)
        have HOW := Lib.hid (own_on HO.out (bt hb67 HB5.out))
        have KP7 := Lib.hid (KP.out.next hb67)
        have hs7 := k7.lt
        have hz7 := HBW.out.size
        have hnr : ∀ g, (u7 : Value).ownBlock = some g → g ≠ p := fun g hg e => by have := (own_lt HO.out hg).2; omega
        refine anyS_one (i := 3) (by kernel_rfl) rfl rfl (fun K_ hK => ?_)
        refine wp_append_rd _ (.tmp 43) (.tmp 45) _ (by rfl) w.heap.size 60 i0 _ 2 16 Try.underlying55 hi hz0 hz1 hz2 rfl (by omega) _ k (encs vdE (l.take k)) (by rfl) HOW.out W7.heap.size (some ⟨W6.heap.size, 0, none⟩) 1 1 [.int .i64 x.n, .int .i64 x.e] (by rfl) (rd_block (cs := [.int .i64 x.n, .int .i64 x.e]) k7 hs7 rfl) (by simp [Value.oneCell']) (by simp only [maxLen]; omega) (by omega) (by omega) ?_
        intro v2 w3 hown2 hg2 hat2
        have kp3 := Bk.grown KP7.out hg2 (fun e => hnr _ e.symm rfl)
        have HO3 : Hid (w3.ownsRow w.heap.size 60 2 v2 (k + 1) (encs vdE (l.take (k + 1)))) := by
          show w3.ownsRow _ _ _ _ _ _
          rw [List.take_succ_eq_append_getElem hlt, encs_snoc, ← HX.out]; exact hown2
        have HB3 : Hid (Below w.heap.size w w3) := own_grow HBW.out HOW.out hg2 hz7 (Nat.le_refl _)
        refine hK _ _ (fun _ => box2 kp3) ?_
        clear hK K_ hown2 hg2 hat2 hnr
        refine anyS_one (i := 6) (by kernel_rfl) rfl rfl (fun K_ hK => ?_)
        go_simp
        refine hK _ _ (fun _ => box2 kp3) ?_
        clear hK K_
        refine anyS_one (i := 7) (by kernel_rfl) rfl rfl (fun K_ hK => ?_)
        go_simp
        refine hK _ _ (fun h => absurd rfl h) ?_
        clear hK K_
        refine anyS_done (by kernel_rfl) ?_ _
        simp only [normPost]
        clear kp3 hb6 hb7 k7 hb67 hs7 hz7 HKS
        have hlen : (l.drop (k + 1)).length = n - 1 := by rw [List.length_drop]; have := HN.out; omega
        have HDR : Hid (RdV w w.heap.size (if c' = 1 then some ⟨b, o, none⟩ else some ⟨b, o + 2, none⟩) (l.drop (k + 1))) := by
          have h := RdX.drop vdE_len (k := 1) (c := c') HR.out (by rw [List.length_drop]; omega) (by rw [List.length_drop]; have := HN.out; omega)
          rw [List.drop_drop] at h
          exact Lib.hid (by simpa [add_mk] using h)
        have HLEN := Lib.hid hlen
        clear hlen
        go_wp2
        exact ⟨⟨k + 1, _, _, by omega, by rw [HLEN.out], rfl, by rw [HLEN.out]; omega, HDR.out, HO3.out, HB3.out⟩, by simp [lenOf]; omega⟩
      · go_simp
        obtain ⟨W1, hW1⟩ : ∃ Zz, Zz = W0.alloc (.cells #[.int .i64 0, .int .i64 0] 60) := ⟨_, rfl⟩
        have hx : Below W0.heap.size W0 W1 := by rw [hW1]; exact al1 _ _
        have kq : Bk W1 W0.heap.size 60 #[.int .i64 0, .int .i64 0] := by rw [hW1]; exact Bk.new _ _ _
        rw [← hW1]
        clear hW1
        obtain ⟨q, hq⟩ : ∃ p, p = W0.heap.size := ⟨_, rfl⟩
        rw [← hq] at kq ⊢
        have hb1 := bt hx hb0
        have lq : wr.heap.size ≤ q := by rw [hq]; exact hb0.size
        refine hK _ _ (fun _ => HKS.out _ hb1) ?_
        clear hK K_ hq
        refine anyS_one (i := 6) (by kernel_rfl) rfl rfl (fun K_ hK => ?_)
        go_simp
        obtain ⟨W2, hW2⟩ : ∃ Zz, Zz = W1.alloc (.cells #[.int .i64 0, .int .i64 0] 60) := ⟨_, rfl⟩
        have hx2 : Below W1.heap.size W1 W2 := by rw [hW2]; exact al1 _ _
        have kp : Bk W2 W1.heap.size 60 #[.int .i64 0, .int .i64 0] := by rw [hW2]; exact Bk.new _ _ _
        rw [← hW2]
        clear hW2
        obtain ⟨p, hp⟩ : ∃ q, q = W1.heap.size := ⟨_, rfl⟩
        rw [← hp] at kp ⊢
        have hb2 := bt hx2 hb1
        have lp : wr.heap.size ≤ p := by rw [hp]; exact hb1.size
        have hne : p ≠ q := by have := kq.lt; omega
        replace kq := kq.next hx2
        refine hK _ _ (fun _ => HKS.out _ hb2) ?_
        clear hK K_ hp hx hx2 hb1
        obtain ⟨a0, a1⟩ := box2 kp
        have f0 := kp.frozen 0
        have f1 := kp.frozen 1
        have lp := kp.lt
        refine anyS_one (i := 8) (by kernel_rfl) rfl rfl (fun K_ hK => ?_)
        go_simp
        clear a0 a1 f0 f1 lp
        obtain ⟨W3, hW3⟩ : ∃ Zz, Zz = (W2.setCell ⟨p, 0, none⟩ (.int .i64 x.n)).setCell ⟨p, 1, none⟩ (.int .i64 x.e) := ⟨_, rfl⟩
        have hb3 : Below wr.heap.size wr W3 := by rw [hW3]; exact (hb2.setCell (p := ⟨p, 0, none⟩) lp _).setCell (p := ⟨p, 1, none⟩) lp _
        have mp : Bk W3 p 60 #[.int .i64 x.n, .int .i64 x.e] := by rw [hW3]; exact (by simpa using (kp.set 0 (.int .i64 x.n)).set 1 (.int .i64 x.e))
        have mq : Bk W3 q 60 #[.int .i64 0, .int .i64 0] := by rw [hW3]; exact ((kq.far (p := ⟨p, 0, none⟩) (Ne.symm hne) _).far (p := ⟨p, 1, none⟩) (Ne.symm hne) _)
        rw [← hW3]
        clear hW3
        refine hK _ _ (fun _ => HKS.out _ hb3) ?_
        clear hK K_ hb2 kp kq
        have kp := mp
        have kq := mq
        clear mp mq
        obtain ⟨a0, a1⟩ := box2 kq
        have f0 := kq.frozen 0
        have f1 := kq.frozen 1
        have lp := kq.lt
        refine anyS_one (i := 9) (by kernel_rfl) rfl rfl (fun K_ hK => ?_)
        go_simp
        clear a0 a1 f0 f1 lp
        obtain ⟨W4, hW4⟩ : ∃ Zz, Zz = (W3.setCell ⟨q, 0, none⟩ (.int .i64 v.n)).setCell ⟨q, 1, none⟩ (.int .i64 v.e) := ⟨_, rfl⟩
        have hb4 : Below wr.heap.size wr W4 := by rw [hW4]; exact (hb3.setCell (p := ⟨q, 0, none⟩) lq _).setCell (p := ⟨q, 1, none⟩) lq _
        have mq : Bk W4 q 60 #[.int .i64 v.n, .int .i64 v.e] := by rw [hW4]; exact (by simpa using (kq.set 0 (.int .i64 v.n)).set 1 (.int .i64 v.e))
        have mp : Bk W4 p 60 #[.int .i64 x.n, .int .i64 x.e] := by rw [hW4]; exact ((kp.far (p := ⟨q, 0, none⟩) (hne) _).far (p := ⟨q, 1, none⟩) (hne) _)
        rw [← hW4]
        clear hW4
        refine hK _ _ (fun h => absurd rfl h) ?_
        clear hK K_ hb3 kp kq
        refine anyS_done (by kernel_rfl) ?_ _
        simp only [normPost]
        have KP := Lib.hid mp
        have KQ := Lib.hid mq
        have HB4 := Lib.hid hb4
        clear mp mq hb0 hb4 HKS
        obtain ⟨c0, c1⟩ := box2 KP.out
        obtain ⟨d0, d1⟩ := box2 KQ.out
        have na := na_v x
        have me := me_v x
        have nb := na_v v
        have mf := me_v v
        have ltp := KP.out.lt
        have ltq := KQ.out.lt
        go_wp2
        have Rc0 := cell_regrown c0
        have Rc1 := cell_regrown c1
        have Rd0 := cell_regrown d0
        have Rd1 := cell_regrown d1
        have CN := fun (d : Nat) (os : Array Obj) => Calls.regrown_of (vNumber x (grow (redrawn W4 d) os))
        have CM := fun (d : Nat) (os : Array Obj) => Calls.regrown_of (vNumber v (grow (redrawn W4 d) os))
        refine wp_region_quiet_below (by kernel_rfl) (by kernel_rfl) ?_
        repeat (first | go_big_quiet_step (first | (with_reducible exact CN _ _) | (with_reducible exact CM _ _)) | quiet_step (first | (with_reducible exact CN _ _) | (with_reducible exact CM _ _)))
        refine wpQuiet_nil ?_
        intro _ hw'
        obtain ⟨⟨dq, osq⟩, hw''⟩ := hw'
        subst hw''
        obtain ⟨V5, hV5⟩ : ∃ V, V = grow (redrawn W4 dq) osq := ⟨_, rfl⟩
        have hbV5 : Below W4.heap.size W4 V5 := by rw [hV5]; exact below_regrown _ _ _
        rw [← hV5]
        clear hV5
        clear Rc0
        clear Rc1
        clear Rd0
        clear Rd1
        clear CN
        clear CM
        replace KP := Lib.hid (KP.out.next hbV5)
        have HB5 := Lib.hid (bt hbV5 HB4.out)
        clear hbV5 KQ HB4 c0 c1 d0 d1 na me nb mf ltp ltq
        obtain ⟨c0, c1⟩ := box2 KP.out
        have hn3 : (1 : Int) ≤ (n : Int) := by omega
        have hn4 : (n : Int) ≤ (c' : Int) := by omega
        have hnn : 1 ≤ n := by omega
        go_wp2
        refine region_S (fun w' => w'.cell? ⟨p, 0, none⟩ = some (.int .i64 x.n) ∧ w'.cell? ⟨p, 1, none⟩ = some (.int .i64 x.e)) 7 (by kernel_rfl) ?_
        obtain ⟨W6, hW6⟩ : ∃ Zz, Zz = V5.drew := ⟨_, rfl⟩
        have hb6 : Below V5.heap.size V5 W6 := by rw [hW6]; exact (Below.refl _ V5).drew
        rw [← hW6]
        clear hW6
        have HKS : Hid (∀ w', Below V5.heap.size V5 w' → (w'.cell? ⟨p, 0, none⟩ = some (.int .i64 x.n) ∧ w'.cell? ⟨p, 1, none⟩ = some (.int .i64 x.e))) := Lib.hid (fun w' hW => box2 (KP.out.next hW))
        have HS0 := HKS.out _ hb6
        clear c0 c1
        refine anyS_take (i := 0) rfl (by kernel_rfl) (by kernel_rfl) (by kernel_rfl) (by kernel_rfl) (fun _ _ _ h => h) (Or.inl ⟨by rfl, fun w' hS' => (by obtain ⟨s1, s2⟩ := hS'; go_simp; try with_reducible rfl)⟩) HS0 ?_
        refine anyS_take (i := 1) rfl (by kernel_rfl) (by kernel_rfl) (by kernel_rfl) (by kernel_rfl) (fun _ _ _ h => h) (Or.inl ⟨by rfl, fun w' hS' => (by obtain ⟨s1, s2⟩ := hS'; go_simp; try with_reducible rfl)⟩) HS0 ?_
        refine anyS_take (i := 4) rfl (by kernel_rfl) (by kernel_rfl) (by kernel_rfl) (by kernel_rfl) (fun _ _ _ h => h) (Or.inl ⟨by rfl, fun w' hS' => (by obtain ⟨s1, s2⟩ := hS'; go_simp; try with_reducible rfl)⟩) HS0 ?_
        refine anyS_take (i := 5) rfl (by kernel_rfl) (by kernel_rfl) (by kernel_rfl) (by kernel_rfl) (fun _ _ _ h => h) (Or.inl ⟨by rfl, fun w' hS' => (by obtain ⟨s1, s2⟩ := hS'; go_simp; try with_reducible rfl)⟩) HS0 ?_
        refine anyS_one (i := 2) (by kernel_rfl) rfl rfl (fun K_ hK => ?_)
        go_simp
        obtain ⟨W7, hW7⟩ : ∃ Zz, Zz = W6.alloc (.cells #[.int .i64 x.n, .int .i64 x.e] 60) := ⟨_, rfl⟩
        have hb7 : Below W6.heap.size W6 W7 := by rw [hW7]; exact al1 _ _
        have k7 : Bk W7 W6.heap.size 60 #[.int .i64 x.n, .int .i64 x.e] := by rw [hW7]; exact Bk.new _ _ _
        rw [← hW7]
        clear hW7
        have hb67 := bt hb7 hb6
        refine hK _ _ (fun _ => HKS.out _ hb67) ?_
        clear hK K_ HS0
        have HBW := Lib.hid (bt (bt hb67 HB5.out) HB.out)
        have HOW := Lib.hid (own_on HO.out (bt hb67 HB5.out))
        have KP7 := Lib.hid (KP.out.next hb67)
        have hs7 := k7.lt
        have hz7 := HBW.out.size
        have hnr : ∀ g, (u7 : Value).ownBlock = some g → g ≠ p := fun g hg e => by have := (own_lt HO.out hg).2; omega
        refine anyS_one (i := 3) (by kernel_rfl) rfl rfl (fun K_ hK => ?_)
        refine wp_append_rd _ (.tmp 43) (.tmp 45) _ (by rfl) w.heap.size 60 i0 _ 2 16 Try.underlying55 hi hz0 hz1 hz2 rfl (by omega) _ k (encs vdE (l.take k)) (by rfl) HOW.out W7.heap.size (some ⟨W6.heap.size, 0, none⟩) 1 1 [.int .i64 x.n, .int .i64 x.e] (by rfl) (rd_block (cs := [.int .i64 x.n, .int .i64 x.e]) k7 hs7 rfl) (by simp [Value.oneCell']) (by simp only [maxLen]; omega) (by omega) (by omega) ?_
        intro v2 w3 hown2 hg2 hat2
        have kp3 := Bk.grown KP7.out hg2 (fun e => hnr _ e.symm rfl)
        have HO3 : Hid (w3.ownsRow w.heap.size 60 2 v2 (k + 1) (encs vdE (l.take (k + 1)))) := by
          show w3.ownsRow _ _ _ _ _ _
          rw [List.take_succ_eq_append_getElem hlt, encs_snoc, ← HX.out]; exact hown2
        have HB3 : Hid (Below w.heap.size w w3) := own_grow HBW.out HOW.out hg2 hz7 (Nat.le_refl _)
        refine hK _ _ (fun _ => box2 kp3) ?_
        clear hK K_ hown2 hg2 hat2 hnr
        refine anyS_one (i := 6) (by kernel_rfl) rfl rfl (fun K_ hK => ?_)
        go_simp
        refine hK _ _ (fun _ => box2 kp3) ?_
        clear hK K_
        refine anyS_one (i := 7) (by kernel_rfl) rfl rfl (fun K_ hK => ?_)
        go_simp
        refine hK _ _ (fun h => absurd rfl h) ?_
        clear hK K_
        refine anyS_done (by kernel_rfl) ?_ _
        simp only [normPost]
        clear kp3 hb6 hb7 k7 hb67 hs7 hz7 HKS
        have hlen : (l.drop (k + 1)).length = n - 1 := by rw [List.length_drop]; have := HN.out; omega
        have HDR : Hid (RdV w w.heap.size (if c' = 1 then some ⟨b, o, none⟩ else some ⟨b, o + 2, none⟩) (l.drop (k + 1))) := by
          have h := RdX.drop vdE_len (k := 1) (c := c') HR.out (by rw [List.length_drop]; omega) (by rw [List.length_drop]; have := HN.out; omega)
          rw [List.drop_drop] at h
          exact Lib.hid (by simpa [add_mk] using h)
        have HLEN := Lib.hid hlen
        clear hlen
        go_wp2
        exact ⟨⟨k + 1, _, _, by omega, by rw [HLEN.out], rfl, by rw [HLEN.out]; omega, HDR.out, HO3.out, HB3.out⟩, by simp [lenOf]; omega⟩
    · obtain rfl : k = l.length := by omega
      have h0 : (l.drop l.length).length = 0 := by simp
      rw [h0] at hc' ⊢
      have ho := HO.out
      rw [List.take_of_length_le (Nat.le_refl _)] at ho
      have HO9 := Lib.hid ho
      have hsz := HB.out.size
      clear ho h0
      go_wp2_with (first | (at_builtin; refine wpList_append_rd _ rfl (.tmp 63) (.tmp 64) _ rfl w.heap.size 60 i0 _ 2 16 Try.underlying55 hi hz0 hz1 hz2 rfl (by omega) _ l.length (encs vdE l) rfl HO9.out wr.heap.size A' 0 c' [] rfl RdS.nil (by simp) (by simp only [maxLen]; omega) (by omega) (by omega) ?_; intro v1 w1 hown1 hg1 hat1; have HB1 : Hid (Below w.heap.size w w1) := own_grow HB.out HO9.out hg1 hsz (Nat.le_refl _); have HO1 : Hid (w1.ownsRow w.heap.size 60 2 v1 l.length (encs vdE l)) := Lib.hid (by simpa using hown1); have lw1 := HB1.out.size; clear hown1 hg1 hat1) | (at_builtin; refine wpList_append_rd _ rfl (.tmp 65) (.tmp 66) _ rfl w.heap.size 60 i0 _ 2 16 Try.underlying55 hi hz0 hz1 hz2 rfl (by omega) v1 l.length (encs vdE l) rfl HO1.out w.heap.size (some ⟨bv, ov, none⟩) 1 cb (encs vdE [v]) rfl (RdX.below HBv.out HB1.out) (by simp [encs, vdE, Value.oneCell']) (by simp only [maxLen]; omega) (by omega) (by omega) ?_; intro v2 w2 hown2 hg2 hat2))
      have HB2 : Hid (Below w.heap.size w w2) := own_grow HB1.out HO1.out hg2 lw1 (Nat.le_refl _)
      have ho : w2.ownsRow w.heap.size 60 2 v2 (l ++ [v]).length (encs vdE (l ++ [v])) := by rw [List.length_append, encs_append]; exact hown2
      obtain ⟨A9, c9, rfl, hc9, hr9⟩ := own_rdx ho
      have e9 : (l ++ [v]).length = l.length + 1 := by simp
      rw [e9] at hc9 ⊢
      have HR9 := Lib.hid hr9
      clear ho hown2 hg2 hat2 hr9 e9
      go_wp2
      go_ret
      exact ⟨A9, c9, rfl, hc9, HR9.out, HB2.out⟩
theorem ok_snoc {l : List Vd} {v : Vd} (h : VOk (l ++ [v])) : VOk l ∧ VOk [v] ∧ ∀ i (h : i < l.length), l[i].n < v.n := by
  have h1 := h.take l.length
  rw [List.take_left] at h1
  refine ⟨h1, ⟨by simp, fun i hi => ?_, fun i hi => by simp at hi⟩, fun i hi => ?_⟩
  · have hi0 : i = 0 := by simpa using hi
    subst hi0
    have h2 := h.each l.length (by simp)
    simpa using h2
  · have h2 := h.lt l.length i (by simp) hi
    rw [List.getElem_append_left hi] at h2
    simpa using h2
theorem mapped_l (l : List Vd) (n : Nat) (hl : l.length = n) (A : Option Addr) (c : Nat) (w : World) (hn : l.length ≤ 1000) (hA : RdV w w.heap.size A l) :
    Calls Try.prog 38 #[.slice A n c, .func (.func 39) #[] #[]] w fun e w' => ∃ A' c', e = .returned (.slice A' n c') ∧ n ≤ c' ∧ RdV w' w'.heap.size A' l ∧ Below w.heap.size w w' := by
  subst hl; exact mapped_fv l A c w hn hA
set_option maxHeartbeats 1000000 in
theorem Join_tail (l : List Vd) (v : Vd) (A B : Option Addr) (c cb : Nat) (w : World) (h : VOk (l ++ [v])) (hA : RdV w w.heap.size A l) (hB : RdV w w.heap.size B [v]) :
    Calls Try.prog 15 #[.slice A l.length c, .slice B 1 cb] w fun e w' => ∃ A' c', e = .returned (.tuple #[.slice A' (l.length + 1) c', .int .i64 0]) ∧ l.length + 1 ≤ c' ∧ RdV w' w'.heap.size A' (l ++ [v]) ∧ Below w.heap.size w w' := by
  obtain ⟨h1, h2, h3⟩ := ok_snoc h
  have hln : l.length + 1 ≤ 64 := by have := h.len; simpa using this
  have HV1 := Lib.hid h1
  have HV2 := Lib.hid h2
  have HV3 := Lib.hid h3
  have HB := Lib.hid (Below.refl w.heap.size w)
  have F_a := Lib.hid hA
  have F_b := Lib.hid hB
  clear h h1 h2 h3 hA hB
  go_enter Try.func15, Try.ntmps15
  go_wp2_with fail
  refine (voidsOf_any l A c _ (by omega) F_a.out).mono ?_
  rintro e V1 ⟨A1, c1, rfl, hc1, r1, hb⟩
  have hB := hb
  replace F_a := Lib.hid (F_a.out.next hB)
  replace F_b := Lib.hid (F_b.out.next hB)
  replace HB := Lib.hid (bt hB HB.out)
  clear hb hB
  have F_1 := Lib.hid (r1)
  clear r1
  go_wp2_with fail
  refine (voidsOf_any [v] B cb _ (by simp) F_b.out).mono ?_
  rintro e V2 ⟨A2, c2, rfl, hc2, r2, hb⟩
  have hB := hb
  replace F_a := Lib.hid (F_a.out.next hB)
  replace F_b := Lib.hid (F_b.out.next hB)
  replace F_1 := Lib.hid (F_1.out.next hB)
  replace HB := Lib.hid (bt hB HB.out)
  clear hb hB
  have F_2 := Lib.hid (r2)
  clear r2
  simp only [List.length_singleton] at hc2 ⊢
  go_wp2_with fail
  refine (validList_v l A1 c1 _ HV1.out F_1.out).mono ?_
  rintro e V3 ⟨rfl, hb⟩
  have hB := hb
  replace F_a := Lib.hid (F_a.out.next hB)
  replace F_b := Lib.hid (F_b.out.next hB)
  replace F_1 := Lib.hid (F_1.out.next hB)
  replace F_2 := Lib.hid (F_2.out.next hB)
  replace HB := Lib.hid (bt hB HB.out)
  clear hb hB
  go_wp2_with fail
  refine (validList_v [v] A2 c2 _ HV2.out F_2.out).mono ?_
  rintro e V4 ⟨rfl, hb⟩
  have hB := hb
  replace F_a := Lib.hid (F_a.out.next hB)
  replace F_b := Lib.hid (F_b.out.next hB)
  replace F_1 := Lib.hid (F_1.out.next hB)
  replace F_2 := Lib.hid (F_2.out.next hB)
  replace HB := Lib.hid (bt hB HB.out)
  clear hb hB
  go_wp2_with fail
  refine (merge_tail l v A1 A2 c1 c2 _ F_1.out hc1 F_2.out HV3.out (by omega) hc2).mono ?_
  rintro e V5 ⟨A3, c3, rfl, hc3, r3, hb⟩
  have hB := hb
  replace F_a := Lib.hid (F_a.out.next hB)
  replace F_b := Lib.hid (F_b.out.next hB)
  replace F_1 := Lib.hid (F_1.out.next hB)
  replace F_2 := Lib.hid (F_2.out.next hB)
  replace HB := Lib.hid (bt hB HB.out)
  clear hb hB
  have F_3 := Lib.hid (r3)
  clear r3
  have q64 : ¬ (64 : Int) < ((l.length + 1 : Nat) : Int) := by omega
  have q65 : ¬ (64 : Int) < ((l.length : Int) + 1) := by omega
  have HL := Lib.hid (show (l ++ [v]).length = l.length + 1 by simp)
  go_wp2_with fail
  refine (mapped_l (l ++ [v]) (l.length + 1) HL.out A3 c3 _ (by simp; omega) F_3.out).mono ?_
  rintro e V6 ⟨A4, c4, rfl, hc4, r4, hb⟩
  have hB := hb
  replace F_a := Lib.hid (F_a.out.next hB)
  replace F_b := Lib.hid (F_b.out.next hB)
  replace F_1 := Lib.hid (F_1.out.next hB)
  replace F_2 := Lib.hid (F_2.out.next hB)
  replace F_3 := Lib.hid (F_3.out.next hB)
  replace HB := Lib.hid (bt hB HB.out)
  clear hb hB
  have F_4 := Lib.hid (r4)
  clear r4
  go_wp2
  go_ret2
  exact ⟨A4, c4, rfl, hc4, F_4.out, HB.out⟩
end Go.Proofs.Ythihhmlgpokomaa
