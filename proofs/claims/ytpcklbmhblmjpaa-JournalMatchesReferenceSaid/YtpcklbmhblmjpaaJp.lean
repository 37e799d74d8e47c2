/- The law's helper head: fixed examples. -/
import Derived.Test.YtpcklbmhblmjpaaJo
set_option maxRecDepth 100000
set_option linter.unusedVariables false
set_option linter.unusedSimpArgs false
namespace Go.Proofs.Ytpcklbmhblmjpaa
open Go.RowKit Go.Sort Go.Shelf

theorem hd_n : (appM hd0 (List.replicate 21 0)).length = 0 := by decide +kernel
theorem hd_o : (lookC (32, List.replicate 64 0)).recs.length = 0 := by decide +kernel
theorem hd_p : fmtM 31 1 = (0, []) := by decide +kernel
theorem zeros_u8s (n : Nat) : zeros n = (u8s (List.replicate n 0)).toArray := by simp [zeros, u8s, u8]
theorem litB {W : World} {g : Nat} {bs : List UInt8} (h : at? W g = some (.cells (u8s bs).toArray 5 (0, 0))) : RdB W W.heap.size (some ⟨g, 0, none⟩) bs := RdB.of_bk (bkOf h) (bkOf h).lt
theorem rdBs_one {W : World} {B g : Nat} {t : TypeId} {A1 : Option Addr} {d1 : Rec} {c1 : Nat} (h : Bk W g t #[.slice A1 d1.length c1]) (hg : g < B) (h1 : RdB W B A1 d1) (k1 : d1.length ≤ c1) : RdBs W B (some ⟨g, 0, none⟩) [d1] :=
  fun _ => ⟨g, 0, rfl, hg, fun i d hd => by
    have hi : i = 0 := by
      by_cases h0 : i = 0
      · exact h0
      · rw [List.getElem?_eq_none (by simp; omega)] at hd; cases hd
    subst hi
    obtain rfl : d1 = d := by simpa using hd
    exact ⟨A1, c1, h.cell 0, k1, h1⟩⟩
theorem Format_lit (M : Mem) (E s k : Int) (w : World) (hM : fmtM s k = M) (hE : fmtE s k = E) (hs0 : -9223372036854775808 ≤ s) (hs1 : s ≤ 9223372036854775807) (hp0 : -9223372036854775808 ≤ k) (hp1 : k ≤ 9223372036854775807) :
    Calls Try.prog 5 #[.int .i64 s, .int .i64 k] w fun e w' => ∃ A c, e = .returned (.tuple #[.agg #[.int .i64 M.1, .slice A M.2.length c], .int .i64 E]) ∧ M.2.length ≤ c ∧ RdB w' w'.heap.size A M.2 ∧ Below w.heap.size w w' := by subst hM; subst hE; exact Format_any s k w hs0 hs1 hp0 hp1
theorem Append_lit (N : Nat) (E : Int) (n : Nat) (m : Mem) (d : Rec) (A Ad : Option Addr) (c cd : Nat) (w : World) (hN : (appM m d).length = N) (hE : appE m d = E) (hn : d.length = n) (hA : RdB w w.heap.size A m.2) (hc : m.2.length ≤ c) (hD : RdB w w.heap.size Ad d) (hcd : d.length ≤ cd) (hdl : d.length ≤ 1000000) :
    Calls Try.prog 12 #[.agg #[.int .i64 m.1, .slice A m.2.length c], .slice Ad n cd] w fun e w' => ∃ A c, e = .returned (.tuple #[.slice A N c, .int .i64 E]) ∧ N ≤ c ∧ RdFs w' w'.heap.size A (appM m d) ∧ Below w.heap.size w w' := by
  subst hN; subst hE; subst hn; exact Append_l m d A Ad c cd w hA hc hD hcd hdl
theorem Rewrite_lit (N : Nat) (E : Int) (n : Nat) (m : Mem) (keep : List Rec) (A Ad : Option Addr) (c cd : Nat) (w : World) (hN : (rewM m keep).length = N) (hE : rewE m keep = E) (hn : keep.length = n) (hA : RdB w w.heap.size A m.2) (hc : m.2.length ≤ c) (hD : RdBs w w.heap.size Ad keep) (hk1 : keep.length ≤ 10000) (hk2 : ∀ d ∈ keep, d.length ≤ 9223372036854775807) :
    Calls Try.prog 14 #[.agg #[.int .i64 m.1, .slice A m.2.length c], .slice Ad n cd] w fun e w' => ∃ A c, e = .returned (.tuple #[.slice A N c, .int .i64 E]) ∧ N ≤ c ∧ RdFs w' w'.heap.size A (rewM m keep) ∧ Below w.heap.size w w' := by
  subst hN; subst hE; subst hn; exact Rewrite_l m keep A Ad c cd w hA hc hD hk1 hk2
theorem last_lit (M : Mem) (n : Nat) (f : Mem) (l : List Mem) (e : Int) (A Al : Option Addr) (c cl : Nat) (w : World) (hM : lastM f l e = M) (hn : l.length = n) (hA : RdB w w.heap.size A f.2) (hc : f.2.length ≤ c) (hl : RdFs w w.heap.size Al l) (hll : l.length ≤ 1000000) :
    Calls Try.prog 18 #[.agg #[.int .i64 f.1, .slice A f.2.length c], .slice Al n cl, .int .i64 e] w (flashPost M w) := by subst hM; subst hn; exact last_l f l e A Al c cl w hA hc hl hll
theorem holds_lit (b : Bool) (n : Nat) (m : Mem) (want : List Rec) (A Aw : Option Addr) (c cw : Nat) (w : World) (hb : hldB m want = b) (hn : want.length = n) (hA : RdB w w.heap.size A m.2) (hc : m.2.length ≤ c) (hW : RdBs w w.heap.size Aw want) (m2 : want.length ≤ 1000000000) (n2 : ∀ d ∈ want, d.length ≤ 1000000000) :
    Calls Try.prog 19 #[.agg #[.int .i64 m.1, .slice A m.2.length c], .slice Aw n cw] w fun e w' => e = .returned (.bool b) ∧ Below w.heap.size w w' := by subst hb; subst hn; exact holds_any m want A Aw c cw w hA hc hW m2 n2
theorem Read_lit (E : Int) (N n : Nat) (s : Int) (m : Mem) (A : Option Addr) (c : Nat) (w : World) (hs : m.1 = s) (hE : lookE m = E) (hN : (lookC m).recs.length = N) (hn : m.2.length = n) (hA : RdB w w.heap.size A m.2) (hc : m.2.length ≤ c) :
    Calls Try.prog 10 #[.agg #[.int .i64 s, .slice A n c]] w fun e w' => ∃ A c, e = .returned (.tuple #[.slice A N c, .int .i64 E]) ∧ N ≤ c ∧ RdBs w' w'.heap.size A (lookC m).recs ∧ Below w.heap.size w w' := by
  subst hs; subst hE; subst hN; subst hn; exact Read_any m A c w hA hc

set_option maxHeartbeats 4000000 in
theorem head_any (w : World) : Calls Try.prog 4 #[] w fun e w' => e = .returned (.bool true) ∧ Below w.heap.size w w' := by
  have HB := Lib.hid (Below.refl w.heap.size w)
  go_enter Try.func4, Try.ntmps4
  go_wp2_with fail
  refine (Format_lit hd0 0 32 2 _ rfl hd_a (by omega) (by omega) (by omega) (by omega)).mono ?_
  rintro e V1 ⟨Af, cf, rfl, hcf, rf, hb⟩
  have hB := hb
  replace HB := Lib.hid (bt hB HB.out)
  clear hb hB
  have F_f := Lib.hid (rf)
  clear rf
  go_wp2_with fail
  refine (Append_lit 9 0 1 hd0 [7] Af (some ⟨V1.heap.size + 1, 0, none⟩) cf 1 _ hd_c hd_b rfl (F_f.out.next (al2 _ _ _)) hcf (litB (by simp [at?_alloc, u8s, u8])) (by simp) (by simp)).mono ?_
  rintro e V2 ⟨Aa, ca, rfl, hca, ra, hb⟩
  have hB := bt hb (al2 V1 _ _)
  have K_f : Hid (Bk V2 (V1.heap.size) 24 #[.int .i64 hd0.1, .slice Af hd0.2.length cf]) := Bk.next (by first | exact Bk.new _ _ _ | exact (Bk.new _ _ _).alloc _ | exact ((Bk.new _ _ _).alloc _).alloc _ | exact bkOf (by simp [at?_alloc])) hb
  replace F_f := Lib.hid (F_f.out.next hB)
  replace HB := Lib.hid (bt hB HB.out)
  clear hb hB
  have F_a := Lib.hid (ra)
  clear ra
  obtain ⟨c_f0, c_f1⟩ := box2 K_f.out
  have l_f := K_f.out.lt
  go_wp2_with fail
  clear c_f0 c_f1 l_f
  refine (last_lit hd1 9 hd0 (appM hd0 [7]) 0 Af Aa cf ca _ rfl hd_c F_f.out hcf F_a.out (by rw [hd_c]; omega)).mono ?_
  rintro e V3 ⟨A1, c1, rfl, hc1, r1, hb⟩
  have hB := hb
  replace F_f := Lib.hid (F_f.out.next hB)
  replace F_a := Lib.hid (F_a.out.next hB)
  replace K_f := Lib.hid (K_f.out.next hB)
  replace HB := Lib.hid (bt hB HB.out)
  clear hb hB
  have F_1 := Lib.hid (r1)
  clear r1
  clear F_a
  obtain ⟨N2, hN2⟩ : ∃ N, (appM hd1 []).length = N := ⟨_, rfl⟩
  obtain ⟨c_f0, c_f1⟩ := box2 K_f.out
  have l_f := K_f.out.lt
  go_wp2_with fail
  clear c_f0 c_f1 l_f
  refine (Append_lit N2 0 0 hd1 [] A1 none c1 0 _ hN2 hd_d rfl (F_1.out.next (al1 _ _)) hc1 RdS.nil (by simp) (by simp)).mono ?_
  rintro e V4 ⟨Ab, cb, rfl, hcb, rb, hb⟩
  have hB := bt hb (al1 V3 _)
  have K_1 : Hid (Bk V4 (V3.heap.size) 24 #[.int .i64 hd1.1, .slice A1 hd1.2.length c1]) := Bk.next (by first | exact Bk.new _ _ _ | exact (Bk.new _ _ _).alloc _ | exact ((Bk.new _ _ _).alloc _).alloc _ | exact bkOf (by simp [at?_alloc])) hb
  replace F_f := Lib.hid (F_f.out.next hB)
  replace F_1 := Lib.hid (F_1.out.next hB)
  replace K_f := Lib.hid (K_f.out.next hB)
  replace HB := Lib.hid (bt hB HB.out)
  clear hb hB
  have F_b := Lib.hid (rb)
  clear rb
  obtain ⟨c_f0, c_f1⟩ := box2 K_f.out
  have l_f := K_f.out.lt
  obtain ⟨c_10, c_11⟩ := box2 K_1.out
  have l_1 := K_1.out.lt
  go_wp2_with fail
  clear c_f0 c_f1 l_f
  clear c_10 c_11 l_1
  refine (last_lit hd2 N2 hd1 (appM hd1 []) 0 A1 Ab c1 cb _ rfl hN2 F_1.out hc1 F_b.out hd_m.1).mono ?_
  rintro e V5 ⟨A2, c2, rfl, hc2, r2, hb⟩
  have hB := hb
  replace F_f := Lib.hid (F_f.out.next hB)
  replace F_1 := Lib.hid (F_1.out.next hB)
  replace F_b := Lib.hid (F_b.out.next hB)
  replace K_f := Lib.hid (K_f.out.next hB)
  replace K_1 := Lib.hid (K_1.out.next hB)
  replace HB := Lib.hid (bt hB HB.out)
  clear hb hB
  have F_2 := Lib.hid (r2)
  clear r2
  clear F_b
  obtain ⟨N3, hN3⟩ : ∃ N, (rewM hd2 [[1, 2]]).length = N := ⟨_, rfl⟩
  obtain ⟨c_f0, c_f1⟩ := box2 K_f.out
  have l_f := K_f.out.lt
  obtain ⟨c_10, c_11⟩ := box2 K_1.out
  have l_1 := K_1.out.lt
  go_wp2_with fail
  clear c_f0 c_f1 l_f
  clear c_10 c_11 l_1
  refine (Rewrite_lit N3 0 1 hd2 [[1, 2]] A2 (some ⟨V5.heap.size + 1 + 1, 0, none⟩) c2 1 _ hN3 hd_e rfl (F_2.out.next (al3 _ _ _ _)) hc2 (rdBs_one (d1 := [1, 2]) (c1 := 2) (A1 := some ⟨V5.heap.size + 1, 0, none⟩) (t := 22) (bkOf (by simp [at?_alloc])) (by simp) (litB (by simp [at?_alloc, u8s, u8])) (by simp)) (by simp) (by simp)).mono ?_
  rintro e V6 ⟨Ac, cc, rfl, hcc, rc, hb⟩
  have hB := bt hb (al3 V5 _ _ _)
  have K_2 : Hid (Bk V6 (V5.heap.size) 24 #[.int .i64 hd2.1, .slice A2 hd2.2.length c2]) := Bk.next (by first | exact Bk.new _ _ _ | exact (Bk.new _ _ _).alloc _ | exact ((Bk.new _ _ _).alloc _).alloc _ | exact bkOf (by simp [at?_alloc])) hb
  replace F_f := Lib.hid (F_f.out.next hB)
  replace F_1 := Lib.hid (F_1.out.next hB)
  replace F_2 := Lib.hid (F_2.out.next hB)
  replace K_f := Lib.hid (K_f.out.next hB)
  replace K_1 := Lib.hid (K_1.out.next hB)
  replace HB := Lib.hid (bt hB HB.out)
  clear hb hB
  have F_c := Lib.hid (rc)
  clear rc
  obtain ⟨c_f0, c_f1⟩ := box2 K_f.out
  have l_f := K_f.out.lt
  obtain ⟨c_10, c_11⟩ := box2 K_1.out
  have l_1 := K_1.out.lt
  obtain ⟨c_20, c_21⟩ := box2 K_2.out
  have l_2 := K_2.out.lt
  go_wp2_with fail
  clear c_f0 c_f1 l_f
  clear c_10 c_11 l_1
  clear c_20 c_21 l_2
  refine (last_lit hd3 N3 hd2 (rewM hd2 [[1, 2]]) 0 A2 Ac c2 cc _ rfl hN3 F_2.out hc2 F_c.out hd_m.2).mono ?_
  rintro e V7 ⟨A3, c3, rfl, hc3, r3, hb⟩
  have hB := hb
  replace F_f := Lib.hid (F_f.out.next hB)
  replace F_1 := Lib.hid (F_1.out.next hB)
  replace F_2 := Lib.hid (F_2.out.next hB)
  replace F_c := Lib.hid (F_c.out.next hB)
  replace K_f := Lib.hid (K_f.out.next hB)
  replace K_1 := Lib.hid (K_1.out.next hB)
  replace K_2 := Lib.hid (K_2.out.next hB)
  replace HB := Lib.hid (bt hB HB.out)
  clear hb hB
  have F_3 := Lib.hid (r3)
  clear r3
  clear F_c
  obtain ⟨c_f0, c_f1⟩ := box2 K_f.out
  have l_f := K_f.out.lt
  obtain ⟨c_10, c_11⟩ := box2 K_1.out
  have l_1 := K_1.out.lt
  obtain ⟨c_20, c_21⟩ := box2 K_2.out
  have l_2 := K_2.out.lt
  go_wp2
  clear c_f0 c_f1 l_f
  clear c_10 c_11 l_1
  clear c_20 c_21 l_2
  obtain ⟨Uw, hUw⟩ : ∃ Zz, Zz = V7.alloc (.cells #[.int .i64 hd3.1, .slice A3 hd3.2.length c3] 24) := ⟨_, rfl⟩
  have hx : Below V7.heap.size V7 Uw := by rw [hUw]; exact al1 _ _
  have k3x : Bk Uw V7.heap.size 24 #[.int .i64 hd3.1, .slice A3 hd3.2.length c3] := by rw [hUw]; exact Bk.new _ _ _
  rw [← hUw]
  clear hUw
  replace F_f := Lib.hid (F_f.out.next hx)
  replace F_1 := Lib.hid (F_1.out.next hx)
  replace F_2 := Lib.hid (F_2.out.next hx)
  replace F_3 := Lib.hid (F_3.out.next hx)
  replace K_f := Lib.hid (K_f.out.next hx)
  replace K_1 := Lib.hid (K_1.out.next hx)
  replace K_2 := Lib.hid (K_2.out.next hx)
  replace HB := Lib.hid (bt hx HB.out)
  clear hx
  have K_3 := Lib.hid (k3x)
  clear k3x
  have hKS : ∀ w', Below Uw.heap.size Uw w' → (w'.cell? ⟨V1.heap.size, 0, none⟩ = some (.int .i64 hd0.1) ∧ w'.cell? ⟨V1.heap.size, 1, none⟩ = some (.slice Af hd0.2.length cf)) := fun w' hW => box2 (K_f.out.next hW)
  have HKS := Lib.hid hKS
  clear hKS
  have hmk : ∀ w, (Instr.makeSlice 22 (.int .i64 21) (.int .i64 21)).run Try.prog w = .ok (.slice (some ⟨w.heap.size, 0, none⟩) 21 21) (w.alloc (.cells (zeros 21) 5)) := fun w => run_make_u8 21 (by omega) w
  refine region_S (fun w' => w'.cell? ⟨V1.heap.size, 0, none⟩ = some (.int .i64 hd0.1) ∧ w'.cell? ⟨V1.heap.size, 1, none⟩ = some (.slice Af hd0.2.length cf)) 7 (by kernel_rfl) ?_
  obtain ⟨W0, hW0⟩ : ∃ Zz, Zz = Uw.drew := ⟨_, rfl⟩
  have hb0 : Below Uw.heap.size Uw W0 := by rw [hW0]; exact (Below.refl _ Uw).drew
  rw [← hW0]
  clear hW0
  have HS0 := HKS.out _ hb0
  refine anyS_take (i := 0) rfl (by kernel_rfl) (by kernel_rfl) (by kernel_rfl) (by kernel_rfl) (fun _ _ _ h => h) (Or.inl ⟨by rfl, fun w' hS' => (by obtain ⟨s1, s2⟩ := hS'; go_simp; try with_reducible rfl)⟩) HS0 ?_
  refine anyS_one (i := 1) (by kernel_rfl) rfl rfl (fun K hK => ?_)
  go_simp
  obtain ⟨W1, hW1⟩ : ∃ Zz, Zz = W0.alloc (.cells (zeros 21) 5) := ⟨_, rfl⟩
  have hx : Below W0.heap.size W0 W1 := by rw [hW1]; exact al1 _ _
  have k7 : Bk W1 W0.heap.size 5 (zeros 21) := by rw [hW1]; exact Bk.new _ _ _
  rw [← hW1]
  clear hW1
  have hb1 := bt hx hb0
  rw [zeros_u8s] at k7
  have HS1 := HKS.out _ hb1
  refine hK _ _ (fun _ => HS1) ?_
  clear hK K hx hmk HS0
  refine anyS_one (i := 2) (by kernel_rfl) rfl rfl (fun K hK => ?_)
  have HAP := Lib.hid (Append_lit 0 10 21 hd0 (List.replicate 21 0) Af (some ⟨W0.heap.size, 0, none⟩) cf 21 W1 hd_n hd_f (by simp) (F_f.out.next hb1) hcf (RdB.of_bk k7 k7.lt) (by simp) (by simp))
  go_simp
  refine HAP.out.mono ?_
  rintro e V8 ⟨Ad8, cd8, rfl, hc8, r8, hb8⟩
  have hB := bt hb8 hb1
  have HS2 := HKS.out _ hB
  go_simp
  refine hK _ _ (fun _ => HS2) ?_
  clear hK K HS1 r8 HAP
  refine anyS_take (i := 3) rfl (by kernel_rfl) (by kernel_rfl) (by kernel_rfl) (by kernel_rfl) (fun _ _ _ h => h) (Or.inl ⟨by rfl, fun w' hS' => (by obtain ⟨s1, s2⟩ := hS'; go_simp; try with_reducible rfl)⟩) HS2 ?_
  refine anyS_take (i := 4) rfl (by kernel_rfl) (by kernel_rfl) (by kernel_rfl) (by kernel_rfl) (fun _ _ _ h => h) (Or.inl ⟨by rfl, fun w' hS' => (by obtain ⟨s1, s2⟩ := hS'; go_simp; try with_reducible rfl)⟩) HS2 ?_
  refine anyS_take (i := 5) rfl (by kernel_rfl) (by kernel_rfl) (by kernel_rfl) (by kernel_rfl) (fun _ _ _ h => h) (Or.inl ⟨by rfl, fun w' hS' => (by obtain ⟨s1, s2⟩ := hS'; go_simp; try with_reducible rfl)⟩) HS2 ?_
  refine anyS_one (i := 6) (by kernel_rfl) rfl rfl (fun K hK => ?_)
  go_simp
  refine hK _ _ (fun _ => HS2) ?_
  clear hK K
  refine anyS_one (i := 7) (by kernel_rfl) rfl rfl (fun K hK => ?_)
  go_simp
  refine hK _ _ (fun h => absurd rfl h) ?_
  clear hK K
  refine anyS_done (by kernel_rfl) ?_ _
  simp only [normPost]
  clear HS2 HKS hb8 hb1 hb0 k7
  replace F_f := Lib.hid (F_f.out.next hB)
  replace F_1 := Lib.hid (F_1.out.next hB)
  replace F_2 := Lib.hid (F_2.out.next hB)
  replace F_3 := Lib.hid (F_3.out.next hB)
  replace K_f := Lib.hid (K_f.out.next hB)
  replace K_1 := Lib.hid (K_1.out.next hB)
  replace K_2 := Lib.hid (K_2.out.next hB)
  replace K_3 := Lib.hid (K_3.out.next hB)
  replace HB := Lib.hid (bt hB HB.out)
  clear hB
  have hmk : ∀ w, (Instr.makeSlice 22 (.int .i64 64) (.int .i64 64)).run Try.prog w = .ok (.slice (some ⟨w.heap.size, 0, none⟩) 64 64) (w.alloc (.cells (u8s (List.replicate 64 0)).toArray 5)) := fun w => by rw [← zeros_u8s]; exact run_make_u8 64 (by omega) w
  obtain ⟨c_f0, c_f1⟩ := box2 K_f.out
  have l_f := K_f.out.lt
  obtain ⟨c_10, c_11⟩ := box2 K_1.out
  have l_1 := K_1.out.lt
  obtain ⟨c_20, c_21⟩ := box2 K_2.out
  have l_2 := K_2.out.lt
  obtain ⟨c_30, c_31⟩ := box2 K_3.out
  have l_3 := K_3.out.lt
  go_wp2_with fail
  clear c_f0 c_f1 l_f
  clear c_10 c_11 l_1
  clear c_20 c_21 l_2
  clear c_30 c_31 l_3
  refine (Read_lit 4 0 64 32 (32, List.replicate 64 0) (some ⟨V8.heap.size, 0, none⟩) 64 _ rfl hd_g hd_o (by simp) (litB (by simp [at?_alloc])) (by simp)).mono ?_
  rintro e V9 ⟨A9, c9, rfl, hc9, r9, hb⟩
  have hB := bt hb (al1 V8 _)
  replace F_f := Lib.hid (F_f.out.next hB)
  replace F_1 := Lib.hid (F_1.out.next hB)
  replace F_2 := Lib.hid (F_2.out.next hB)
  replace F_3 := Lib.hid (F_3.out.next hB)
  replace K_f := Lib.hid (K_f.out.next hB)
  replace K_1 := Lib.hid (K_1.out.next hB)
  replace K_2 := Lib.hid (K_2.out.next hB)
  replace K_3 := Lib.hid (K_3.out.next hB)
  replace HB := Lib.hid (bt hB HB.out)
  clear hb hB
  clear r9 hmk
  obtain ⟨c_f0, c_f1⟩ := box2 K_f.out
  have l_f := K_f.out.lt
  obtain ⟨c_10, c_11⟩ := box2 K_1.out
  have l_1 := K_1.out.lt
  obtain ⟨c_20, c_21⟩ := box2 K_2.out
  have l_2 := K_2.out.lt
  obtain ⟨c_30, c_31⟩ := box2 K_3.out
  have l_3 := K_3.out.lt
  go_wp2_with fail
  clear c_f0 c_f1 l_f
  clear c_10 c_11 l_1
  clear c_20 c_21 l_2
  clear c_30 c_31 l_3
  refine (Format_lit (0, []) 1 31 1 _ hd_p hd_h (by omega) (by omega) (by omega) (by omega)).mono ?_
  rintro e V10 ⟨Ag, cg, rfl, hcg, rg, hb⟩
  have hB := hb
  replace F_f := Lib.hid (F_f.out.next hB)
  replace F_1 := Lib.hid (F_1.out.next hB)
  replace F_2 := Lib.hid (F_2.out.next hB)
  replace F_3 := Lib.hid (F_3.out.next hB)
  replace K_f := Lib.hid (K_f.out.next hB)
  replace K_1 := Lib.hid (K_1.out.next hB)
  replace K_2 := Lib.hid (K_2.out.next hB)
  replace K_3 := Lib.hid (K_3.out.next hB)
  replace HB := Lib.hid (bt hB HB.out)
  clear hb hB
  clear rg
  obtain ⟨c_f0, c_f1⟩ := box2 K_f.out
  have l_f := K_f.out.lt
  obtain ⟨c_10, c_11⟩ := box2 K_1.out
  have l_1 := K_1.out.lt
  obtain ⟨c_20, c_21⟩ := box2 K_2.out
  have l_2 := K_2.out.lt
  obtain ⟨c_30, c_31⟩ := box2 K_3.out
  have l_3 := K_3.out.lt
  go_wp2_with fail
  clear c_f0 c_f1 l_f
  clear c_10 c_11 l_1
  clear c_20 c_21 l_2
  clear c_30 c_31 l_3
  refine (holds_lit true 0 hd0 [] Af none cf 0 _ hd_i rfl (F_f.out.next (al1 _ _)) hcf RdBs.nil (by simp) (by simp)).mono ?_
  rintro e V11 ⟨rfl, hb⟩
  have hB := bt hb (al1 V10 _)
  replace F_f := Lib.hid (F_f.out.next hB)
  replace F_1 := Lib.hid (F_1.out.next hB)
  replace F_2 := Lib.hid (F_2.out.next hB)
  replace F_3 := Lib.hid (F_3.out.next hB)
  replace K_f := Lib.hid (K_f.out.next hB)
  replace K_1 := Lib.hid (K_1.out.next hB)
  replace K_2 := Lib.hid (K_2.out.next hB)
  replace K_3 := Lib.hid (K_3.out.next hB)
  replace HB := Lib.hid (bt hB HB.out)
  clear hb hB
  obtain ⟨c_f0, c_f1⟩ := box2 K_f.out
  have l_f := K_f.out.lt
  obtain ⟨c_10, c_11⟩ := box2 K_1.out
  have l_1 := K_1.out.lt
  obtain ⟨c_20, c_21⟩ := box2 K_2.out
  have l_2 := K_2.out.lt
  obtain ⟨c_30, c_31⟩ := box2 K_3.out
  have l_3 := K_3.out.lt
  go_wp2_with fail
  clear c_f0 c_f1 l_f
  clear c_10 c_11 l_1
  clear c_20 c_21 l_2
  clear c_30 c_31 l_3
  refine (holds_lit true 1 hd1 [[7]] A1 (some ⟨V11.heap.size + 1, 0, none⟩) c1 1 _ hd_j rfl (F_1.out.next (al2 _ _ _)) hc1 (rdBs_one (d1 := [7]) (c1 := 1) (A1 := some ⟨V11.heap.size, 0, none⟩) (t := 22) (bkOf (by simp [at?_alloc])) (by simp) (litB (by simp [at?_alloc, u8s, u8])) (by simp)) (by simp) (by simp)).mono ?_
  rintro e V12 ⟨rfl, hb⟩
  have hB := bt hb (al2 V11 _ _)
  replace F_f := Lib.hid (F_f.out.next hB)
  replace F_1 := Lib.hid (F_1.out.next hB)
  replace F_2 := Lib.hid (F_2.out.next hB)
  replace F_3 := Lib.hid (F_3.out.next hB)
  replace K_f := Lib.hid (K_f.out.next hB)
  replace K_1 := Lib.hid (K_1.out.next hB)
  replace K_2 := Lib.hid (K_2.out.next hB)
  replace K_3 := Lib.hid (K_3.out.next hB)
  replace HB := Lib.hid (bt hB HB.out)
  clear hb hB
  obtain ⟨c_f0, c_f1⟩ := box2 K_f.out
  have l_f := K_f.out.lt
  obtain ⟨c_10, c_11⟩ := box2 K_1.out
  have l_1 := K_1.out.lt
  obtain ⟨c_20, c_21⟩ := box2 K_2.out
  have l_2 := K_2.out.lt
  obtain ⟨c_30, c_31⟩ := box2 K_3.out
  have l_3 := K_3.out.lt
  go_wp2_with fail
  clear c_f0 c_f1 l_f
  clear c_10 c_11 l_1
  clear c_20 c_21 l_2
  clear c_30 c_31 l_3
  refine (holds_lit true 2 hd2 [[7], []] A2 (some ⟨V12.heap.size + 1 + 1, 0, none⟩) c2 2 _ hd_k rfl (F_2.out.next (al3 _ _ _ _)) hc2 (rdBs_two (d1 := [7]) (c1 := 1) (A1 := some ⟨V12.heap.size, 0, none⟩) (d2 := []) (c2 := 0) (A2 := some ⟨V12.heap.size + 1, 0, none⟩) (t := 22) (bkOf (by simp [at?_alloc])) (by simp) (RdB.of_bk (t := 5) (((Bk.new _ _ _).alloc _).alloc _) (by simp; omega)) RdS.nil (by simp) (by simp)) (by simp) (by simp)).mono ?_
  rintro e V13 ⟨rfl, hb⟩
  have hB := bt hb (al3 V12 _ _ _)
  replace F_f := Lib.hid (F_f.out.next hB)
  replace F_1 := Lib.hid (F_1.out.next hB)
  replace F_2 := Lib.hid (F_2.out.next hB)
  replace F_3 := Lib.hid (F_3.out.next hB)
  replace K_f := Lib.hid (K_f.out.next hB)
  replace K_1 := Lib.hid (K_1.out.next hB)
  replace K_2 := Lib.hid (K_2.out.next hB)
  replace K_3 := Lib.hid (K_3.out.next hB)
  replace HB := Lib.hid (bt hB HB.out)
  clear hb hB
  obtain ⟨c_f0, c_f1⟩ := box2 K_f.out
  have l_f := K_f.out.lt
  obtain ⟨c_10, c_11⟩ := box2 K_1.out
  have l_1 := K_1.out.lt
  obtain ⟨c_20, c_21⟩ := box2 K_2.out
  have l_2 := K_2.out.lt
  obtain ⟨c_30, c_31⟩ := box2 K_3.out
  have l_3 := K_3.out.lt
  go_wp2_with fail
  clear c_f0 c_f1 l_f
  clear c_10 c_11 l_1
  clear c_20 c_21 l_2
  clear c_30 c_31 l_3
  refine (holds_lit true 1 hd3 [[1, 2]] A3 (some ⟨V13.heap.size + 1, 0, none⟩) c3 1 _ hd_l rfl (F_3.out.next (al2 _ _ _)) hc3 (rdBs_one (d1 := [1, 2]) (c1 := 2) (A1 := some ⟨V13.heap.size, 0, none⟩) (t := 22) (bkOf (by simp [at?_alloc])) (by simp) (litB (by simp [at?_alloc, u8s, u8])) (by simp)) (by simp) (by simp)).mono ?_
  rintro e V14 ⟨rfl, hb⟩
  have hB := bt hb (al2 V13 _ _)
  replace F_f := Lib.hid (F_f.out.next hB)
  replace F_1 := Lib.hid (F_1.out.next hB)
  replace F_2 := Lib.hid (F_2.out.next hB)
  replace F_3 := Lib.hid (F_3.out.next hB)
  replace K_f := Lib.hid (K_f.out.next hB)
  replace K_1 := Lib.hid (K_1.out.next hB)
  replace K_2 := Lib.hid (K_2.out.next hB)
  replace K_3 := Lib.hid (K_3.out.next hB)
  replace HB := Lib.hid (bt hB HB.out)
  clear hb hB
  go_wp2
  go_ret
  exact ⟨rfl, HB.out⟩
end Go.Proofs.Ytpcklbmhblmjpaa
