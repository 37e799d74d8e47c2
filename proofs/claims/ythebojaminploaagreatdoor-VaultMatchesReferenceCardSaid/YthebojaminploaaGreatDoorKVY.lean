/- The vault's reference: numbers out of bytes, bytes of numbers. -/
import Derived.Test.YthebojaminploaaGreatDoorKVA
import Derived.Test.YthebojaminploaaGreatDoorKJe
set_option maxRecDepth 100000
set_option linter.unusedVariables false
set_option linter.unusedSimpArgs false
namespace Go.Proofs.YthebojaminploaaGreatDoor
open Go.RowKit Go.Sort Go.Shelf

def numL (bs : List UInt8) : Nat := bs.foldl (fun n b => 256 * n + b.toNat) 0
theorem numL_snoc (bs : List UInt8) (j : Nat) (hj : j < bs.length) : numL (bs.take (j + 1)) = 256 * numL (bs.take j) + bs[j].toNat := by
  unfold numL
  rw [List.take_succ_eq_append_getElem hj, List.foldl_append]; rfl
theorem numL_lt (bs : List UInt8) : ∀ k, k ≤ 4 → numL (bs.take k) < 256 ^ k := by
  intro k
  induction k with
  | zero => intro _; simp [numL]
  | succ k ih =>
    intro hk
    have h1 := ih (by omega)
    by_cases hj : k < bs.length
    · rw [numL_snoc bs k hj]
      have := bs[k].toNat_lt
      rw [Nat.pow_succ]; omega
    · rw [List.take_of_length_le (by omega), ← List.take_of_length_le (l := bs) (i := k) (by omega)]
      rw [Nat.pow_succ]; omega
theorem numL_u32 (bs : List UInt8) (k : Nat) (hk : k ≤ 4) : numL (bs.take k) < 4294967296 := by
  have h := numL_lt bs k hk
  have : 256 ^ k ≤ 256 ^ 4 := Nat.pow_le_pow_right (by omega) hk
  omega
set_option maxHeartbeats 1000000 in
theorem vnum_any (bs : List UInt8) (n : Nat) (hbn : bs.length = n) (A : Option Addr) (c : Nat) (w : World) (hA : RdB w w.heap.size A bs) (hn : n ≤ 4) :
    Calls Tryz.prog 30 #[.slice A n c] w fun e w' => e = .returned (.int .i64 (numL bs : Int)) ∧ w = w' := by
  subst hbn
  have HA := Lib.hid hA
  clear hA
  go_enter Tryz.func30, Tryz.ntmps30
  go_wp2
  go_loop [3, 4] (fun x k => ∃ j : Nat, j ≤ bs.length ∧ k = .int .i64 (j : Int) ∧ x = .int .i64 (numL (bs.take j) : Int)) (fun _ k => bs.length - (intOf k).toNat)
  case atStart => exact ⟨0, Nat.zero_le _, rfl, by simp [numL]⟩
  case round =>
    obtain ⟨j, hj, rfl, rfl⟩ := hrel
    by_cases hjl : j < bs.length
    · obtain ⟨b2, o2, rfl, hb2, q2⟩ := HA.out.at_ hjl
      have HN := Lib.hid (numL_snoc bs j hjl)
      have hb := numL_u32 bs j (by omega)
      obtain ⟨h0, hh0⟩ : ∃ h, h = numL (bs.take j) := ⟨_, rfl⟩
      obtain ⟨dj, hdj⟩ : ∃ x, x = bs[j] := ⟨_, rfl⟩
      rw [← hh0, ← hdj] at HN
      rw [← hh0] at hb ⊢
      rw [← hdj] at q2
      have b1 := dj.toNat_lt
      clear hh0 hdj
      have k1 : (0 : Int) ≤ (j : Int) := by omega
      have k2 : (j : Int) < (bs.length : Int) := by omega
      have w1 : IntKind.i64.wrap (256 * (h0 : Int)) = 256 * (h0 : Int) := IntWalk.i64_in _ (by omega)
      have w2 : IntKind.i64.wrap (256 * (h0 : Int) + (dj.toNat : Int)) = 256 * (h0 : Int) + (dj.toNat : Int) := IntWalk.i64_in _ (by omega)
      have w3 : IntKind.i64.wrap (dj.toNat : Int) = (dj.toNat : Int) := IntWalk.i64_in _ (by omega)
      go_wp2
      go_round
      case rel => exact ⟨j + 1, by omega, by go_num, by rw [HN.out]; simp⟩
      case measure => simp [intOf]; omega
    · obtain rfl : j = bs.length := by omega
      have HF : Hid (bs.take bs.length = bs) := List.take_of_length_le (Nat.le_refl _)
      rw [HF.out]
      go_wp2
      go_ret
      exact ⟨rfl, rfl⟩
/-- the last bytes of a number, from the highest one on -/
def putL (n m : Nat) : List UInt8 := (List.range m).map fun j => UInt8.ofNat (n / 256 ^ (m - 1 - j))
theorem putL_snoc (n m k : Nat) (hk : k < m) : (putL n m).take (k + 1) = (putL n m).take k ++ [UInt8.ofNat (n / 256 ^ (m - 1 - k))] := by
  rw [List.take_succ_eq_append_getElem (by simp [putL]; exact hk)]
  simp [putL]
set_option maxHeartbeats 2000000 in
theorem vput_any (n m : Nat) (hm : m ≤ 4) (h1 : 1 ≤ m) (hn : n < 4294967296) (base : Nat) (bs : List UInt8) (v : Value) (w : World) (hO : w.ownsRow base 5 1 v bs.length (u8s bs)) (hbs : base ≤ w.heap.size) (hl : bs.length ≤ 1000) :
    Calls Tryz.prog 53 #[v, .int .i64 (n : Int), .int .i64 (m : Int)] w fun e w' => ∃ v', e = .returned v' ∧ w'.ownsRow base 5 1 v' (bs ++ putL n m).length (u8s (bs ++ putL n m)) ∧ Below base w w' := by
  obtain ⟨i0, hi, hz0, hz1, hz2⟩ := info_parts info_u8
  have w0 : RowKit.wrap64 ((m : Int) - 1) = (m : Int) - 1 := IntWalk.wrap64_in _ (by omega)
  go_enter Tryz.func53, Tryz.ntmps53
  go_wp2
  go_loopw [0, 7] (fun v i wr => ∃ k : Nat, i = .int .i64 ((m : Int) - 1 - (k : Int)) ∧ k ≤ m ∧ wr.ownsRow base 5 1 v (bs ++ (putL n m).take k).length (u8s (bs ++ (putL n m).take k)) ∧ Below base w wr) (fun _ i _ => ((intOf i) + 1).toNat)
  case atStart => exact ⟨0, by simp, Nat.zero_le _, by simpa using hO, (Below.refl _ w).mono hbs⟩
  case round =>
    obtain ⟨k, rfl, hk, hown, hb⟩ := hrel
    have HO := Lib.hid hown
    have HB := Lib.hid hb
    have hsz : base ≤ wr.heap.size := Nat.le_trans hbs hb.size
    by_cases hkm : k < m
    · obtain ⟨q, hq⟩ : ∃ q : Nat, q = m - 1 - k := ⟨_, rfl⟩
      have hqI : (m : Int) - 1 - (k : Int) = (q : Int) := by omega
      have hq4 : q ≤ 3 := by omega
      rw [hqI]
      have HS := Lib.hid (putL_snoc n m k hkm)
      rw [← hq] at HS
      obtain ⟨p, hp⟩ : ∃ p : Nat, p = n / 256 ^ q := ⟨_, rfl⟩
      rw [← hp] at HS
      have hsh : (n : Int) / 2 ^ (8 * q) = (p : Int) := by
        rw [hp]
        rcases (by omega : q = 0 ∨ q = 1 ∨ q = 2 ∨ q = 3) with h | h | h | h <;> subst h <;> simp
      have HQ := Lib.hid hq
      have w1 : RowKit.wrap64 ((q : Int) - 1) = (q : Int) - 1 := IntWalk.wrap64_in _ (by omega)
      have hlen : (bs ++ (putL n m).take k).length ≤ 1010 := by rw [List.length_append, List.length_take]; omega
      obtain ⟨L, hL⟩ : ∃ L, L = bs ++ (putL n m).take k := ⟨_, rfl⟩
      obtain ⟨Av, cv, rfl, _, _⟩ := own_read hown
      rw [← hL] at HO hlen ⊢
      have HLL := Lib.hid hL
      clear hq hqI hown hb hp hL
      have q0 : ¬ (q : Int) < 0 := by omega
      have q1 : (0 : Int) ≤ (q : Int) := by omega
      go_wp2_with (at_builtin; refine wpList_append_rd _ rfl (.tmp 14) (.tmp 21) _ rfl base 5 i0 _ 1 1 Tryz.underlying22 hi hz0 hz1 hz2 rfl (by omega) (.slice Av L.length cv) L.length (u8s L) rfl (HO.out.alloc _) (wr.heap.size + 1) (some ⟨wr.heap.size, 0, none⟩) 1 1 [.int .u8 ((p : Int) % 256)] rfl (rd_cells (t := 5) (cs := #[.int .u8 ((p : Int) % 256)]) (Bk.new _ _ _) (by omega)) (by simp [Value.oneCell']) (by simp only [maxLen]; omega) (by omega) (by simp; omega) ?_; intro v1 w1' hown1 hg1 hat1; have HO1 : Hid (w1'.ownsRow base 5 1 v1 (bs ++ (putL n m).take (k + 1)).length (u8s (bs ++ (putL n m).take (k + 1)))) := Lib.hid (by have h9 := snoc_own hown1 (b := UInt8.ofNat p) (by simp); rw [HS.out, ← List.append_assoc, ← HLL.out]; exact h9); have HB1 : Hid (Below base w w1') := Lib.hid ((HB.out.alloc hsz _).grown hg1 (by simp; omega) (fun j hj => (own_lt HO.out hj).1)); clear hown1 hg1 hat1)
      go_roundw
      case rel => exact ⟨k + 1, (by have h9 := HQ.out; first | go_num | (congr 1; omega)), by omega, HO1.out, HB1.out⟩
      case measure => first | (simp [intOf]; done) | (simp [intOf]; omega)
    · obtain rfl : k = m := by omega
      have j0 : ¬ (0 : Int) ≤ (k : Int) - 1 - (k : Int) := by omega
      have j1 : (k : Int) - 1 - (k : Int) = -1 := by omega
      have HF : Hid ((putL n k).take k = putL n k) := List.take_of_length_le (by simp [putL])
      rw [HF.out] at HO
      obtain ⟨Av, cv, rfl, _, _⟩ := own_read hown
      clear hown hb
      rw [j1]
      go_wp2
      go_ret
      exact ⟨_, rfl, by simpa using HO.out, HB.out⟩
end Go.Proofs.YthebojaminploaaGreatDoor

/- The vault's reference: the bytes of a lease. -/
set_option maxRecDepth 100000
set_option linter.unusedVariables false
set_option linter.unusedSimpArgs false
namespace Go.Proofs.YthebojaminploaaGreatDoor
open Go.RowKit Go.Sort Go.Shelf

theorem putL_1 (n : Nat) : putL n 1 = [UInt8.ofNat n] := by simp [putL]
theorem putL_2 (n : Nat) : putL n 2 = [UInt8.ofNat (n / 256), UInt8.ofNat n] := by simp [putL, List.range_succ]
theorem putL_4 (n : Nat) : putL n 4 = [UInt8.ofNat (n / 16777216), UInt8.ofNat (n / 65536), UInt8.ofNat (n / 256), UInt8.ofNat n] := by simp [putL, List.range_succ]
theorem putL_pack (x : Lea) : putL x.n.toNat 4 ++ putL x.c.toNat 1 ++ putL x.a.toNat 1 ++ putL x.f.toNat 4 ++ putL x.t.toNat 2 = packL x := by
  rw [putL_1, putL_1, putL_2, putL_4, putL_4]
  simp [packL, be4, szL, u8_mod]
theorem vput_i (a : Int) (n m : Nat) (ha : a = (n : Int)) (hm : m ≤ 4) (h1 : 1 ≤ m) (hn : n < 4294967296) (base : Nat) (L : List UInt8) (l : Nat) (hl : L.length = l) (hl2 : l ≤ 1000) (v : Value) (w : World) (hO : w.ownsRow base 5 1 v l (u8s L)) (hbs : base ≤ w.heap.size) :
    Calls Tryz.prog 53 #[v, .int .i64 a, .int .i64 (m : Int)] w fun e w' => ∃ A c, e = .returned (.slice A (l + m) c) ∧ w'.ownsRow base 5 1 (.slice A (l + m) c) (l + m) (u8s (L ++ putL n m)) ∧ Below base w w' := by
  subst ha; subst hl
  refine (vput_any n m hm h1 hn base L v w hO hbs hl2).mono ?_
  rintro e w' ⟨v', rfl, ho, hb⟩
  have e1 : (L ++ putL n m).length = L.length + m := by simp [putL]
  rw [e1] at ho
  obtain ⟨A, c, rfl, _, _⟩ := own_read ho
  exact ⟨A, c, rfl, ho, hb⟩
set_option maxHeartbeats 2000000 in
theorem vBytes_any (x : Lea) (w : World) (hx : oneB x = true) :
    Calls Tryz.prog 24 #[.agg #[.int .i64 x.n, .int .i64 x.c, .int .i64 x.a, .int .i64 x.f, .int .i64 x.t]] w fun e w' => ∃ A c, e = .returned (.slice A 12 c) ∧ 12 ≤ c ∧ RdB w' w'.heap.size A (packL x) ∧ Below w.heap.size w w' ∧ w'.ownsRow w.heap.size 5 1 (.slice A 12 c) 12 (u8s (packL x)) := by
  obtain ⟨x1, x2, x3, x4, x5, x6, x7, x8, x9, x10⟩ := (oneB_iff x).1 hx
  go_enter Tryz.func24, Tryz.ntmps24
  go_wp2
  refine region_S (fun w' => w'.cell? ⟨w.heap.size, 0, none⟩ = some (.int .i64 x.n) ∧ w'.cell? ⟨w.heap.size, 1, none⟩ = some (.int .i64 x.c) ∧ w'.cell? ⟨w.heap.size, 2, none⟩ = some (.int .i64 x.a) ∧ w'.cell? ⟨w.heap.size, 3, none⟩ = some (.int .i64 x.f) ∧ w'.cell? ⟨w.heap.size, 4, none⟩ = some (.int .i64 x.t)) 15 (by kernel_rfl) ?_
  obtain ⟨U0, hU0⟩ : ∃ Zz, Zz = (w.alloc (.cells #[.int .i64 x.n, .int .i64 x.c, .int .i64 x.a, .int .i64 x.f, .int .i64 x.t] 26)).drew := ⟨_, rfl⟩
  have hb0 : Below w.heap.size w U0 := by rw [hU0]; exact (al1 _ _).drew
  have k0 : Bk U0 w.heap.size 26 #[.int .i64 x.n, .int .i64 x.c, .int .i64 x.a, .int .i64 x.f, .int .i64 x.t] := by rw [hU0]; exact (Bk.new _ _ _).drew
  rw [← hU0]
  clear hU0
  have hz0 : w.heap.size + 1 ≤ U0.heap.size := k0.lt
  have HK0 := Lib.hid k0
  have HBW := Lib.hid hb0
  have HB0 : Hid (Below (w.heap.size + 1) U0 U0) := Lib.hid ((Below.refl _ U0).mono hz0)
  have HKS : Hid (∀ w', Below (w.heap.size + 1) U0 w' → (w'.cell? ⟨w.heap.size, 0, none⟩ = some (.int .i64 x.n) ∧ w'.cell? ⟨w.heap.size, 1, none⟩ = some (.int .i64 x.c) ∧ w'.cell? ⟨w.heap.size, 2, none⟩ = some (.int .i64 x.a) ∧ w'.cell? ⟨w.heap.size, 3, none⟩ = some (.int .i64 x.f) ∧ w'.cell? ⟨w.heap.size, 4, none⟩ = some (.int .i64 x.t))) := Lib.hid (fun w' hW => box5 (HK0.out.below hW (by omega)))
  have HS0 := HKS.out _ HB0.out
  clear k0 hb0
  refine anyS_take (i := 0) rfl (by kernel_rfl) (by kernel_rfl) (by kernel_rfl) (by kernel_rfl) (fun _ _ _ h => h) (Or.inl ⟨by rfl, fun w' hS' => (by obtain ⟨s1, s2, s3, s4, s5⟩ := hS'; go_simp; try with_reducible rfl)⟩) HS0 ?_
  refine anyS_take (i := 1) rfl (by kernel_rfl) (by kernel_rfl) (by kernel_rfl) (by kernel_rfl) (fun _ _ _ h => h) (Or.inl ⟨by rfl, fun w' hS' => (by obtain ⟨s1, s2, s3, s4, s5⟩ := hS'; go_simp; try with_reducible rfl)⟩) HS0 ?_
  refine anyS_take (i := 3) rfl (by kernel_rfl) (by kernel_rfl) (by kernel_rfl) (by kernel_rfl) (fun _ _ _ h => h) (Or.inl ⟨by rfl, fun w' hS' => (by obtain ⟨s1, s2, s3, s4, s5⟩ := hS'; go_simp; try with_reducible rfl)⟩) HS0 ?_
  refine anyS_take (i := 4) rfl (by kernel_rfl) (by kernel_rfl) (by kernel_rfl) (by kernel_rfl) (fun _ _ _ h => h) (Or.inl ⟨by rfl, fun w' hS' => (by obtain ⟨s1, s2, s3, s4, s5⟩ := hS'; go_simp; try with_reducible rfl)⟩) HS0 ?_
  refine anyS_take (i := 6) rfl (by kernel_rfl) (by kernel_rfl) (by kernel_rfl) (by kernel_rfl) (fun _ _ _ h => h) (Or.inl ⟨by rfl, fun w' hS' => (by obtain ⟨s1, s2, s3, s4, s5⟩ := hS'; go_simp; try with_reducible rfl)⟩) HS0 ?_
  refine anyS_take (i := 7) rfl (by kernel_rfl) (by kernel_rfl) (by kernel_rfl) (by kernel_rfl) (fun _ _ _ h => h) (Or.inl ⟨by rfl, fun w' hS' => (by obtain ⟨s1, s2, s3, s4, s5⟩ := hS'; go_simp; try with_reducible rfl)⟩) HS0 ?_
  refine anyS_take (i := 9) rfl (by kernel_rfl) (by kernel_rfl) (by kernel_rfl) (by kernel_rfl) (fun _ _ _ h => h) (Or.inl ⟨by rfl, fun w' hS' => (by obtain ⟨s1, s2, s3, s4, s5⟩ := hS'; go_simp; try with_reducible rfl)⟩) HS0 ?_
  refine anyS_take (i := 10) rfl (by kernel_rfl) (by kernel_rfl) (by kernel_rfl) (by kernel_rfl) (fun _ _ _ h => h) (Or.inl ⟨by rfl, fun w' hS' => (by obtain ⟨s1, s2, s3, s4, s5⟩ := hS'; go_simp; try with_reducible rfl)⟩) HS0 ?_
  refine anyS_take (i := 12) rfl (by kernel_rfl) (by kernel_rfl) (by kernel_rfl) (by kernel_rfl) (fun _ _ _ h => h) (Or.inl ⟨by rfl, fun w' hS' => (by obtain ⟨s1, s2, s3, s4, s5⟩ := hS'; go_simp; try with_reducible rfl)⟩) HS0 ?_
  refine anyS_take (i := 13) rfl (by kernel_rfl) (by kernel_rfl) (by kernel_rfl) (by kernel_rfl) (fun _ _ _ h => h) (Or.inl ⟨by rfl, fun w' hS' => (by obtain ⟨s1, s2, s3, s4, s5⟩ := hS'; go_simp; try with_reducible rfl)⟩) HS0 ?_
  refine anyS_one (i := 2) (by kernel_rfl) rfl rfl (fun K hK => ?_)
  have HP := Lib.hid (vput_i x.n x.n.toNat 4 (by omega) (by omega) (by omega) (by omega) (w.heap.size + 1) (([] : List UInt8)) 0 (by simp [putL]) (by omega) (.slice none 0 0) U0 (World.ownsRow_nil _ _ _ _) hz0)
  go_simp
  refine HP.out.mono ?_
  rintro e V1 ⟨A1, c1, rfl, ho, hb⟩
  have HO1 := Lib.hid ho
  have HB1 : Hid (Below (w.heap.size + 1) U0 V1) := Lib.hid (HB0.out.trans hb)
  have hz1 : w.heap.size + 1 ≤ V1.heap.size := Nat.le_trans hz0 hb.size
  go_simp
  refine hK _ _ (fun _ => HKS.out _ HB1.out) ?_
  clear hK K HP ho hb
  refine anyS_one (i := 5) (by kernel_rfl) rfl rfl (fun K hK => ?_)
  have HP := Lib.hid (vput_i x.c x.c.toNat 1 (by omega) (by omega) (by omega) (by omega) (w.heap.size + 1) (([] : List UInt8) ++ putL x.n.toNat 4) 4 (by simp [putL]) (by omega) (.slice A1 4 c1) V1 HO1.out hz1)
  go_simp
  refine HP.out.mono ?_
  rintro e V2 ⟨A2, c2, rfl, ho, hb⟩
  have HO2 := Lib.hid ho
  have HB2 : Hid (Below (w.heap.size + 1) U0 V2) := Lib.hid (HB1.out.trans hb)
  have hz2 : w.heap.size + 1 ≤ V2.heap.size := Nat.le_trans hz1 hb.size
  go_simp
  refine hK _ _ (fun _ => HKS.out _ HB2.out) ?_
  clear hK K HP ho hb
  refine anyS_one (i := 8) (by kernel_rfl) rfl rfl (fun K hK => ?_)
  have HP := Lib.hid (vput_i x.a x.a.toNat 1 (by omega) (by omega) (by omega) (by omega) (w.heap.size + 1) (([] : List UInt8) ++ putL x.n.toNat 4 ++ putL x.c.toNat 1) 5 (by simp [putL]) (by omega) (.slice A2 5 c2) V2 HO2.out hz2)
  go_simp
  refine HP.out.mono ?_
  rintro e V3 ⟨A3, c3, rfl, ho, hb⟩
  have HO3 := Lib.hid ho
  have HB3 : Hid (Below (w.heap.size + 1) U0 V3) := Lib.hid (HB2.out.trans hb)
  have hz3 : w.heap.size + 1 ≤ V3.heap.size := Nat.le_trans hz2 hb.size
  go_simp
  refine hK _ _ (fun _ => HKS.out _ HB3.out) ?_
  clear hK K HP ho hb
  refine anyS_one (i := 11) (by kernel_rfl) rfl rfl (fun K hK => ?_)
  have HP := Lib.hid (vput_i x.f x.f.toNat 4 (by omega) (by omega) (by omega) (by omega) (w.heap.size + 1) (([] : List UInt8) ++ putL x.n.toNat 4 ++ putL x.c.toNat 1 ++ putL x.a.toNat 1) 6 (by simp [putL]) (by omega) (.slice A3 6 c3) V3 HO3.out hz3)
  go_simp
  refine HP.out.mono ?_
  rintro e V4 ⟨A4, c4, rfl, ho, hb⟩
  have HO4 := Lib.hid ho
  have HB4 : Hid (Below (w.heap.size + 1) U0 V4) := Lib.hid (HB3.out.trans hb)
  have hz4 : w.heap.size + 1 ≤ V4.heap.size := Nat.le_trans hz3 hb.size
  go_simp
  refine hK _ _ (fun _ => HKS.out _ HB4.out) ?_
  clear hK K HP ho hb
  refine anyS_one (i := 14) (by kernel_rfl) rfl rfl (fun K hK => ?_)
  have HP := Lib.hid (vput_i x.t x.t.toNat 2 (by omega) (by omega) (by omega) (by omega) (w.heap.size + 1) (([] : List UInt8) ++ putL x.n.toNat 4 ++ putL x.c.toNat 1 ++ putL x.a.toNat 1 ++ putL x.f.toNat 4) 10 (by simp [putL]) (by omega) (.slice A4 10 c4) V4 HO4.out hz4)
  go_simp
  refine HP.out.mono ?_
  rintro e V5 ⟨A5, c5, rfl, ho, hb⟩
  have HO5 := Lib.hid ho
  have HB5 : Hid (Below (w.heap.size + 1) U0 V5) := Lib.hid (HB4.out.trans hb)
  have hz5 : w.heap.size + 1 ≤ V5.heap.size := Nat.le_trans hz4 hb.size
  go_simp
  refine hK _ _ (fun _ => HKS.out _ HB5.out) ?_
  clear hK K HP ho hb
  refine anyS_one (i := 15) (by kernel_rfl) rfl rfl (fun K hK => ?_)
  go_simp
  refine hK _ _ (fun h => absurd rfl h) ?_
  clear hK K HS0
  refine anyS_done (by kernel_rfl) ?_ _
  simp only [normPost]
  have HR : Hid (RdB V5 V5.heap.size A5 (packL x)) := by
    obtain ⟨A', c', e', _, hr⟩ := own_read HO5.out
    have ea : A5 = A' ∧ c5 = c' := by simpa using e'
    rw [← ea.1] at hr
    show RdS _ _ _ _ _ _
    rw [← putL_pack]
    simpa [putL] using hr
  have HC : Hid (12 ≤ c5) := by
    obtain ⟨A', c', e', hc', _⟩ := own_read HO5.out
    have ea : A5 = A' ∧ c5 = c' := by simpa using e'
    show 12 ≤ c5
    rw [ea.2]; exact hc'
  have HBB : Hid (Below w.heap.size w V5) := Lib.hid (HBW.out.trans (HB5.out.mono (by omega)))
  have HOW : Hid (V5.ownsRow w.heap.size 5 1 (.slice A5 12 c5) 12 (u8s (packL x))) := by
    have ho := own_mono HO5.out (by omega : w.heap.size ≤ w.heap.size + 1)
    show World.ownsRow _ _ _ _ _ _ _
    rw [← putL_pack]
    simpa [putL] using ho
  go_wp2
  go_ret
  exact ⟨A5, c5, rfl, HC.out, HR.out, HBB.out, HOW.out⟩
end Go.Proofs.YthebojaminploaaGreatDoor
