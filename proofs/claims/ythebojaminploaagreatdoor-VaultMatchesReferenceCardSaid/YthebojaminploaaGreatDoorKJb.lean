/- Contracts of package journal: records, areas. -/
import Derived.Test.YthebojaminploaaGreatDoorKJa
import Derived.Test.YthebojaminploaaGreatDoorKFZ
import Derived.Test.YthebojaminploaaGreatDoorKCO
import Derived.Test.YthebojaminploaaGreatDoorKJM
set_option maxRecDepth 100000
set_option linter.unusedVariables false
set_option linter.unusedSimpArgs false
namespace Go.Proofs.YthebojaminploaaGreatDoor
open Go.RowKit Go.Sort

theorem own_block {W : World} {g base : Nat} {e : TypeId} {cs : Array Value} (h : Bk W g e cs) (hb : base ≤ g) (hm : cs.size ≤ 1000000000) : W.ownsRow base e 1 (.slice (some ⟨g, 0, none⟩) cs.size cs.size) cs.size cs.toList :=
  ⟨by simp, .inr ⟨g, cs.size, cs, rfl, hb, h, Nat.le_refl _, by simp only [maxLen]; omega, by simp, by rw [List.take_of_length_le (by simp)]⟩⟩
theorem szL_cells (n : Nat) (h : n ≤ 65535) : u8s (szL n) = [.int .u8 ((n / 256 : Nat) : Int), .int .u8 ((n % 256 : Nat) : Int)] := by
  simp only [u8s, szL, List.map_cons, List.map_nil, u8, UInt8.toNat_ofNat']
  rw [Nat.mod_eq_of_lt (by omega : n / 256 < 2 ^ 8), Nat.mod_eq_of_lt (by omega : n % 256 < 2 ^ 8)]
theorem rd_cells {W : World} {B g : Nat} {t : TypeId} {cs : Array Value} (h : Bk W g t cs) (hg : g < B) : RdS W B 1 (some ⟨g, 0, none⟩) cs.size cs.toList := by
  refine ⟨by simp, fun _ => ⟨g, 0, rfl, hg, fun j u hu => ?_⟩⟩
  rw [Nat.zero_add, h.cell]
  simpa using hu
theorem rdBs_two {W : World} {B g : Nat} {t : TypeId} {A1 A2 : Option Addr} {d1 d2 : Rec} {c1 c2 : Nat} (h : Bk W g t #[.slice A1 d1.length c1, .slice A2 d2.length c2]) (hg : g < B) (h1 : RdB W B A1 d1) (h2 : RdB W B A2 d2) (k1 : d1.length ≤ c1) (k2 : d2.length ≤ c2) : RdBs W B (some ⟨g, 0, none⟩) [d1, d2] := by
  intro _
  refine ⟨g, 0, rfl, hg, fun i d hd => ?_⟩
  rw [Nat.zero_add]
  match i, hd with
  | 0, hd => obtain rfl : d1 = d := by simpa using hd
             exact ⟨A1, c1, h.cell 0, k1, h1⟩
  | 1, hd => obtain rfl : d2 = d := by simpa using hd
             exact ⟨A2, c2, h.cell 1, k2, h2⟩
  | i + 2, hd => simp at hd
/-- what an append leaves -/
theorem appNx {w0 w1 w2 : World} {base n : Nat} {e : TypeId} {v : Value} {xs : List Value} (hb : Below base w0 w1) (hB : base ≤ w1.heap.size) (h : w1.ownsRow base e 1 v n xs) (hg : w1.grownBy w2 v.ownBlock) : Below base w0 w2 := hb.grown hg hB (fun k hk => (h.lt k hk).1)
def packPost (d : Rec) (w : World) (e : Ending) (w' : World) : Prop := ∃ A c, e = .returned (.slice A (7 + d.length) c) ∧ 7 + d.length ≤ c ∧ w'.ownsRow w.heap.size 5 1 (.slice A (7 + d.length) c) (7 + d.length) (u8s (recL d)) ∧ Below w.heap.size w w'
theorem ret_slice {A : Option Addr} {n m c : Nat} (h : n = m) : Ending.returned (.slice A n c) = .returned (.slice A m c) := by rw [h]
set_option maxHeartbeats 1000000 in
theorem pack_any (d : Rec) (A : Option Addr) (c : Nat) (w : World) (hA : RdB w w.heap.size A d) (hc : d.length ≤ c) (hd : d.length ≤ 65535) :
    Calls Tryz.prog 38 #[.slice A d.length c] w (packPost d w) := by
  obtain ⟨i0, hi, hz0, hz1, hz2⟩ := info_parts info_u8
  have HA := Lib.hid hA
  have HC := Lib.hid hc
  have HS := Lib.hid (szL_cells d.length hd)
  clear hA hc
  go_enter Tryz.func38, Tryz.ntmps38
  go_wp2_with (at_builtin; refine wpList_append_rd _ rfl (.tmp 13) (.tmp 14) _ rfl w.heap.size 5 i0 _ 1 1 Tryz.underlying22 hi hz0 hz1 hz2 rfl (by omega) (.slice (some ⟨w.heap.size + 1, 0, none⟩) 1 1) 1 [.int .u8 80] rfl (own_block (e := 5) (cs := #[.int .u8 80]) (bkOf (by simp [at?_alloc])) (by omega) (by simp)) (w.heap.size + 1) (some ⟨w.heap.size, 0, none⟩) 2 2 [.int .u8 ((d.length : Int) / 256), .int .u8 ((d.length : Int) % 256)] rfl (rd_cells (t := 5) (cs := #[.int .u8 ((d.length : Int) / 256), .int .u8 ((d.length : Int) % 256)]) (bkOf (by simp [at?_alloc])) (by omega)) (by simp [Value.oneCell']) (by simp only [maxLen]; omega) (by omega) (by simp; omega) ?_; intro v1 w1 hown1 hg1 hat1)
  have B1 : Below w.heap.size w w1 := appNx (al2 _ _ _) (by simp; omega) (own_block (e := 5) (cs := #[.int .u8 80]) (bkOf (by simp [at?_alloc])) (by omega) (by simp)) hg1
  have K1 : Bk w1 w.heap.size 5 #[.int .u8 ((d.length : Int) / 256), .int .u8 ((d.length : Int) % 256)] := Bk.grown (bkOf (by simp [at?_alloc])) hg1 (by simp [Value.ownBlock])
  have K2 : RdB w1 w1.heap.size (some ⟨w.heap.size, 0, none⟩) (szL d.length) := RdB.of_bk (t := 5) (by rw [HS.out]; exact K1) K1.lt
  have HB := Lib.hid B1
  have HK := Lib.hid K2
  have HO := Lib.hid hown1
  replace HO : Hid (w1.ownsRow w.heap.size 5 1 v1 3 (.int .u8 80 :: u8s (szL d.length))) := by rw [HS.out]; exact HO.out
  clear B1 K1 K2 hg1 hat1 hown1
  go_wp2_with fail
  have hr : ∀ W, W = w1.alloc (.cells #[.slice (some ⟨w.heap.size, 0, none⟩) 2 2, .slice A d.length c] 22) → RdBs W W.heap.size (some ⟨w1.heap.size, 0, none⟩) [szL d.length, d] := fun W hW => by subst hW; exact rdBs_two (Bk.new _ _ _) (by simp) (HK.out.next (al1 _ _)) ((HA.out.next HB.out).next (al1 _ _)) (by simp [szL]) HC.out
  refine (checksum_any [szL d.length, d] _ _ _ (hr _ rfl) (by simp) (by simp [szL]; omega)).mono ?_
  clear hr
  rintro e V ⟨rfl, rfl⟩
  have hf : (((fnv [szL d.length, d].flatten).toNat : Nat) : Int) = ((fnvN (szL d.length ++ d) : Nat) : Int) := by simp [fnvN]
  rw [hf]
  clear hf
  go_wp2_with fail
  refine (four_any _ (fnvN_lt _) _).mono ?_
  rintro e V ⟨rfl, rfl⟩
  obtain ⟨V2, hV2⟩ : ∃ V, V = w1.alloc (.cells #[.slice (some ⟨w.heap.size, 0, none⟩) 2 2, .slice A d.length c] 22) := ⟨_, rfl⟩
  have hb2 : Below w1.heap.size w1 V2 := by rw [hV2]; exact al1 _ _
  rw [← hV2]
  clear hV2
  replace HO := Lib.hid (own_on HO.out hb2)
  replace HB := Lib.hid (bt hb2 HB.out)
  clear HK hb2
  have hs2 := HB.out.size
  go_wp2_with (first | (at_builtin; refine wpList_append_rd _ rfl (.tmp 16) (.tmp 21) _ rfl w.heap.size 5 i0 _ 1 1 Tryz.underlying22 hi hz0 hz1 hz2 rfl (by omega) v1 3 (.int .u8 80 :: u8s (szL d.length)) rfl (HO.out.alloc _) (V2.heap.size + 1) (some ⟨V2.heap.size, 0, none⟩) 4 4 (u8s (be4 (fnvN (szL d.length ++ d)))) rfl (rd_cells (t := 5) (cs := (u8s (be4 (fnvN (szL d.length ++ d)))).toArray) (Bk.new _ _ _) (by omega)) (u8s_one _) (by simp only [maxLen]; omega) (by omega) (by simp; omega) ?_; intro v2 w2 hown2 hg2 hat2; replace HB := Lib.hid (appNx (HB.out.alloc hs2 _) (by simp; omega) (HO.out.alloc _) hg2); clear HO hg2 hat2 hs2) | (at_builtin; refine wpList_append_rd _ rfl (.tmp 23) (.tmp 24) _ rfl w.heap.size 5 i0 _ 1 1 Tryz.underlying22 hi hz0 hz1 hz2 rfl (by omega) v2 7 _ rfl hown2 w.heap.size A d.length c (u8s d) rfl (RdS.below HA.out HB.out) (u8s_one _) (by simp only [maxLen]; omega) (by omega) (HB.out.size) ?_; intro v3 w3 hown3 hg3 hat3))
  replace HB := Lib.hid (appNx HB.out HB.out.size hown2 hg3)
  clear hown2 hg3 hat3
  obtain ⟨A3, c3, rfl, hc3, _⟩ := own_read hown3
  have R3 : w3.ownsRow w.heap.size 5 1 (.slice A3 (7 + d.length) c3) (7 + d.length) (u8s (recL d)) := by
    have e : u8s (recL d) = (.int .u8 80 :: u8s (szL d.length)) ++ u8s (be4 (fnvN (szL d.length ++ d))) ++ u8s d := by simp [recL, u8s, u8]
    rw [e]
    exact hown3
  clear hown3
  go_wp2
  go_ret
  exact ⟨A3, c3, ret_slice (by omega), by omega, R3, HB.out⟩
theorem valid_any (s : Int) (A : Option Addr) (n c : Nat) (w : World) :
    Calls Tryz.prog 61 #[.agg #[.int .i64 s, .slice A n c]] w fun e w' => e = .returned (.bool (jvB s n)) ∧ Below w.heap.size w w' := by
  by_cases hv : validB s n = true
  · obtain ⟨v1, v2, v3, v4, v5⟩ := (valid_iff s n).1 hv
    have hdv : (n : Int) / s ≤ 4096 := Int.le_trans (Int.ediv_le_self _ (by omega)) (by omega)
    have hd0 : 0 ≤ (n : Int) / s := Int.ediv_nonneg (by omega) (by omega)
    by_cases h2 : (n : Int) / s % 2 = 0
    · by_cases h3 : 32 ≤ (n : Int)
      · have h2' : ((n : Int) / s % 2 == 0) = true := by simp [h2]
        have hj : jvB s n = true := by simp [jvB, hv, h2, h3]
        rw [hj]
        clear hj
        go_enter Tryz.func61, Tryz.ntmps61
        go_wp2_with fail
        refine (Valid_any s A n c _).mono ?_
        rintro e V ⟨rfl, hb⟩
        rw [hv]
        have K := Bk.next (Bk.new w 24 #[.int .i64 s, .slice A n c]) hb
        have hB := bt hb (al1 w _)
        obtain ⟨c0, c1⟩ := box2 K
        have HB := Lib.hid hB
        clear K hb hB
        go_wp2
        go_ret
        refine ⟨?_, HB.out⟩
        first | rfl | exact ret_bool (by simp; omega)
      · have h2' : ((n : Int) / s % 2 == 0) = true := by simp [h2]
        have hj : jvB s n = false := by simp [jvB, hv]; omega
        rw [hj]
        clear hj
        go_enter Tryz.func61, Tryz.ntmps61
        go_wp2_with fail
        refine (Valid_any s A n c _).mono ?_
        rintro e V ⟨rfl, hb⟩
        rw [hv]
        have K := Bk.next (Bk.new w 24 #[.int .i64 s, .slice A n c]) hb
        have hB := bt hb (al1 w _)
        obtain ⟨c0, c1⟩ := box2 K
        have HB := Lib.hid hB
        clear K hb hB
        go_wp2
        go_ret
        refine ⟨?_, HB.out⟩
        first | rfl | exact ret_bool (by simp; omega)
    · have h2' : ((n : Int) / s % 2 == 0) = false := by simp [h2]
      have hj : jvB s n = false := by simp [jvB, hv, h2]
      rw [hj]
      clear hj
      go_enter Tryz.func61, Tryz.ntmps61
      go_wp2_with fail
      refine (Valid_any s A n c _).mono ?_
      rintro e V ⟨rfl, hb⟩
      rw [hv]
      have K := Bk.next (Bk.new w 24 #[.int .i64 s, .slice A n c]) hb
      have hB := bt hb (al1 w _)
      obtain ⟨c0, c1⟩ := box2 K
      have HB := Lib.hid hB
      clear K hb hB
      go_wp2
      go_ret
      refine ⟨?_, HB.out⟩
      first | rfl | exact ret_bool (by simp; omega)
  · have hv : validB s n = false := by simpa using hv
    have hj : jvB s n = false := by simp [jvB, hv]
    rw [hj]
    clear hj
    go_enter Tryz.func61, Tryz.ntmps61
    go_wp2_with fail
    refine (Valid_any s A n c _).mono ?_
    rintro e V ⟨rfl, hb⟩
    rw [hv]
    have K := Bk.next (Bk.new w 24 #[.int .i64 s, .slice A n c]) hb
    have hB := bt hb (al1 w _)
    obtain ⟨c0, c1⟩ := box2 K
    have HB := Lib.hid hB
    clear K hb hB
    go_wp2
    go_ret
    refine ⟨?_, HB.out⟩
    first | rfl | exact ret_bool (by simp; omega)
set_option maxHeartbeats 1000000 in
theorem area_any (s : Int) (b o n c a : Nat) (ha : a ≤ 1) (w : World) (hn : 32 ≤ n) (hn' : n ≤ 1000000) (hc : n ≤ c) :
    Calls Tryz.prog 65 #[.agg #[.int .i64 s, .slice (some ⟨b, o, none⟩) n c], .int .i64 (a : Int)] w fun e w' => e = .returned (.slice (some ⟨b, o + a * (n / 2), none⟩) (n / 2) (n / 2)) ∧ Below w.heap.size w w' := by
  have HB : Hid (∀ o, Below w.heap.size w (w.alloc o)) := fun o => al1 w o
  obtain ⟨h, hh⟩ : ∃ h, h = n / 2 := ⟨_, rfl⟩
  have hI : (n : Int) / 2 = (h : Int) := by omega
  rw [← hh]
  have h1 : 16 ≤ h := by omega
  have h2 : 2 * h ≤ n := by omega
  clear hh
  obtain rfl | rfl : a = 0 ∨ a = 1 := by omega
  · go_enter Tryz.func65, Tryz.ntmps65
    go_wp2
    go_ret
    refine ⟨by simp, HB.out _⟩
  · go_enter Tryz.func65, Tryz.ntmps65
    go_wp2
    go_ret
    refine ⟨?_, HB.out _⟩
    rw [show 2 * h - h = h by omega]; simp
theorem area0_any (s : Int) (b o n c : Nat) (w : World) (hn : 32 ≤ n) (hn' : n ≤ 1000000) (hc : n ≤ c) :
    Calls Tryz.prog 65 #[.agg #[.int .i64 s, .slice (some ⟨b, o, none⟩) n c], .int .i64 0] w fun e w' => e = .returned (.slice (some ⟨b, o, none⟩) (n / 2) (n / 2)) ∧ Below w.heap.size w w' := by
  simpa using area_any s b o n c 0 (by omega) w hn hn' hc
theorem area1_any (s : Int) (b o n c : Nat) (w : World) (hn : 32 ≤ n) (hn' : n ≤ 1000000) (hc : n ≤ c) :
    Calls Tryz.prog 65 #[.agg #[.int .i64 s, .slice (some ⟨b, o, none⟩) n c], .int .i64 1] w fun e w' => e = .returned (.slice (some ⟨b, o + n / 2, none⟩) (n / 2) (n / 2)) ∧ Below w.heap.size w w' := by
  simpa using area_any s b o n c 1 (by omega) w hn hn' hc
theorem first_cell {w : World} {B b o : Nat} {X : List UInt8} (h : RdB w B (some ⟨b, o, none⟩) X) (hl : 0 < X.length) : w.cell? ⟨b, o, none⟩ = some (.int .u8 ((X.getD 0 0).toNat : Int)) := by
  obtain ⟨b', o', e, _, hc⟩ := h.at_ hl
  obtain ⟨rfl, rfl⟩ : b = b' ∧ o = o' := by simpa using e
  simpa [hl] using hc
theorem four_of {w : World} {B b o : Nat} {X : List UInt8} (h : RdB w B (some ⟨b, o, none⟩) X) (hl : 5 ≤ X.length) : RdB w B (some ⟨b, o + 1, none⟩) [X.getD 1 0, X.getD 2 0, X.getD 3 0, X.getD 4 0] := by
  have := RdB.part h 1 4 (by omega) (by omega)
  rcases X with _ | ⟨c0, _ | ⟨c1, _ | ⟨c2, _ | ⟨c3, _ | ⟨c4, t⟩⟩⟩⟩⟩
  all_goals first | (simp at hl; done) | simpa using this
theorem number_b (a b c d : UInt8) (A : Option Addr) (cp : Nat) (w : World) (hA : RdB w w.heap.size A [a, b, c, d]) :
    Calls Tryz.prog 66 #[.slice A 4 cp] w fun e w' => e = .returned (.int .u32 (num4 a b c d : Int)) ∧ Below w.heap.size w w' :=
  (number_any a b c d A cp w hA).mono fun e w' h => ⟨h.1, by obtain ⟨k, rfl⟩ := h.2; exact belowDrew (Below.refl _ _) k⟩
theorem getD_eq {bs : List UInt8} {k : Nat} (h : k < bs.length) : bs.getD k 0 = bs[k] := by simp [h]
theorem byte80 {x : UInt8} (h : x = 80) : ((x.toNat : Int) == 80) = true := by subst h; rfl
theorem byte80' {x : UInt8} (h : ¬ x = 80) : ((x.toNat : Int) == 80) = false := by
  rw [beq_eq_false_iff_ne]; intro e; exact h (UInt8.toNat_inj.1 (by simpa using (by omega : x.toNat = 80)))
set_option maxHeartbeats 1000000 in
theorem current_any (m : Mem) (n b o c : Nat) (w : World) (hn : m.2.length = n) (h32 : 32 ≤ n) (hn' : n ≤ 1000000) (hc : n ≤ c) (hA : RdB w w.heap.size (some ⟨b, o, none⟩) m.2) :
    Calls Tryz.prog 64 #[.agg #[.int .i64 m.1, .slice (some ⟨b, o, none⟩) n c]] w fun e w' => e = .returned (.tuple #[.int .i64 (((curO m).getD 0 : Nat) : Int), .int .i64 (if curO m = none then 4 else 0)]) ∧ Below w.heap.size w w' := by
  obtain ⟨s, bs⟩ := m
  dsimp only at *
  obtain ⟨X, hX⟩ : ∃ X, X = areaB (s, bs) 0 := ⟨_, rfl⟩
  obtain ⟨Y, hY⟩ : ∃ Y, Y = areaB (s, bs) 1 := ⟨_, rfl⟩
  have hX' : X = (bs.drop 0).take (n / 2) := by rw [hX]; simp [areaB, hf, hn]
  have hY' : Y = (bs.drop (n / 2)).take (n / 2) := by rw [hY]; simp [areaB, hf, hn]
  have FX : Hid (RdB w w.heap.size (some ⟨b, o, none⟩) X) := by rw [hX']; exact RdB.part hA 0 (n / 2) (by omega) (by omega)
  have FY : Hid (RdB w w.heap.size (some ⟨b, o + n / 2, none⟩) Y) := by rw [hY']; exact RdB.part hA (n / 2) (n / 2) (by omega) (by omega)
  have LX : Hid (X.length = n / 2) := by rw [hX']; show _ = _; simp; omega
  have LY : Hid (Y.length = n / 2) := by rw [hY']; show _ = _; simp; omega
  clear hX' hY' hA hn
  by_cases h0 : X.getD 0 0 = 80
  · by_cases h1 : Y.getD 0 0 = 80
    · by_cases hg : genB X < genB Y
      · have hcur : curO (s, bs) = some 1 := by unfold curO; rw [← hX, ← hY, if_pos h0, if_pos h1, if_pos hg]
        clear hX hY
        rw [hcur]
        have e0 := byte80 h0
        have e1 := byte80 h1
        obtain ⟨x0, hx0⟩ : ∃ x, x = X.getD 0 0 := ⟨_, rfl⟩
        obtain ⟨y0, hy0⟩ : ∃ x, x = Y.getD 0 0 := ⟨_, rfl⟩
        rw [← hx0] at e0
        rw [← hy0] at e1
        have PX := Lib.hid hx0
        have PY := Lib.hid hy0
        clear hx0 hy0 h0 h1 hcur
        have gI : (genB X : Int) < (genB Y : Int) := by omega
        unfold genB at gI
        simp only [List.getD_eq_getElem?_getD] at gI
        clear hg
        go_enter Tryz.func64, Tryz.ntmps64
        go_wp2_with fail
        obtain ⟨U0, hU0⟩ : ∃ Zz, Zz = w.alloc (.cells #[.int .i64 s, .slice (some ⟨b, o, none⟩) n c] 24) := ⟨_, rfl⟩
        have hb0 : Below w.heap.size w U0 := by rw [hU0]; exact al1 _ _
        have K0 : Bk U0 w.heap.size 24 #[.int .i64 s, .slice (some ⟨b, o, none⟩) n c] := by rw [hU0]; exact Bk.new _ _ _
        rw [← hU0]
        clear hU0
        obtain ⟨p0, p1⟩ := box2 K0
        clear K0
        have Rp0 := cell_regrown p0
        have Rp1 := cell_regrown p1
        have Ca0 := fun (d : Nat) (os : Array Obj) => Calls.regrown_of (area0_any s b o n c (grow (redrawn U0 d) os) h32 hn' hc)
        have Ca1 := fun (d : Nat) (os : Array Obj) => Calls.regrown_of (area1_any s b o n c (grow (redrawn U0 d) os) h32 hn' hc)
        refine wp_region_quiet_below (by kernel_rfl) (by kernel_rfl) ?_
        repeat (first | go_big_quiet_step (first | (with_reducible exact Ca0 _ _) | (with_reducible exact Ca1 _ _)) | quiet_step (first | (with_reducible exact Ca0 _ _) | (with_reducible exact Ca1 _ _)))
        refine wpQuiet_nil ?_
        intro _ hw'
        obtain ⟨⟨dq, osq⟩, hw''⟩ := hw'
        subst hw''
        obtain ⟨U1, hU1⟩ : ∃ V, V = grow (redrawn U0 dq) osq := ⟨_, rfl⟩
        have hbU1 : Below U0.heap.size U0 U1 := by rw [hU1]; exact below_regrown _ _ _
        rw [← hU1]
        clear hU1
        clear Rp0
        clear Rp1
        clear Ca0
        clear Ca1
        have HBx := Lib.hid (bt hbU1 hb0)
        clear hb0 hbU1 p0 p1
        replace FX := Lib.hid (FX.out.next HBx.out)
        replace FY := Lib.hid (FY.out.next HBx.out)
        have z0 := first_cell FX.out (by rw [LX.out]; omega)
        have z1 := first_cell FY.out (by rw [LY.out]; omega)
        rw [← PX.out] at z0
        rw [← PY.out] at z1
        have i1 : (0 : Int) < ((n / 2 : Nat) : Int) := by omega
        have i2 : (0 : Nat) < n / 2 := by omega
        have i3 : 5 ≤ n / 2 := by omega
        have i4 : (5 : Int) ≤ ((n / 2 : Nat) : Int) := by omega
        go_wp2
        go_quiet (fail)
        go_wp2_with fail
        clear z0 z1
        obtain ⟨U2, hU2⟩ : ∃ Zz, Zz = U1.drewN nq := ⟨_, rfl⟩
        have hbU2 : Below U1.heap.size U1 U2 := by rw [hU2]; exact belowDrew (Below.refl _ U1) _
        rw [← hU2]
        clear hU2
        have r0 := four_of (FX.out.next hbU2) (by rw [LX.out]; exact i3)
        have r1 := four_of (FY.out.next hbU2) (by rw [LY.out]; exact i3)
        have Cn1 := fun (d : Nat) (os : Array Obj) => Calls.regrown_of (number_b _ _ _ _ _ (n / 2 - 1) (grow (redrawn U2 d) os) (RdB.next r1 (below_regrown U2 d os)))
        have Cn0 := fun (d : Nat) (os : Array Obj) => Calls.regrown_of (number_b _ _ _ _ _ (n / 2 - 1) (grow (redrawn U2 d) os) (RdB.next r0 (below_regrown U2 d os)))
        refine wp_region_quiet_below (by kernel_rfl) (by kernel_rfl) ?_
        repeat (first | go_big_quiet_step (first | (with_reducible exact Cn1 _ _) | (with_reducible exact Cn0 _ _)) | quiet_step (first | (with_reducible exact Cn1 _ _) | (with_reducible exact Cn0 _ _)))
        refine wpQuiet_nil ?_
        intro _ hw'
        obtain ⟨⟨dq, osq⟩, hw''⟩ := hw'
        subst hw''
        obtain ⟨U3, hU3⟩ : ∃ V, V = grow (redrawn U2 dq) osq := ⟨_, rfl⟩
        have hbU3 : Below U2.heap.size U2 U3 := by rw [hU3]; exact below_regrown _ _ _
        rw [← hU3]
        clear hU3
        clear Cn1
        clear Cn0
        clear r0 r1
        go_wp2
        all_goals first | (exfalso; omega) | (go_ret2; exact ⟨rfl, bt hbU3 (bt hbU2 HBx.out)⟩)
      · have hcur : curO (s, bs) = some 0 := by unfold curO; rw [← hX, ← hY, if_pos h0, if_pos h1, if_neg hg]
        clear hX hY
        rw [hcur]
        have e0 := byte80 h0
        have e1 := byte80 h1
        obtain ⟨x0, hx0⟩ : ∃ x, x = X.getD 0 0 := ⟨_, rfl⟩
        obtain ⟨y0, hy0⟩ : ∃ x, x = Y.getD 0 0 := ⟨_, rfl⟩
        rw [← hx0] at e0
        rw [← hy0] at e1
        have PX := Lib.hid hx0
        have PY := Lib.hid hy0
        clear hx0 hy0 h0 h1 hcur
        have gI : (genB Y : Int) ≤ (genB X : Int) := by omega
        unfold genB at gI
        simp only [List.getD_eq_getElem?_getD] at gI
        clear hg
        go_enter Tryz.func64, Tryz.ntmps64
        go_wp2_with fail
        obtain ⟨U0, hU0⟩ : ∃ Zz, Zz = w.alloc (.cells #[.int .i64 s, .slice (some ⟨b, o, none⟩) n c] 24) := ⟨_, rfl⟩
        have hb0 : Below w.heap.size w U0 := by rw [hU0]; exact al1 _ _
        have K0 : Bk U0 w.heap.size 24 #[.int .i64 s, .slice (some ⟨b, o, none⟩) n c] := by rw [hU0]; exact Bk.new _ _ _
        rw [← hU0]
        clear hU0
        obtain ⟨p0, p1⟩ := box2 K0
        clear K0
        have Rp0 := cell_regrown p0
        have Rp1 := cell_regrown p1
        have Ca0 := fun (d : Nat) (os : Array Obj) => Calls.regrown_of (area0_any s b o n c (grow (redrawn U0 d) os) h32 hn' hc)
        have Ca1 := fun (d : Nat) (os : Array Obj) => Calls.regrown_of (area1_any s b o n c (grow (redrawn U0 d) os) h32 hn' hc)
        refine wp_region_quiet_below (by kernel_rfl) (by kernel_rfl) ?_
        repeat (first | go_big_quiet_step (first | (with_reducible exact Ca0 _ _) | (with_reducible exact Ca1 _ _)) | quiet_step (first | (with_reducible exact Ca0 _ _) | (with_reducible exact Ca1 _ _)))
        refine wpQuiet_nil ?_
        intro _ hw'
        obtain ⟨⟨dq, osq⟩, hw''⟩ := hw'
        subst hw''
        obtain ⟨U1, hU1⟩ : ∃ V, V = grow (redrawn U0 dq) osq := ⟨_, rfl⟩
        have hbU1 : Below U0.heap.size U0 U1 := by rw [hU1]; exact below_regrown _ _ _
        rw [← hU1]
        clear hU1
        clear Rp0
        clear Rp1
        clear Ca0
        clear Ca1
        have HBx := Lib.hid (bt hbU1 hb0)
        clear hb0 hbU1 p0 p1
        replace FX := Lib.hid (FX.out.next HBx.out)
        replace FY := Lib.hid (FY.out.next HBx.out)
        have z0 := first_cell FX.out (by rw [LX.out]; omega)
        have z1 := first_cell FY.out (by rw [LY.out]; omega)
        rw [← PX.out] at z0
        rw [← PY.out] at z1
        have i1 : (0 : Int) < ((n / 2 : Nat) : Int) := by omega
        have i2 : (0 : Nat) < n / 2 := by omega
        have i3 : 5 ≤ n / 2 := by omega
        have i4 : (5 : Int) ≤ ((n / 2 : Nat) : Int) := by omega
        go_wp2
        go_quiet (fail)
        go_wp2_with fail
        clear z0 z1
        obtain ⟨U2, hU2⟩ : ∃ Zz, Zz = U1.drewN nq := ⟨_, rfl⟩
        have hbU2 : Below U1.heap.size U1 U2 := by rw [hU2]; exact belowDrew (Below.refl _ U1) _
        rw [← hU2]
        clear hU2
        have r0 := four_of (FX.out.next hbU2) (by rw [LX.out]; exact i3)
        have r1 := four_of (FY.out.next hbU2) (by rw [LY.out]; exact i3)
        have Cn1 := fun (d : Nat) (os : Array Obj) => Calls.regrown_of (number_b _ _ _ _ _ (n / 2 - 1) (grow (redrawn U2 d) os) (RdB.next r1 (below_regrown U2 d os)))
        have Cn0 := fun (d : Nat) (os : Array Obj) => Calls.regrown_of (number_b _ _ _ _ _ (n / 2 - 1) (grow (redrawn U2 d) os) (RdB.next r0 (below_regrown U2 d os)))
        refine wp_region_quiet_below (by kernel_rfl) (by kernel_rfl) ?_
        repeat (first | go_big_quiet_step (first | (with_reducible exact Cn1 _ _) | (with_reducible exact Cn0 _ _)) | quiet_step (first | (with_reducible exact Cn1 _ _) | (with_reducible exact Cn0 _ _)))
        refine wpQuiet_nil ?_
        intro _ hw'
        obtain ⟨⟨dq, osq⟩, hw''⟩ := hw'
        subst hw''
        obtain ⟨U3, hU3⟩ : ∃ V, V = grow (redrawn U2 dq) osq := ⟨_, rfl⟩
        have hbU3 : Below U2.heap.size U2 U3 := by rw [hU3]; exact below_regrown _ _ _
        rw [← hU3]
        clear hU3
        clear Cn1
        clear Cn0
        clear r0 r1
        go_wp2
        all_goals first | (exfalso; omega) | (go_ret2; exact ⟨rfl, bt hbU3 (bt hbU2 HBx.out)⟩)
    · have hcur : curO (s, bs) = some 0 := by unfold curO; rw [← hX, ← hY, if_pos h0, if_neg h1]
      clear hX hY
      rw [hcur]
      have e0 := byte80 h0
      have e1 := byte80' h1
      obtain ⟨x0, hx0⟩ : ∃ x, x = X.getD 0 0 := ⟨_, rfl⟩
      obtain ⟨y0, hy0⟩ : ∃ x, x = Y.getD 0 0 := ⟨_, rfl⟩
      rw [← hx0] at e0
      rw [← hy0] at e1
      have PX := Lib.hid hx0
      have PY := Lib.hid hy0
      clear hx0 hy0 h0 h1 hcur
      go_enter Tryz.func64, Tryz.ntmps64
      go_wp2_with fail
      obtain ⟨U0, hU0⟩ : ∃ Zz, Zz = w.alloc (.cells #[.int .i64 s, .slice (some ⟨b, o, none⟩) n c] 24) := ⟨_, rfl⟩
      have hb0 : Below w.heap.size w U0 := by rw [hU0]; exact al1 _ _
      have K0 : Bk U0 w.heap.size 24 #[.int .i64 s, .slice (some ⟨b, o, none⟩) n c] := by rw [hU0]; exact Bk.new _ _ _
      rw [← hU0]
      clear hU0
      obtain ⟨p0, p1⟩ := box2 K0
      clear K0
      have Rp0 := cell_regrown p0
      have Rp1 := cell_regrown p1
      have Ca0 := fun (d : Nat) (os : Array Obj) => Calls.regrown_of (area0_any s b o n c (grow (redrawn U0 d) os) h32 hn' hc)
      have Ca1 := fun (d : Nat) (os : Array Obj) => Calls.regrown_of (area1_any s b o n c (grow (redrawn U0 d) os) h32 hn' hc)
      refine wp_region_quiet_below (by kernel_rfl) (by kernel_rfl) ?_
      repeat (first | go_big_quiet_step (first | (with_reducible exact Ca0 _ _) | (with_reducible exact Ca1 _ _)) | quiet_step (first | (with_reducible exact Ca0 _ _) | (with_reducible exact Ca1 _ _)))
      refine wpQuiet_nil ?_
      intro _ hw'
      obtain ⟨⟨dq, osq⟩, hw''⟩ := hw'
      subst hw''
      obtain ⟨U1, hU1⟩ : ∃ V, V = grow (redrawn U0 dq) osq := ⟨_, rfl⟩
      have hbU1 : Below U0.heap.size U0 U1 := by rw [hU1]; exact below_regrown _ _ _
      rw [← hU1]
      clear hU1
      clear Rp0
      clear Rp1
      clear Ca0
      clear Ca1
      have HBx := Lib.hid (bt hbU1 hb0)
      clear hb0 hbU1 p0 p1
      replace FX := Lib.hid (FX.out.next HBx.out)
      replace FY := Lib.hid (FY.out.next HBx.out)
      have z0 := first_cell FX.out (by rw [LX.out]; omega)
      have z1 := first_cell FY.out (by rw [LY.out]; omega)
      rw [← PX.out] at z0
      rw [← PY.out] at z1
      have i1 : (0 : Int) < ((n / 2 : Nat) : Int) := by omega
      have i2 : (0 : Nat) < n / 2 := by omega
      have i3 : 5 ≤ n / 2 := by omega
      have i4 : (5 : Int) ≤ ((n / 2 : Nat) : Int) := by omega
      go_wp2
      go_quiet (fail)
      go_wp2_with fail
      go_ret2
      exact ⟨rfl, belowDrew HBx.out _⟩
  · by_cases h1 : Y.getD 0 0 = 80
    · have hcur : curO (s, bs) = some 1 := by unfold curO; rw [← hX, ← hY, if_neg h0, if_pos h1]
      clear hX hY
      rw [hcur]
      have e0 := byte80' h0
      have e1 := byte80 h1
      obtain ⟨x0, hx0⟩ : ∃ x, x = X.getD 0 0 := ⟨_, rfl⟩
      obtain ⟨y0, hy0⟩ : ∃ x, x = Y.getD 0 0 := ⟨_, rfl⟩
      rw [← hx0] at e0
      rw [← hy0] at e1
      have PX := Lib.hid hx0
      have PY := Lib.hid hy0
      clear hx0 hy0 h0 h1 hcur
      go_enter Tryz.func64, Tryz.ntmps64
      go_wp2_with fail
      obtain ⟨U0, hU0⟩ : ∃ Zz, Zz = w.alloc (.cells #[.int .i64 s, .slice (some ⟨b, o, none⟩) n c] 24) := ⟨_, rfl⟩
      have hb0 : Below w.heap.size w U0 := by rw [hU0]; exact al1 _ _
      have K0 : Bk U0 w.heap.size 24 #[.int .i64 s, .slice (some ⟨b, o, none⟩) n c] := by rw [hU0]; exact Bk.new _ _ _
      rw [← hU0]
      clear hU0
      obtain ⟨p0, p1⟩ := box2 K0
      clear K0
      have Rp0 := cell_regrown p0
      have Rp1 := cell_regrown p1
      have Ca0 := fun (d : Nat) (os : Array Obj) => Calls.regrown_of (area0_any s b o n c (grow (redrawn U0 d) os) h32 hn' hc)
      have Ca1 := fun (d : Nat) (os : Array Obj) => Calls.regrown_of (area1_any s b o n c (grow (redrawn U0 d) os) h32 hn' hc)
      refine wp_region_quiet_below (by kernel_rfl) (by kernel_rfl) ?_
      repeat (first | go_big_quiet_step (first | (with_reducible exact Ca0 _ _) | (with_reducible exact Ca1 _ _)) | quiet_step (first | (with_reducible exact Ca0 _ _) | (with_reducible exact Ca1 _ _)))
      refine wpQuiet_nil ?_
      intro _ hw'
      obtain ⟨⟨dq, osq⟩, hw''⟩ := hw'
      subst hw''
      obtain ⟨U1, hU1⟩ : ∃ V, V = grow (redrawn U0 dq) osq := ⟨_, rfl⟩
      have hbU1 : Below U0.heap.size U0 U1 := by rw [hU1]; exact below_regrown _ _ _
      rw [← hU1]
      clear hU1
      clear Rp0
      clear Rp1
      clear Ca0
      clear Ca1
      have HBx := Lib.hid (bt hbU1 hb0)
      clear hb0 hbU1 p0 p1
      replace FX := Lib.hid (FX.out.next HBx.out)
      replace FY := Lib.hid (FY.out.next HBx.out)
      have z0 := first_cell FX.out (by rw [LX.out]; omega)
      have z1 := first_cell FY.out (by rw [LY.out]; omega)
      rw [← PX.out] at z0
      rw [← PY.out] at z1
      have i1 : (0 : Int) < ((n / 2 : Nat) : Int) := by omega
      have i2 : (0 : Nat) < n / 2 := by omega
      have i3 : 5 ≤ n / 2 := by omega
      have i4 : (5 : Int) ≤ ((n / 2 : Nat) : Int) := by omega
      go_wp2
      go_quiet (fail)
      go_wp2_with fail
      go_ret2
      exact ⟨rfl, belowDrew HBx.out _⟩
    · have hcur : curO (s, bs) = none := by unfold curO; rw [← hX, ← hY, if_neg h0, if_neg h1]
      clear hX hY
      rw [hcur]
      have e0 := byte80' h0
      have e1 := byte80' h1
      obtain ⟨x0, hx0⟩ : ∃ x, x = X.getD 0 0 := ⟨_, rfl⟩
      obtain ⟨y0, hy0⟩ : ∃ x, x = Y.getD 0 0 := ⟨_, rfl⟩
      rw [← hx0] at e0
      rw [← hy0] at e1
      have PX := Lib.hid hx0
      have PY := Lib.hid hy0
      clear hx0 hy0 h0 h1 hcur
      go_enter Tryz.func64, Tryz.ntmps64
      go_wp2_with fail
      obtain ⟨U0, hU0⟩ : ∃ Zz, Zz = w.alloc (.cells #[.int .i64 s, .slice (some ⟨b, o, none⟩) n c] 24) := ⟨_, rfl⟩
      have hb0 : Below w.heap.size w U0 := by rw [hU0]; exact al1 _ _
      have K0 : Bk U0 w.heap.size 24 #[.int .i64 s, .slice (some ⟨b, o, none⟩) n c] := by rw [hU0]; exact Bk.new _ _ _
      rw [← hU0]
      clear hU0
      obtain ⟨p0, p1⟩ := box2 K0
      clear K0
      have Rp0 := cell_regrown p0
      have Rp1 := cell_regrown p1
      have Ca0 := fun (d : Nat) (os : Array Obj) => Calls.regrown_of (area0_any s b o n c (grow (redrawn U0 d) os) h32 hn' hc)
      have Ca1 := fun (d : Nat) (os : Array Obj) => Calls.regrown_of (area1_any s b o n c (grow (redrawn U0 d) os) h32 hn' hc)
      refine wp_region_quiet_below (by kernel_rfl) (by kernel_rfl) ?_
      repeat (first | go_big_quiet_step (first | (with_reducible exact Ca0 _ _) | (with_reducible exact Ca1 _ _)) | quiet_step (first | (with_reducible exact Ca0 _ _) | (with_reducible exact Ca1 _ _)))
      refine wpQuiet_nil ?_
      intro _ hw'
      obtain ⟨⟨dq, osq⟩, hw''⟩ := hw'
      subst hw''
      obtain ⟨U1, hU1⟩ : ∃ V, V = grow (redrawn U0 dq) osq := ⟨_, rfl⟩
      have hbU1 : Below U0.heap.size U0 U1 := by rw [hU1]; exact below_regrown _ _ _
      rw [← hU1]
      clear hU1
      clear Rp0
      clear Rp1
      clear Ca0
      clear Ca1
      have HBx := Lib.hid (bt hbU1 hb0)
      clear hb0 hbU1 p0 p1
      replace FX := Lib.hid (FX.out.next HBx.out)
      replace FY := Lib.hid (FY.out.next HBx.out)
      have z0 := first_cell FX.out (by rw [LX.out]; omega)
      have z1 := first_cell FY.out (by rw [LY.out]; omega)
      rw [← PX.out] at z0
      rw [← PY.out] at z1
      have i1 : (0 : Int) < ((n / 2 : Nat) : Int) := by omega
      have i2 : (0 : Nat) < n / 2 := by omega
      have i3 : 5 ≤ n / 2 := by omega
      have i4 : (5 : Int) ≤ ((n / 2 : Nat) : Int) := by omega
      go_wp2
      go_quiet (fail)
      go_wp2_with fail
      go_ret2
      exact ⟨rfl, belowDrew HBx.out _⟩
end Go.Proofs.YthebojaminploaaGreatDoor
