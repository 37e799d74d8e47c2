/- The reference's checksum, numbers in bytes, records. -/
import Derived.Test.YthebojaminploaaGreatDoorKJS
import Derived.Deep.Cut
import Derived.Deep.CutRange
import Derived.Test.YthebojaminploaaGreatDoorKJr
set_option maxRecDepth 100000
set_option linter.unusedVariables false
set_option linter.unusedSimpArgs false
namespace Go.Proofs.YthebojaminploaaGreatDoor
open Go.RowKit Go.Sort

theorem fnv_take (bs : List UInt8) (j : Nat) (hj : j < bs.length) : fnv (bs.take (j + 1)) = (fnv (bs.take j) ^^^ bs[j].toUInt32) * 16777619 := by
  rw [List.take_succ_eq_append_getElem hj, fnv_snoc]
set_option maxHeartbeats 1000000 in
theorem rSum_any (bs : List UInt8) (n : Nat) (hbn : bs.length = n) (A : Option Addr) (c : Nat) (w : World) (hA : RdB w w.heap.size A bs) (hn : n ≤ 1000000000) :
    Calls Tryz.prog 75 #[.slice A n c] w fun e w' => e = .returned (.int .u32 ((fnv bs).toNat : Int)) ∧ w = w' := by
  subst hbn
  have HA := Lib.hid hA
  clear hA
  go_enter Tryz.func75, Tryz.ntmps75
  go_wp2
  go_loop [3, 4] (fun x k => ∃ j : Nat, j ≤ bs.length ∧ k = .int .i64 (j : Int) ∧ x = .int .u32 ((fnv (bs.take j)).toNat : Int)) (fun _ k => bs.length - (intOf k).toNat)
  case atStart => exact ⟨0, Nat.zero_le _, rfl, by simp [fnv]⟩
  case round =>
    obtain ⟨j, hj, rfl, rfl⟩ := hrel
    by_cases hjl : j < bs.length
    · obtain ⟨b2, o2, rfl, hb2, q2⟩ := HA.out.at_ hjl
      have hx := xor32 (fnv (bs.take j)) bs[j]
      have hm := mul32 (fnv (bs.take j) ^^^ bs[j].toUInt32)
      have HN := Lib.hid (fnv_take bs j hjl)
      obtain ⟨h0, hh0⟩ : ∃ h, h = fnv (bs.take j) := ⟨_, rfl⟩
      obtain ⟨dj, hdj⟩ : ∃ x, x = bs[j] := ⟨_, rfl⟩
      rw [← hh0, ← hdj] at HN
      rw [← hh0, ← hdj] at hx hm
      rw [← hh0]
      rw [← hdj] at q2
      have b0 := h0.toNat_lt
      have b1 := dj.toNat_lt
      have b2' := (h0 ^^^ dj.toUInt32).toNat_lt
      clear hh0 hdj
      have k1 : (0 : Int) ≤ (j : Int) := by omega
      have k2 : (j : Int) < (bs.length : Int) := by omega
      go_wp2
      go_round
      case rel => exact ⟨j + 1, by omega, by go_num, by rw [HN.out, val32]⟩
      case measure => simp [intOf]; omega
    · obtain rfl : j = bs.length := by omega
      have HF : Hid (bs.take bs.length = bs) := List.take_of_length_le (Nat.le_refl _)
      rw [HF.out]
      go_wp2
      go_ret
      exact ⟨rfl, rfl⟩
theorem rfour_any (n : Nat) (hn : n < 4294967296) (w : World) :
    Calls Tryz.prog 57 #[.int .u32 (n : Int)] w fun e w' => e = .returned (.slice (some ⟨w.heap.size, 0, none⟩) 4 4) ∧ w' = w.alloc (.cells (u8s (be4 n)).toArray 5) := by
  rw [be4_cells n hn]
  go_enter Tryz.func57, Tryz.ntmps57
  go_wp2
  go_ret
  refine ⟨rfl, ?_⟩
  simp only [Int.natCast_ediv, Int.natCast_emod]; rfl
set_option maxHeartbeats 1000000 in
theorem rRecord_any (d : Rec) (A : Option Addr) (c : Nat) (w : World) (hA : RdB w w.heap.size A d) (hd : d.length ≤ 65535) :
    Calls Tryz.prog 51 #[.slice A d.length c] w (packPost d w) := by
  obtain ⟨i0, hi, hz0, hz1, hz2⟩ := info_parts info_u8
  have HA := Lib.hid hA
  have HS := Lib.hid (szL_cells d.length hd)
  clear hA
  go_enter Tryz.func51, Tryz.ntmps51
  go_upto_region 3 with (at_builtin; refine wpList_append_rd _ rfl (.tmp 14) (.tmp 15) _ rfl w.heap.size 5 i0 _ 1 1 Tryz.underlying22 hi hz0 hz1 hz2 rfl (by omega) (.slice (some ⟨w.heap.size + 1, 0, none⟩) 1 1) 1 [.int .u8 80] rfl (own_block (e := 5) (cs := #[.int .u8 80]) (bkOf (by simp [at?_alloc])) (by omega) (by simp)) (w.heap.size + 1) (some ⟨w.heap.size, 0, none⟩) 2 2 [.int .u8 ((d.length : Int) / 256), .int .u8 ((d.length : Int) % 256)] rfl (rd_cells (t := 5) (cs := #[.int .u8 ((d.length : Int) / 256), .int .u8 ((d.length : Int) % 256)]) (bkOf (by simp [at?_alloc])) (by omega)) (by simp [Value.oneCell']) (by simp only [maxLen]; omega) (by omega) (by simp; omega) ?_; intro v1 w1 hown1 hg1 hat1)
  have B1 : Below w.heap.size w w1 := appNx (al2 _ _ _) (by simp; omega) (own_block (e := 5) (cs := #[.int .u8 80]) (bkOf (by simp [at?_alloc])) (by omega) (by simp)) hg1
  have K1 : Bk w1 w.heap.size 5 #[.int .u8 ((d.length : Int) / 256), .int .u8 ((d.length : Int) % 256)] := Bk.grown (bkOf (by simp [at?_alloc])) hg1 (by simp [Value.ownBlock])
  have HB := Lib.hid B1
  have HK := Lib.hid K1
  have HNE : Hid (v1.ownBlock ≠ some w.heap.size) := fun h9 => by
    rcases hat1 with h | h
    · rw [h] at h9; injection h9 with h9; simp at h9 <;> omega
    · rw [h] at h9; injection h9 with h9; simp at h9 <;> omega
  have HO : Hid (w1.ownsRow w.heap.size 5 1 v1 3 (.int .u8 80 :: u8s (szL d.length))) := by show World.ownsRow _ _ _ _ _ _ _; rw [HS.out]; exact hown1
  clear B1 K1 hg1 hat1 hown1
  go_wp2_with (at_builtin; refine wpList_append_rd _ rfl (.tmp 18) (.tmp 19) _ rfl w.heap.size 5 i0 _ 1 1 Tryz.underlying22 hi hz0 hz1 hz2 rfl (by omega) (.slice (some ⟨w.heap.size, 0, none⟩) 2 2) 2 (u8s (szL d.length)) rfl (by rw [HS.out]; exact own_block (e := 5) (cs := #[.int .u8 ((d.length : Int) / 256), .int .u8 ((d.length : Int) % 256)]) HK.out (Nat.le_refl _) (by simp)) w.heap.size A d.length c (u8s d) rfl (RdS.below HA.out HB.out) (u8s_one _) (by simp only [maxLen]; omega) (by omega) (HB.out.size) ?_; intro v2 w2 hown2 hg2 hat2; obtain ⟨A2, c2, rfl, hc2, hr2⟩ := own_read hown2)
  replace HO := Lib.hid (HO.out.kept hg2 (.inr (by simpa [Value.ownBlock] using HNE.out)))
  replace HB : Hid (Below w.heap.size w w2) := HB.out.grown hg2 HB.out.size (fun k hk => by simp [Value.ownBlock] at hk; omega)
  have HR2 : Hid (RdB w2 w2.heap.size A2 (szL d.length ++ d)) := by
    show RdS _ _ _ _ _ _
    have : u8s (szL d.length ++ d) = u8s (szL d.length) ++ u8s d := by simp [u8s]
    rw [this, List.length_append, show (szL d.length).length = 2 from rfl]; exact hr2
  clear hown2 hg2 hat2 hr2 HK HNE
  refine (rSum_any (szL d.length ++ d) (2 + d.length) (by simp [szL]; omega) A2 c2 w2 HR2.out (by omega)).mono ?_
  rintro e V ⟨rfl, rfl⟩
  rw [show ((fnv (szL d.length ++ d)).toNat : Int) = ((fnvN (szL d.length ++ d) : Nat) : Int) from rfl]
  go_wp2_with fail
  refine (rfour_any _ (fnvN_lt _) _).mono ?_
  rintro e V ⟨rfl, rfl⟩
  have hs2 := HB.out.size
  clear HR2
  go_wp2_with (first | (at_builtin; refine wpList_append_rd _ rfl (.tmp 17) (.tmp 22) _ rfl w.heap.size 5 i0 _ 1 1 Tryz.underlying22 hi hz0 hz1 hz2 rfl (by omega) v1 3 (.int .u8 80 :: u8s (szL d.length)) rfl (HO.out.alloc _) (w2.heap.size + 1) (some ⟨w2.heap.size, 0, none⟩) 4 4 (u8s (be4 (fnvN (szL d.length ++ d)))) rfl (rd_cells (t := 5) (cs := (u8s (be4 (fnvN (szL d.length ++ d)))).toArray) (Bk.new _ _ _) (by omega)) (u8s_one _) (by simp only [maxLen]; omega) (by omega) (by simp; omega) ?_; intro v3 w3 hown3 hg3 hat3; replace HB := Lib.hid (appNx (HB.out.alloc hs2 _) (by simp; omega) (HO.out.alloc _) hg3); clear HO hg3 hat3 hs2) | (at_builtin; refine wpList_append_rd _ rfl (.tmp 24) (.tmp 25) _ rfl w.heap.size 5 i0 _ 1 1 Tryz.underlying22 hi hz0 hz1 hz2 rfl (by omega) v3 7 _ rfl hown3 w.heap.size A d.length c (u8s d) rfl (RdS.below HA.out HB.out) (u8s_one _) (by simp only [maxLen]; omega) (by omega) (HB.out.size) ?_; intro v4 w4 hown4 hg4 hat4))
  replace HB := Lib.hid (appNx HB.out HB.out.size hown3 hg4)
  clear hown3 hg4 hat4
  obtain ⟨A3, c3, rfl, hc3, _⟩ := own_read hown4
  have R3 : w4.ownsRow w.heap.size 5 1 (.slice A3 (7 + d.length) c3) (7 + d.length) (u8s (recL d)) := by
    have e : u8s (recL d) = (.int .u8 80 :: u8s (szL d.length)) ++ u8s (be4 (fnvN (szL d.length ++ d))) ++ u8s d := by simp [recL, u8s, u8]
    rw [e]
    exact hown4
  clear hown4
  go_wp2
  go_ret
  exact ⟨A3, c3, ret_slice (by omega), by omega, R3, HB.out⟩
end Go.Proofs.YthebojaminploaaGreatDoor

/- The reference's walk over the records of an area. -/
set_option maxRecDepth 100000
set_option linter.unusedVariables false
set_option linter.unusedSimpArgs false
namespace Go.Proofs.YthebojaminploaaGreatDoor
open Go.RowKit Go.Sort Go.Shelf

/-! ### the records that are found, step by step -/
theorem stepOk_size {s : List UInt8} {n : Nat} (h : stepOk s = some n) : n = (s.getD 1 0).toNat * 256 + (s.getD 2 0).toNat := by
  unfold stepOk at h
  split at h
  · split at h
    · split at h
      · exact (Option.some.inj h).symm
      · cases h
    · cases h
  · cases h
def Sc (b : List UInt8) (l : List Rec) (p : Nat) : Prop := ∃ k, b.length ≤ p + k ∧ scanA b = (scan b k p).map fun r => (l ++ r.1, r.2)
theorem Sc.start (b : List UInt8) : Sc b [] 5 := ⟨b.length, by omega, by simp [scanA]⟩
theorem Sc.fin {b : List UInt8} {l : List Rec} {p : Nat} (h : Sc b l p) (hs : ¬ (p < b.length ∧ b.getD p 0 = 80)) : scanA b = some (l, p) := by
  obtain ⟨k, hk, e⟩ := h
  rw [e]
  cases k with
  | zero => simp [scan]
  | succ k => rw [scan, if_neg hs]; simp
theorem Sc.bad {b : List UInt8} {l : List Rec} {p : Nat} (h : Sc b l p) (hh : p < b.length ∧ b.getD p 0 = 80) (hs : stepOk (b.drop p) = none) : scanA b = none := by
  obtain ⟨k, hk, e⟩ := h
  rw [e]
  cases k with
  | zero => omega
  | succ k => rw [scan, if_pos hh, hs]; rfl
theorem Sc.go {b : List UInt8} {l : List Rec} {p n : Nat} (h : Sc b l p) (hh : p < b.length ∧ b.getD p 0 = 80) (hs : stepOk (b.drop p) = some n) : Sc b (l ++ [((b.drop p).drop 7).take n]) (p + 7 + n) := by
  obtain ⟨k, hk, e⟩ := h
  cases k with
  | zero => omega
  | succ k =>
    refine ⟨k, by omega, ?_⟩
    rw [e, scan, if_pos hh, hs]
    simp only [Option.map_map]
    congr 1
    funext r
    simp
theorem rstep_short {b : List UInt8} {p : Nat} (h : b.length < p + 7) : stepOk (b.drop p) = none := by
  unfold stepOk
  rw [if_neg (by rw [List.length_drop]; omega)]
theorem rstep_long {b : List UInt8} {p n : Nat} (hn : n = (b.getD (p + 1) 0).toNat * 256 + (b.getD (p + 2) 0).toNat) (h : b.length < p + 7 + n) : stepOk (b.drop p) = none := by
  cases hs : stepOk (b.drop p) with
  | none => rfl
  | some m =>
    have e := stepOk_size hs
    rw [drop_getD, drop_getD, ← hn] at e
    subst e
    unfold stepOk at hs
    split at hs
    · rename_i h7
      rw [List.length_drop] at h7
      split at hs
      · rename_i h8
        rw [List.length_drop, drop_getD, drop_getD, ← hn] at h8
        omega
      · cases hs
    · cases hs
theorem rstep_good {b : List UInt8} {p n : Nat} (h8 : p + 7 + n ≤ b.length) (hn : n ≤ 65535) (h : (b.drop p).take (7 + n) = recL (((b.drop p).drop 7).take n)) : stepOk (b.drop p) = some n := by
  have hl : (((b.drop p).drop 7).take n).length = n := by rw [List.length_take, List.length_drop, List.length_drop]; omega
  have := stepOk_rec (((b.drop p).drop 7).take n) (by omega) ((b.drop p).drop (7 + n))
  rw [← h, List.take_append_drop, hl] at this
  exact this
theorem rstep_bad {b : List UInt8} {p n : Nat} (h0 : b.getD p 0 = 80) (hn : n = (b.getD (p + 1) 0).toNat * 256 + (b.getD (p + 2) 0).toNat) (h : (b.drop p).take (7 + n) ≠ recL (((b.drop p).drop 7).take n)) : stepOk (b.drop p) = none := by
  cases hs : stepOk (b.drop p) with
  | none => rfl
  | some m =>
    have e := stepOk_size hs
    rw [drop_getD, drop_getD, ← hn] at e
    subst e
    exact absurd (stepOk_some (by rw [drop_getD, Nat.add_zero]; exact h0) hs).2.2 h
theorem own_nil0 {W : World} {g base : Nat} {e : TypeId} {sz : Nat} (h : at? W g = some (.cells #[] e (0, 0))) (hb : base ≤ g) : W.ownsRow base e sz (.slice (some ⟨g, 0, none⟩) 0 0) 0 [] :=
  ⟨by simp, .inr ⟨g, 0, #[], rfl, hb, h, Nat.le_refl _, by simp [maxLen], by simp, by simp⟩⟩
theorem rRecord_n (d : Rec) (n : Nat) (hdn : d.length = n) (A : Option Addr) (c : Nat) (w : World) (hA : RdB w w.heap.size A d) (hd : n ≤ 65535) :
    Calls Tryz.prog 51 #[.slice A n c] w fun e w' => ∃ A' c', e = .returned (.slice A' (7 + n) c') ∧ 7 + n ≤ c' ∧ RdB w' w'.heap.size A' (recL d) ∧ Below w.heap.size w w' := by
  subst hdn
  refine (rRecord_any d A c w hA hd).mono ?_
  rintro e w' ⟨A', c', rfl, hc, ho, hb⟩
  refine ⟨A', c', rfl, hc, ?_, hb⟩
  have := RdS.of_own ho
  show RdS _ _ _ _ _ _
  rw [recL_length]; exact this
theorem info_bytes : (Tryz.prog.info? 22).map (fun i => (i.zero, i.size, i.bytes)) = some (some (.slice none 0 0), 1, 24) := by kernel_rfl
def walkP (r : Option (List Rec × Nat)) (w : World) (e : Ending) (w' : World) : Prop :=
  match r with
  | none => e = .returned (.tuple #[.slice none 0 0, .int .i64 0, .bool false]) ∧ Below w.heap.size w w'
  | some (l, p) => ∃ A c, e = .returned (.tuple #[.slice A l.length c, .int .i64 (p : Int), .bool true]) ∧ l.length ≤ c ∧ RdBs w' w'.heap.size A l ∧ Below w.heap.size w w'
theorem walkP_none {r : Option (List Rec × Nat)} (h : r = none) {w w' : World} (hb : Below w.heap.size w w') : walkP r w (.returned (.tuple #[.slice none 0 0, .int .i64 0, .bool false])) w' := by subst h; exact ⟨rfl, hb⟩
theorem walkP_some {r : Option (List Rec × Nat)} {l : List Rec} {p : Nat} (h : r = some (l, p)) {w w' : World} {A : Option Addr} {c n : Nat} (hn : n = l.length) (hc : l.length ≤ c) (hr : RdBs w' w'.heap.size A l) (hb : Below w.heap.size w w') : walkP r w (.returned (.tuple #[.slice A n c, .int .i64 (p : Int), .bool true])) w' := by subst h hn; exact ⟨A, c, rfl, hc, hr, hb⟩
theorem getD_get (b : List UInt8) {i : Nat} (h : i < b.length) : b.getD i 0 = b[i] := by rw [List.getD_eq_getElem?_getD, List.getElem?_eq_getElem h]; rfl
set_option maxHeartbeats 4000000 in
theorem walk_any (m : Mem) (a b o c : Nat) (w : World) (ha : a ≤ 1) (h32 : 32 ≤ m.2.length) (h4k : m.2.length ≤ 4096) (hc : m.2.length ≤ c) (hA : RdB w w.heap.size (some ⟨b, o, none⟩) m.2) :
    Calls Tryz.prog 59 #[.agg #[.int .i64 m.1, .slice (some ⟨b, o, none⟩) m.2.length c], .int .i64 (a : Int)] w (walkP (scanA (areaB m a)) w) := by
  have HA := Lib.hid hA
  clear hA
  obtain ⟨i0, hi, hz0, hz1, hz2⟩ := info_parts info_u8
  obtain ⟨j0, hj, hy0, hy1, hy2⟩ := info_parts info_bytes
  obtain ⟨AB, hAB⟩ : ∃ AB, AB = areaB m a := ⟨_, rfl⟩
  rw [← hAB]
  obtain ⟨hh, hhh⟩ : ∃ hh : Nat, hh = m.2.length / 2 := ⟨_, rfl⟩
  have HAL : Hid (AB.length = hh) := by show _ = _; rw [hAB, areaB_length m ha, hf, hhh]
  obtain ⟨q, hq⟩ : ∃ q, q = a * hh := ⟨_, rfl⟩
  have HABE : Hid (AB = (m.2.drop q).take hh) := by show _ = _; rw [hAB, areaB, hf, ← hhh, ← hq]
  have hq1 : q = 0 ∨ q = hh := by rcases (by omega : a = 0 ∨ a = 1) with h | h <;> rw [hq, h] <;> simp
  have hh16 : 16 ≤ hh := by omega
  have hhn : hh + hh ≤ m.2.length := by omega
  have hqh : q ≤ hh := by omega
  have hcq : ¬ c = q := by omega
  have hqI : (a : Int) * (hh : Int) = (q : Int) := by rw [hq]; simp
  obtain ⟨q2, hq2⟩ : ∃ q2, q2 = q + hh := ⟨_, rfl⟩
  have hq2I : ((a : Int) + 1) * (hh : Int) = (q2 : Int) := by rw [hq2, Int.add_mul, hqI]; simp
  have hqq : q2 - q = hh := by omega
  have wq : IntKind.i64.wrap (q : Int) = (q : Int) := IntWalk.i64_in _ (by omega)
  have wq2 : IntKind.i64.wrap (q2 : Int) = (q2 : Int) := IntWalk.i64_in _ (by omega)
  have wa1 : IntKind.i64.wrap ((a : Int) + 1) = (a : Int) + 1 := IntWalk.i64_in _ (by omega)
  have s1 : (0 : Int) ≤ (q : Int) := by omega
  have s2 : (q : Int) ≤ (q2 : Int) := by omega
  have s3 : (q2 : Int) ≤ (c : Int) := by omega
  have HHC : Hid (∀ W, Calls Tryz.prog 49 #[.agg #[.int .i64 m.1, .slice (some ⟨b, o, none⟩) m.2.length c]] W fun e w' => e = .returned (.int .i64 (hh : Int)) ∧ Below W.heap.size W w') := fun W => by rw [hhh]; exact Half_any m.1 _ m.2.length c W (by omega)
  clear hAB hhh hq hq1 hq2
  go_enter Tryz.func59, Tryz.ntmps59
  go_wp2
  obtain ⟨U, hU⟩ : ∃ Zz, Zz = w.alloc (.cells #[.int .i64 m.1, .slice (some ⟨b, o, none⟩) m.2.length c] 24) := ⟨_, rfl⟩
  have hbU : Below w.heap.size w U := by rw [hU]; exact al1 _ _
  have k1 : Bk U w.heap.size 24 #[.int .i64 m.1, .slice (some ⟨b, o, none⟩) m.2.length c] := by rw [hU]; exact Bk.new _ _ _
  rw [← hU]
  clear hU
  obtain ⟨c0, c1⟩ := box2 k1
  have Rc0 := cell_regrown c0
  have Rc1 := cell_regrown c1
  have CH := fun (d : Nat) (os : Array Obj) => Calls.regrown_of (HHC.out (grow (redrawn U d) os))
  refine wp_region_quiet_below (by kernel_rfl) (by kernel_rfl) ?_
  repeat (first | go_big_quiet_step (first | (with_reducible exact CH _ _)) | quiet_step (first | (with_reducible exact CH _ _)))
  refine wpQuiet_nil ?_
  intro _ hw'
  obtain ⟨⟨dq, osq⟩, hw''⟩ := hw'
  subst hw''
  obtain ⟨V, hV⟩ : ∃ V, V = grow (redrawn U dq) osq := ⟨_, rfl⟩
  have hbV : Below U.heap.size U V := by rw [hV]; exact below_regrown _ _ _
  rw [← hV]
  clear hV
  clear Rc0
  clear Rc1
  clear CH
  have HBV := Lib.hid (bt hbV hbU)
  clear hbV hbU k1 c0 c1 HHC hqI hq2I wq wq2 wa1
  go_wp2
  go_loopw [8, 9] (fun v8 v9 wr => ∃ (its : List Itm) (p : Nat), v9 = .int .i64 (p : Int) ∧ 5 ≤ p ∧ p ≤ hh ∧ its.length ≤ p ∧ Sc AB (its.map (·.2.2)) p ∧ Rw w.heap.size its v8 wr ∧ Below w.heap.size w wr) (fun _ v9 _ => hh - (intOf v9).toNat)
  case atStart => exact ⟨[], 5, rfl, Nat.le_refl _, by omega, by simp, Sc.start _, Rw.nil _ _, HBV.out⟩
  case round =>
    obtain ⟨its, p, rfl, hp5, hph, hil, hsc, hrw, hb⟩ := hrel
    have HSC := Lib.hid hsc
    have HRW := Lib.hid hrw
    have HB := Lib.hid hb
    have HAB : Hid (RdB wr wr.heap.size (some ⟨b, o + q, none⟩) AB) := RdB.part (HA.out.next HB.out) |> fun f => by rw [HABE.out]; exact f q hh (by omega) (by omega)
    have hwr : w.heap.size ≤ wr.heap.size := hb.size
    clear hsc hrw hb
    by_cases h1 : p < hh
    · have hpl : p < AB.length := by rw [HAL.out]; exact h1
      obtain ⟨bz, oz, hz, hbz, x0⟩ := HAB.out.at_ hpl
      obtain ⟨rfl, rfl⟩ : b = bz ∧ o + q = oz := by simpa using hz
      obtain ⟨x, hx⟩ : ∃ x, x = AB[p] := ⟨_, rfl⟩
      rw [← hx] at x0
      have HX := Lib.hid hx
      have p1 : (0 : Int) ≤ (p : Int) := by omega
      have p2 : (p : Int) < (hh : Int) := by omega
      clear hz hx
      by_cases h80 : x = 80
      · have e80 := byte80 h80
        have HH80 : Hid (p < AB.length ∧ AB.getD p 0 = 80) := ⟨hpl, by rw [getD_get _ hpl, ← HX.out, h80]⟩
        clear h80
        by_cases h7 : hh < p + 7
        · have p3 : (hh : Int) < (p : Int) + 7 := by omega
          have HSE : Hid (scanA AB = none) := HSC.out.bad HH80.out (rstep_short (by rw [HAL.out]; omega))
          go_wp2
          exact bodyPost_ret (v := .tuple #[.slice none 0 0, .int .i64 0, .bool false]) (by simp [results, Tryz.results59, go_sem]) rfl (walkP_none HSE.out HB.out)
        · have p3 : ¬ (hh : Int) < (p : Int) + 7 := by omega
          have hp1 : p + 1 < AB.length := by rw [HAL.out]; omega
          have hp2 : p + 2 < AB.length := by rw [HAL.out]; omega
          obtain ⟨ba, oa, ha1, _, x1⟩ := HAB.out.at_ hp1
          obtain ⟨rfl, rfl⟩ : b = ba ∧ o + q = oa := by simpa using ha1
          obtain ⟨ba, oa, ha2, _, x2⟩ := HAB.out.at_ hp2
          obtain ⟨rfl, rfl⟩ : b = ba ∧ o + q = oa := by simpa using ha2
          obtain ⟨y1, hy1⟩ : ∃ y, y = AB[p + 1] := ⟨_, rfl⟩
          obtain ⟨y2, hy2⟩ : ∃ y, y = AB[p + 2] := ⟨_, rfl⟩
          rw [← hy1] at x1
          rw [← hy2] at x2
          have b1 := y1.toNat_lt
          have b2 := y2.toNat_lt
          obtain ⟨n, hn⟩ : ∃ n, n = y1.toNat * 256 + y2.toNat := ⟨_, rfl⟩
          have hnI : 256 * (y1.toNat : Int) + (y2.toNat : Int) = (n : Int) := by omega
          have HSZ : Hid (n = (AB.getD (p + 1) 0).toNat * 256 + (AB.getD (p + 2) 0).toNat) := by show _ = _; rw [getD_get _ hp1, getD_get _ hp2, ← hy1, ← hy2]; exact hn
          have n1 : n ≤ 65535 := by omega
          obtain ⟨q1, hq1⟩ : ∃ q1, q1 = p + 1 := ⟨_, rfl⟩
          obtain ⟨q2, hq2⟩ : ∃ q2, q2 = p + 2 := ⟨_, rfl⟩
          rw [← hq1] at x1
          rw [← hq2] at x2
          have hq1I : (p : Int) + 1 = (q1 : Int) := by omega
          have hq2I : (p : Int) + 2 = (q2 : Int) := by omega
          have wq1 : IntKind.i64.wrap (q1 : Int) = (q1 : Int) := IntWalk.i64_in _ (by omega)
          have wq2 : IntKind.i64.wrap (q2 : Int) = (q2 : Int) := IntWalk.i64_in _ (by omega)
          have wn : IntKind.i64.wrap (n : Int) = (n : Int) := IntWalk.i64_in _ (by omega)
          have wy : IntKind.i64.wrap (256 * (y1.toNat : Int)) = 256 * (y1.toNat : Int) := IntWalk.i64_in _ (by omega)
          have s1 : (0 : Int) ≤ (q1 : Int) := by omega
          have s2 : (q1 : Int) < (hh : Int) := by omega
          have s3 : (0 : Int) ≤ (q2 : Int) := by omega
          have s4 : (q2 : Int) < (hh : Int) := by omega
          clear hy1 hy2 ha1 ha2 hn hp1 hp2 hq1 hq2
          go_wp2
          go_quiet (fail)
          obtain ⟨wr2, hwr2⟩ : ∃ Zz, Zz = wr.drewN nq := ⟨_, rfl⟩
          have hbd : Below wr.heap.size wr wr2 := by rw [hwr2]; exact belowDrew (Below.refl _ _) _
          rw [← hwr2]
          clear hwr2 x0 x1 x2 hq1I hq2I wq1 wq2 wn wy s1 s2 s3 s4 hnI
          replace HAB := Lib.hid (HAB.out.next hbd)
          replace HRW := Lib.hid (HRW.out.next hbd)
          replace HB := Lib.hid (bt hbd HB.out)
          clear hbd hbz hwr
          by_cases h8 : hh < p + 7 + n
          · have p4 : (hh : Int) < (p : Int) + 7 + (n : Int) := by omega
            have HSE : Hid (scanA AB = none) := HSC.out.bad HH80.out (rstep_long HSZ.out (by rw [HAL.out]; omega))
            go_wp2
            exact bodyPost_ret (v := .tuple #[.slice none 0 0, .int .i64 0, .bool false]) (by simp [results, Tryz.results59, go_sem]) rfl (walkP_none HSE.out HB.out)
          · have p4 : ¬ (hh : Int) < (p : Int) + 7 + (n : Int) := by omega
            obtain ⟨d, hd⟩ : ∃ d, d = ((AB.drop p).drop 7).take n := ⟨_, rfl⟩
            have HD := Lib.hid hd
            have HDL : Hid (d.length = n) := by show _ = _; rw [hd, List.length_take, List.length_drop, List.length_drop, HAL.out]; omega
            clear hd
            obtain ⟨r7, hr7⟩ : ∃ r7, r7 = p + 7 := ⟨_, rfl⟩
            have hr7I : (p : Int) + 7 = (r7 : Int) := by omega
            obtain ⟨r8, hr8⟩ : ∃ r8, r8 = r7 + n := ⟨_, rfl⟩
            have hr8I : (r7 : Int) + (n : Int) = (r8 : Int) := by omega
            have hr9 : r8 - r7 = n := by omega
            have HR8E : Hid (r8 = p + 7 + n) := by show _ = _; omega
            have t1 : (0 : Int) ≤ (r7 : Int) := by omega
            have t2 : (r7 : Int) ≤ (r8 : Int) := by omega
            have t3 : (r8 : Int) ≤ ((c - q : Nat) : Int) := by omega
            have hwr : w.heap.size ≤ wr2.heap.size := HB.out.size
            have hcut := (HAB.out : RdS _ _ _ _ _ _).cut (k := r7) (cap := c - q) (by rw [HAL.out]; omega) (by rw [HAL.out]; omega)
            have hhd := hcut.head_ (k := n) (by rw [HAL.out]; omega)
            have hds : (((u8s AB).drop (r7 * 1)).take (n * 1)) = u8s d := by
              rw [HD.out, List.drop_drop, Nat.mul_one, Nat.mul_one, hr7]
              simp [u8s, List.map_take, List.map_drop]
            rw [hds] at hhd
            clear hcut hds
            by_cases hcr : c - q = r7
            · rw [if_pos hcr] at hhd
              have HSRC := Lib.hid hhd
              clear hhd hr7 hr8
              go_wp2_with (at_builtin; refine wpList_append_rd _ rfl _ _ _ rfl w.heap.size 5 i0 _ 1 1 Tryz.underlying22 hi hz0 hz1 hz2 rfl (by omega) (.slice (some ⟨wr2.heap.size, 0, none⟩) 0 0) 0 [] (by rfl) (own_nil0 (by simp [at?_alloc]) hwr) wr2.heap.size (some ⟨b, o + q, none⟩) n _ (u8s d) (by rfl) (RdS.below HSRC.out (al1 _ _)) (u8s_one _) (by simp only [maxLen]; omega) (by omega) (by simp; omega) ?_; intro v3 W3 hown3 hg3 hat3)
              rw [Nat.zero_add, List.nil_append] at hown3
              obtain ⟨A3, c3, rfl, hc3, hr3⟩ := own_read hown3
              have hb3 : Below wr2.heap.size wr2 W3 := (al1 wr2 (.cells #[] 5)).grown hg3 (by simp) (fun k hk => by simp [Value.ownBlock] at hk; omega)
              have HABn := Lib.hid (HAB.out.next hb3)
              have HRWn := Lib.hid (HRW.out.next hb3)
              have HOW := Lib.hid hown3
              replace HB := Lib.hid (bt hb3 HB.out)
              have HR3 : Hid (RdB W3 W3.heap.size A3 d) := by show RdS _ _ _ _ _ _; rw [HDL.out]; exact hr3
              clear hown3 hg3 hat3 hr3 hb3 HSRC HAB HRW
              rw [← hcr]
              clear hcr
              go_wp2_with fail
              refine (rRecord_n d n HDL.out A3 c3 W3 HR3.out (by omega)).mono ?_
              rintro e W9 ⟨A9, c9, rfl, hc9, hrr, hb9⟩
              have HB9 := Lib.hid hb9
              have HRR := Lib.hid hrr
              have HAB9 := Lib.hid (HABn.out.next HB9.out)
              have HRW9 := Lib.hid (HRWn.out.next HB9.out)
              replace HOW := Lib.hid (own_on HOW.out HB9.out)
              clear hb9 hrr HABn HRWn
              go_wp2_with fail
              go_loopw [13] (fun i wq => ∃ k : Nat, i = .int .i64 (k : Int) ∧ k ≤ 7 + n ∧ (∀ j, j < k → (h1 : j < (recL d).length) → (h2 : p + j < AB.length) → (recL d)[j] = AB[p + j]) ∧ Below W9.heap.size W9 wq) (fun i _ => 7 + n - (intOf i).toNat)
              case atStart => exact ⟨0, rfl, Nat.zero_le _, fun j h => absurd h (Nat.not_lt_zero _), Below.refl _ _⟩
              case round =>
                obtain ⟨i, rfl, hi, hall, hbq⟩ := hrel
                have HALL := Lib.hid hall
                have HBQ := Lib.hid hbq
                clear hall hbq
                by_cases hin : i < 7 + n
                · have hri : i < (recL d).length := by rw [recL_length, HDL.out]; exact hin
                  have hpi : p + i < AB.length := by rw [HAL.out]; omega
                  obtain ⟨b9, o9, rfl, hb9, x0⟩ := (RdB.below HRR.out HBQ.out).at_ hri
                  obtain ⟨bz, oz, hz, hbz, x1⟩ := (RdB.below HAB9.out HBQ.out).at_ hpi
                  obtain ⟨rfl, rfl⟩ : b = bz ∧ o + q = oz := by simpa using hz
                  obtain ⟨u, hu⟩ : ∃ u, u = (recL d)[i] := ⟨_, rfl⟩
                  obtain ⟨v, hv⟩ : ∃ v, v = AB[p + i] := ⟨_, rfl⟩
                  rw [← hu] at x0
                  rw [← hv] at x1
                  have HU := Lib.hid hu
                  have HV := Lib.hid hv
                  obtain ⟨pi, hpI⟩ : ∃ pi, pi = p + i := ⟨_, rfl⟩
                  have hpI2 : (p : Int) + (i : Int) = (pi : Int) := by omega
                  have wpi : IntKind.i64.wrap (pi : Int) = (pi : Int) := IntWalk.i64_in _ (by omega)
                  rw [← hpI] at x1
                  have p1 : (0 : Int) ≤ (i : Int) := by omega
                  have p2 : (i : Int) < ((7 + n : Nat) : Int) := by omega
                  have p2' : (i : Int) < 7 + (n : Int) := by omega
                  have p3 : (0 : Int) ≤ (pi : Int) := by omega
                  have p4 : (pi : Int) < (hh : Int) := by have := HAL.out; omega
                  have u1 := u.toNat_lt
                  have v1 := v.toNat_lt
                  clear hu hv hz hpI
                  by_cases huv : u = v
                  · subst huv
                    have HN : Hid (∀ j, j < i + 1 → (h1 : j < (recL d).length) → (h2 : p + j < AB.length) → (recL d)[j] = AB[p + j]) := fun j hj h1 h2 => by
                      rcases Nat.lt_or_ge j i with h9 | h9
                      · exact HALL.out j h9 h1 h2
                      · obtain rfl : j = i := by omega
                        rw [← HU.out, ← HV.out]
                    go_wp2
                    go_quiet (fail)
                    go_wp2
                    go_roundw
                    case rel => exact ⟨i + 1, by go_num, by omega, HN.out, by first | exact HBQ.out | exact belowDrew HBQ.out _⟩
                    case measure => simp [intOf]; omega
                  · have hne : ((u.toNat : Int) != (v.toNat : Int)) = true := by rw [bne_iff_ne]; exact fun h9 => huv (UInt8.toNat_inj.1 (by omega))
                    have HSE : Hid (scanA AB = none) := HSC.out.bad HH80.out (rstep_bad HH80.out.2 HSZ.out (fun h9 => by
                      apply huv
                      have e1 : (recL d)[i]? = ((AB.drop p).take (7 + n))[i]? := by rw [h9, HD.out]
                      rw [List.getElem?_take, if_pos hin, List.getElem?_drop, List.getElem?_eq_getElem (show i < (recL d).length by rw [recL_length, HDL.out]; exact hin), List.getElem?_eq_getElem (show p + i < AB.length by rw [HAL.out]; omega)] at e1
                      rw [HU.out, HV.out]
                      exact Option.some.inj e1))
                    have HBL : Hid (Below w.heap.size w wr) := bt (bt HBQ.out HB9.out) HB.out
                    go_wp2
                    go_quiet (fail)
                    go_wp2
                    exact bodyPost_ret (v := .tuple #[.slice none 0 0, .int .i64 0, .bool false]) (by simp [results, Tryz.results59, go_sem]) rfl (walkP_none HSE.out (by first | exact HBL.out | exact belowDrew HBL.out _))
                · obtain rfl : i = 7 + n := by omega
                  have HST : Hid (stepOk (AB.drop p) = some n) := rstep_good (by rw [HAL.out]; omega) (by omega) (by
                    rw [← HD.out]
                    apply List.ext_getElem?
                    intro j
                    rcases Nat.lt_or_ge j (7 + n) with h9 | h9
                    · rw [List.getElem?_take, if_pos h9, List.getElem?_drop, List.getElem?_eq_getElem (show j < (recL d).length by rw [recL_length, HDL.out]; exact h9), List.getElem?_eq_getElem (show p + j < AB.length by rw [HAL.out]; omega), HALL.out j h9 (by rw [recL_length, HDL.out]; exact h9) (by rw [HAL.out]; omega)]
                    · rw [List.getElem?_eq_none (by rw [List.length_take]; omega), List.getElem?_eq_none (by rw [recL_length, HDL.out]; exact h9)])
                  have HSN : Hid (Sc AB ((its ++ [(A3, c3, d)]).map (·.2.2)) (p + 7 + n)) := by
                    show Sc _ _ _
                    have := HSC.out.go HH80.out HST.out
                    rw [← HD.out] at this
                    simpa using this
                  have HRWr := Lib.hid (HRW9.out.next HBQ.out)
                  have HOWr := Lib.hid (own_on HOW.out HBQ.out)
                  have HBL : Hid (Below w.heap.size w wr) := bt (bt HBQ.out HB9.out) HB.out
                  have hbls := HBL.out.size
                  have r87 : (p : Int) + 7 + (n : Int) = ((p + 7 + n : Nat) : Int) := by omega
                  go_wp2_with (at_builtin; refine wpList_append_rd _ rfl _ _ _ rfl w.heap.size 22 j0 _ 1 24 Tryz.underlying47 hj hy0 hy1 hy2 rfl (by omega) u8 its.length (its.map cellB) (by rfl) (HRWr.out.1.alloc _) (wr.heap.size + 1) (some ⟨wr.heap.size, 0, none⟩) 1 1 [.slice A3 n c3] (by rfl) (rd_cells (t := 22) (cs := #[.slice A3 n c3]) (Bk.new _ _ _) (by omega)) (by simp [Value.oneCell']) (by simp only [maxLen]; omega) (by omega) (by simp; omega) ?_; intro v8' W5 hown5 hg5 hat5)
                  have hxo : (wr.alloc (.cells #[.slice A3 n c3] 22)).ownsRow w.heap.size 5 1 (cellB (A3, c3, d)) d.length (u8s d) := by
                    have := HOWr.out.alloc (.cells #[.slice A3 n c3] 22)
                    simpa [cellB, HDL.out] using this
                  have HRS := (HRWr.out.next (al1 wr (.cells #[.slice A3 n c3] 22))).snoc (x := (A3, c3, d)) (W1 := W5) (v' := v8') hxo (by have := hown5; simpa [cellB, HDL.out] using this) hg5
                  have HF : Hid (Rw w.heap.size (its ++ [(A3, c3, d)]) v8' W5) := HRS
                  have HBF : Hid (Below w.heap.size w W5) := (HBL.out.alloc hbls _).grown hg5 (by simp; omega) (fun g hg => (HRWr.out.1.lt g hg).1)
                  clear hown5 hg5 hat5 hxo HRS
                  go_roundw
                  case rel => first
                    | exact ⟨its ++ [(A3, c3, d)], r8, rfl, by have := HR8E.out; omega, by have := HR8E.out; omega, by have := HR8E.out; simp; omega, by rw [HR8E.out]; exact HSN.out, HF.out, HBF.out⟩
                    | ((repeat apply Exists.intro); exact ⟨⟨its ++ [(A3, c3, d)], r8, rfl, by have := HR8E.out; omega, by have := HR8E.out; omega, by have := HR8E.out; simp; omega, by rw [HR8E.out]; exact HSN.out, HF.out, HBF.out⟩, rfl⟩)
                  case measure => simp [intOf]; omega
            · rw [if_neg hcr] at hhd
              simp only [Option.map_some, add_mk, Nat.mul_one] at hhd
              have HSRC := Lib.hid hhd
              clear hhd hr7 hr8
              go_wp2_with (at_builtin; refine wpList_append_rd _ rfl _ _ _ rfl w.heap.size 5 i0 _ 1 1 Tryz.underlying22 hi hz0 hz1 hz2 rfl (by omega) (.slice (some ⟨wr2.heap.size, 0, none⟩) 0 0) 0 [] (by rfl) (own_nil0 (by simp [at?_alloc]) hwr) wr2.heap.size (some ⟨b, o + q + r7, none⟩) n _ (u8s d) (by rfl) (RdS.below HSRC.out (al1 _ _)) (u8s_one _) (by simp only [maxLen]; omega) (by omega) (by simp; omega) ?_; intro v3 W3 hown3 hg3 hat3)
              rw [Nat.zero_add, List.nil_append] at hown3
              obtain ⟨A3, c3, rfl, hc3, hr3⟩ := own_read hown3
              have hb3 : Below wr2.heap.size wr2 W3 := (al1 wr2 (.cells #[] 5)).grown hg3 (by simp) (fun k hk => by simp [Value.ownBlock] at hk; omega)
              have HABn := Lib.hid (HAB.out.next hb3)
              have HRWn := Lib.hid (HRW.out.next hb3)
              have HOW := Lib.hid hown3
              replace HB := Lib.hid (bt hb3 HB.out)
              have HR3 : Hid (RdB W3 W3.heap.size A3 d) := by show RdS _ _ _ _ _ _; rw [HDL.out]; exact hr3
              clear hown3 hg3 hat3 hr3 hb3 HSRC HAB HRW
              go_wp2_with fail
              refine (rRecord_n d n HDL.out A3 c3 W3 HR3.out (by omega)).mono ?_
              rintro e W9 ⟨A9, c9, rfl, hc9, hrr, hb9⟩
              have HB9 := Lib.hid hb9
              have HRR := Lib.hid hrr
              have HAB9 := Lib.hid (HABn.out.next HB9.out)
              have HRW9 := Lib.hid (HRWn.out.next HB9.out)
              replace HOW := Lib.hid (own_on HOW.out HB9.out)
              clear hb9 hrr HABn HRWn
              go_wp2_with fail
              go_loopw [13] (fun i wq => ∃ k : Nat, i = .int .i64 (k : Int) ∧ k ≤ 7 + n ∧ (∀ j, j < k → (h1 : j < (recL d).length) → (h2 : p + j < AB.length) → (recL d)[j] = AB[p + j]) ∧ Below W9.heap.size W9 wq) (fun i _ => 7 + n - (intOf i).toNat)
              case atStart => exact ⟨0, rfl, Nat.zero_le _, fun j h => absurd h (Nat.not_lt_zero _), Below.refl _ _⟩
              case round =>
                obtain ⟨i, rfl, hi, hall, hbq⟩ := hrel
                have HALL := Lib.hid hall
                have HBQ := Lib.hid hbq
                clear hall hbq
                by_cases hin : i < 7 + n
                · have hri : i < (recL d).length := by rw [recL_length, HDL.out]; exact hin
                  have hpi : p + i < AB.length := by rw [HAL.out]; omega
                  obtain ⟨b9, o9, rfl, hb9, x0⟩ := (RdB.below HRR.out HBQ.out).at_ hri
                  obtain ⟨bz, oz, hz, hbz, x1⟩ := (RdB.below HAB9.out HBQ.out).at_ hpi
                  obtain ⟨rfl, rfl⟩ : b = bz ∧ o + q = oz := by simpa using hz
                  obtain ⟨u, hu⟩ : ∃ u, u = (recL d)[i] := ⟨_, rfl⟩
                  obtain ⟨v, hv⟩ : ∃ v, v = AB[p + i] := ⟨_, rfl⟩
                  rw [← hu] at x0
                  rw [← hv] at x1
                  have HU := Lib.hid hu
                  have HV := Lib.hid hv
                  obtain ⟨pi, hpI⟩ : ∃ pi, pi = p + i := ⟨_, rfl⟩
                  have hpI2 : (p : Int) + (i : Int) = (pi : Int) := by omega
                  have wpi : IntKind.i64.wrap (pi : Int) = (pi : Int) := IntWalk.i64_in _ (by omega)
                  rw [← hpI] at x1
                  have p1 : (0 : Int) ≤ (i : Int) := by omega
                  have p2 : (i : Int) < ((7 + n : Nat) : Int) := by omega
                  have p2' : (i : Int) < 7 + (n : Int) := by omega
                  have p3 : (0 : Int) ≤ (pi : Int) := by omega
                  have p4 : (pi : Int) < (hh : Int) := by have := HAL.out; omega
                  have u1 := u.toNat_lt
                  have v1 := v.toNat_lt
                  clear hu hv hz hpI
                  by_cases huv : u = v
                  · subst huv
                    have HN : Hid (∀ j, j < i + 1 → (h1 : j < (recL d).length) → (h2 : p + j < AB.length) → (recL d)[j] = AB[p + j]) := fun j hj h1 h2 => by
                      rcases Nat.lt_or_ge j i with h9 | h9
                      · exact HALL.out j h9 h1 h2
                      · obtain rfl : j = i := by omega
                        rw [← HU.out, ← HV.out]
                    go_wp2
                    go_quiet (fail)
                    go_wp2
                    go_roundw
                    case rel => exact ⟨i + 1, by go_num, by omega, HN.out, by first | exact HBQ.out | exact belowDrew HBQ.out _⟩
                    case measure => simp [intOf]; omega
                  · have hne : ((u.toNat : Int) != (v.toNat : Int)) = true := by rw [bne_iff_ne]; exact fun h9 => huv (UInt8.toNat_inj.1 (by omega))
                    have HSE : Hid (scanA AB = none) := HSC.out.bad HH80.out (rstep_bad HH80.out.2 HSZ.out (fun h9 => by
                      apply huv
                      have e1 : (recL d)[i]? = ((AB.drop p).take (7 + n))[i]? := by rw [h9, HD.out]
                      rw [List.getElem?_take, if_pos hin, List.getElem?_drop, List.getElem?_eq_getElem (show i < (recL d).length by rw [recL_length, HDL.out]; exact hin), List.getElem?_eq_getElem (show p + i < AB.length by rw [HAL.out]; omega)] at e1
                      rw [HU.out, HV.out]
                      exact Option.some.inj e1))
                    have HBL : Hid (Below w.heap.size w wr) := bt (bt HBQ.out HB9.out) HB.out
                    go_wp2
                    go_quiet (fail)
                    go_wp2
                    exact bodyPost_ret (v := .tuple #[.slice none 0 0, .int .i64 0, .bool false]) (by simp [results, Tryz.results59, go_sem]) rfl (walkP_none HSE.out (by first | exact HBL.out | exact belowDrew HBL.out _))
                · obtain rfl : i = 7 + n := by omega
                  have HST : Hid (stepOk (AB.drop p) = some n) := rstep_good (by rw [HAL.out]; omega) (by omega) (by
                    rw [← HD.out]
                    apply List.ext_getElem?
                    intro j
                    rcases Nat.lt_or_ge j (7 + n) with h9 | h9
                    · rw [List.getElem?_take, if_pos h9, List.getElem?_drop, List.getElem?_eq_getElem (show j < (recL d).length by rw [recL_length, HDL.out]; exact h9), List.getElem?_eq_getElem (show p + j < AB.length by rw [HAL.out]; omega), HALL.out j h9 (by rw [recL_length, HDL.out]; exact h9) (by rw [HAL.out]; omega)]
                    · rw [List.getElem?_eq_none (by rw [List.length_take]; omega), List.getElem?_eq_none (by rw [recL_length, HDL.out]; exact h9)])
                  have HSN : Hid (Sc AB ((its ++ [(A3, c3, d)]).map (·.2.2)) (p + 7 + n)) := by
                    show Sc _ _ _
                    have := HSC.out.go HH80.out HST.out
                    rw [← HD.out] at this
                    simpa using this
                  have HRWr := Lib.hid (HRW9.out.next HBQ.out)
                  have HOWr := Lib.hid (own_on HOW.out HBQ.out)
                  have HBL : Hid (Below w.heap.size w wr) := bt (bt HBQ.out HB9.out) HB.out
                  have hbls := HBL.out.size
                  have r87 : (p : Int) + 7 + (n : Int) = ((p + 7 + n : Nat) : Int) := by omega
                  go_wp2_with (at_builtin; refine wpList_append_rd _ rfl _ _ _ rfl w.heap.size 22 j0 _ 1 24 Tryz.underlying47 hj hy0 hy1 hy2 rfl (by omega) u8 its.length (its.map cellB) (by rfl) (HRWr.out.1.alloc _) (wr.heap.size + 1) (some ⟨wr.heap.size, 0, none⟩) 1 1 [.slice A3 n c3] (by rfl) (rd_cells (t := 22) (cs := #[.slice A3 n c3]) (Bk.new _ _ _) (by omega)) (by simp [Value.oneCell']) (by simp only [maxLen]; omega) (by omega) (by simp; omega) ?_; intro v8' W5 hown5 hg5 hat5)
                  have hxo : (wr.alloc (.cells #[.slice A3 n c3] 22)).ownsRow w.heap.size 5 1 (cellB (A3, c3, d)) d.length (u8s d) := by
                    have := HOWr.out.alloc (.cells #[.slice A3 n c3] 22)
                    simpa [cellB, HDL.out] using this
                  have HRS := (HRWr.out.next (al1 wr (.cells #[.slice A3 n c3] 22))).snoc (x := (A3, c3, d)) (W1 := W5) (v' := v8') hxo (by have := hown5; simpa [cellB, HDL.out] using this) hg5
                  have HF : Hid (Rw w.heap.size (its ++ [(A3, c3, d)]) v8' W5) := HRS
                  have HBF : Hid (Below w.heap.size w W5) := (HBL.out.alloc hbls _).grown hg5 (by simp; omega) (fun g hg => (HRWr.out.1.lt g hg).1)
                  clear hown5 hg5 hat5 hxo HRS
                  go_roundw
                  case rel => first
                    | exact ⟨its ++ [(A3, c3, d)], r8, rfl, by have := HR8E.out; omega, by have := HR8E.out; omega, by have := HR8E.out; simp; omega, by rw [HR8E.out]; exact HSN.out, HF.out, HBF.out⟩
                    | ((repeat apply Exists.intro); exact ⟨⟨its ++ [(A3, c3, d)], r8, rfl, by have := HR8E.out; omega, by have := HR8E.out; omega, by have := HR8E.out; simp; omega, by rw [HR8E.out]; exact HSN.out, HF.out, HBF.out⟩, rfl⟩)
                  case measure => simp [intOf]; omega
      · have e80 := byte80' h80
        have HSE : Hid (scanA AB = some (its.map (·.2.2), p)) := HSC.out.fin (fun h9 => h80 (by have := h9.2; rw [getD_get _ hpl, ← HX.out] at this; exact this))
        clear h80
        obtain ⟨A8, c8, rfl, hc8, hr8⟩ := HRW.out.rd
        have HR8 := Lib.hid hr8
        clear hr8
        go_wp2
        exact bodyPost_ret (v := .tuple #[.slice A8 its.length c8, .int .i64 (p : Int), .bool true]) (by simp [results, Tryz.results59, go_sem]) rfl (walkP_some HSE.out (by simp) (by simpa using hc8) HR8.out HB.out)
    · have p2 : ¬ (p : Int) < (hh : Int) := by omega
      have HSE : Hid (scanA AB = some (its.map (·.2.2), p)) := HSC.out.fin (fun h9 => by have := h9.1; rw [HAL.out] at this; omega)
      obtain ⟨A8, c8, rfl, hc8, hr8⟩ := HRW.out.rd
      have HR8 := Lib.hid hr8
      clear hr8
      go_wp2
      exact bodyPost_ret (v := .tuple #[.slice A8 its.length c8, .int .i64 (p : Int), .bool true]) (by simp [results, Tryz.results59, go_sem]) rfl (walkP_some HSE.out (by simp) (by simpa using hc8) HR8.out HB.out)
end Go.Proofs.YthebojaminploaaGreatDoor
