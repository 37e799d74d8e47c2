/- vault: kept. -/
import Derived.Test.YthebojaminploaaGreatDoorKVA
import Derived.Test.YthebojaminploaaGreatDoorKVL
import Derived.Test.YthebojaminploaaGreatDoorKJl
import Derived.Test.YthebojaminploaaGreatDoorKLZ
import Derived.BigQuiet
set_option maxRecDepth 100000
set_option linter.unusedVariables false
set_option linter.unusedSimpArgs false
namespace Go.Proofs.YthebojaminploaaGreatDoor
open Go.RowKit Go.Sort Go.Shelf

set_option maxHeartbeats 1000000 in
theorem keptC_any (x : Lea) (its : List Itm) (v : Value) (bo base : Nat) (w : World) (hx : oneB x = true) (hW : Wd w) (ho : Bk w bo 47 #[v]) (hr : Rw base its v w) (hb0 : base ≤ bo) (hn : its.length ≤ 1000) :
    Calls Tryz.prog 42 #[.agg #[.int .i64 x.n, .int .i64 x.c, .int .i64 x.a, .int .i64 x.f, .int .i64 x.t], .pointer (some ⟨bo, 0, none⟩)] w fun e w' => e = .returned (.tuple #[]) ∧ ∃ v' y, Bk w' bo 47 #[v'] ∧ Rw base (its ++ [y]) v' w' ∧ y.2.2 = packL x ∧ Below base w w' := by
  have hbs : base ≤ w.heap.size := by have := ho.lt; omega
  obtain ⟨i1, hj, hw0, hw1, hw2⟩ := info_parts info_bs
  have HX := Lib.hid hx
  have HW := Lib.hid hW
  have HO := Lib.hid ho
  have HR := Lib.hid hr
  clear hx hW ho hr
  go_enter Tryz.func42, Tryz.ntmps42
  go_wp2
  refine region_S (fun w' => w'.cell? ⟨bo, 0, none⟩ = some v ∧ w'.cell? ⟨w.heap.size, 0, none⟩ = some (.int .i64 x.n) ∧ w'.cell? ⟨w.heap.size, 1, none⟩ = some (.int .i64 x.c) ∧ w'.cell? ⟨w.heap.size, 2, none⟩ = some (.int .i64 x.a) ∧ w'.cell? ⟨w.heap.size, 3, none⟩ = some (.int .i64 x.f) ∧ w'.cell? ⟨w.heap.size, 4, none⟩ = some (.int .i64 x.t)) 5 (by kernel_rfl) ?_
  obtain ⟨W0, hW0⟩ : ∃ Zz, Zz = (w.alloc (.cells #[.int .i64 x.n, .int .i64 x.c, .int .i64 x.a, .int .i64 x.f, .int .i64 x.t] 26)).drew := ⟨_, rfl⟩
  have hb0' : Below w.heap.size w W0 := by rw [hW0]; exact (al1 _ _).drew
  have kx : Bk W0 w.heap.size 26 #[.int .i64 x.n, .int .i64 x.c, .int .i64 x.a, .int .i64 x.f, .int .i64 x.t] := by rw [hW0]; exact (Bk.new _ _ _).drew
  rw [← hW0]
  clear hW0
  have HKX := Lib.hid kx
  have HB0 := Lib.hid hb0'
  have HKS : Hid (∀ w', Below W0.heap.size W0 w' → (w'.cell? ⟨bo, 0, none⟩ = some v ∧ w'.cell? ⟨w.heap.size, 0, none⟩ = some (.int .i64 x.n) ∧ w'.cell? ⟨w.heap.size, 1, none⟩ = some (.int .i64 x.c) ∧ w'.cell? ⟨w.heap.size, 2, none⟩ = some (.int .i64 x.a) ∧ w'.cell? ⟨w.heap.size, 3, none⟩ = some (.int .i64 x.f) ∧ w'.cell? ⟨w.heap.size, 4, none⟩ = some (.int .i64 x.t))) := fun w' hW => ⟨box1 (HO.out.next (bt hW HB0.out)), Ls.box5 (HKX.out.next hW)⟩
  have HS0 := HKS.out _ (Below.refl _ _)
  clear kx hb0'
  refine anyS_take (i := 0) rfl (by kernel_rfl) (by kernel_rfl) (by kernel_rfl) (by kernel_rfl) (fun _ _ _ h => h) (Or.inl ⟨by rfl, fun w' hS' => (by obtain ⟨s1, s2, s3, s4, s5, s6⟩ := hS'; go_simp; try with_reducible rfl)⟩) HS0 ?_
  refine anyS_take (i := 1) rfl (by kernel_rfl) (by kernel_rfl) (by kernel_rfl) (by kernel_rfl) (fun _ _ _ h => h) (Or.inl ⟨by rfl, fun w' hS' => (by obtain ⟨s1, s2, s3, s4, s5, s6⟩ := hS'; go_simp; try with_reducible rfl)⟩) HS0 ?_
  refine anyS_one (i := 2) (by kernel_rfl) rfl rfl (fun K hK => ?_)
  have HPK := Lib.hid (vpack_any x W0 HX.out (HW.out.next HB0.out))
  go_simp
  refine HPK.out.mono ?_
  rintro e W1 ⟨pv, rfl, hown1, hb1⟩
  obtain ⟨A1, q1, rfl, hq1, _⟩ := own_read hown1
  have HO1 := Lib.hid hown1
  go_simp
  refine hK _ _ (fun _ => HKS.out _ hb1) ?_
  clear hK K HPK hown1 HS0
  refine anyS_one (i := 3) (by kernel_rfl) rfl rfl (fun K hK => ?_)
  go_simp
  obtain ⟨w2, hw2⟩ : ∃ Zz, Zz = W1.alloc (.cells #[.slice A1 12 q1] 22) := ⟨_, rfl⟩
  have hb2 : Below W1.heap.size W1 w2 := by rw [hw2]; exact al1 _ _
  have k7 : Bk w2 W1.heap.size 22 #[.slice A1 12 q1] := by rw [hw2]; exact Bk.new _ _ _
  rw [← hw2]
  clear hw2
  have hb12 := bt hb2 hb1
  refine hK _ _ (fun _ => HKS.out _ hb12) ?_
  clear hK K
  have hbw2 := bt hb12 HB0.out
  have HR2 := Lib.hid (HR.out.next hbw2)
  have HO2 := Lib.hid (own_mono (own_on HO1.out hb2) (by have := HB0.out.size; omega : base ≤ W0.heap.size))
  have h2s := k7.lt
  have h12s := hbw2.size
  refine anyS_one (i := 4) (by kernel_rfl) rfl rfl (fun K hK => ?_)
  refine wp_append_rd _ (.tmp 3) (.tmp 6) _ (by rfl) base 22 i1 _ 1 24 Tryz.underlying47 hj hw0 hw1 hw2 rfl (by omega) v its.length (its.map cellB) (by rfl) HR2.out.1 w2.heap.size (some ⟨W1.heap.size, 0, none⟩) 1 1 [.slice A1 12 q1] (by rfl) (rd_cells (t := 22) k7 h2s) (by simp [Value.oneCell']) (by simp only [maxLen]; omega) (by omega) (by omega) ?_
  intro v2 w3 hown2 hg2 hat2
  obtain ⟨A2, q2, rfl, hq2, _⟩ := own_read hown2
  have kc3 := Bk.grown (HO.out.next hbw2) hg2 (own_ne HR2.out.1 (HO.out.next hbw2) (by decide))
  have kx3 := Bk.grown (HKX.out.next hb12) hg2 (own_ne HR2.out.1 (HKX.out.next hb12) (by decide))
  have hrw3 : Rw base (its ++ [(A1, q1, packL x)]) (.slice A2 (its.length + 1) q2) w3 := Rw.snoc (x := (A1, q1, packL x)) HR2.out (by rw [cellB, packL_length]; exact HO2.out) (by rw [cellB, packL_length]; exact hown2) hg2
  have hb3 : Below base w w3 := (hbw2.mono hbs).grown hg2 (by omega) (fun k hk => (own_lt HR2.out.1 hk).1)
  have hkn : ∀ g, (Value.slice A2 (its.length + 1) q2).ownBlock = some g → g ≠ bo := fun g hg e => by subst e; exact own_ne hrw3.1 kc3 (by decide) hg.symm
  have hkn2 : ∀ y ∈ (its ++ [(A1, q1, packL x)]), ∀ g, (cellB y).ownBlock = some g → g ≠ bo := fun y hy g hg e => by subst e; exact own_ne (hrw3.2 y hy) kc3 (by decide) hg.symm
  have c0 := box1 kc3
  have f0 := kc3.frozen 0
  have HF := Lib.hid (⟨hrw3, hb3, hkn, hkn2, kc3⟩ : _ ∧ _ ∧ _ ∧ _ ∧ _)
  refine hK _ _ (fun _ => ⟨box1 kc3, Ls.box5 kx3⟩) ?_
  clear hK K hown2 hg2 hat2 hrw3 hb3 hkn hkn2 kc3 kx3
  refine anyS_one (i := 5) (by kernel_rfl) rfl rfl (fun K hK => ?_)
  go_simp
  refine hK _ _ (fun h => absurd rfl h) ?_
  clear hK K
  refine anyS_done (by kernel_rfl) ?_ _
  simp only [normPost]
  go_wp2
  go_end0
  obtain ⟨hrw3, hb3, hkn, hkn2, kc3⟩ := HF.out
  refine ⟨rfl, _, (A1, q1, packL x), by simpa using kc3.set 0 _, ?_, rfl, hb3.setCell (p := ⟨bo, 0, none⟩) hb0 _⟩
  exact hrw3.keep (fun g hg => Below.heap_setCell w3 _ _ g (hkn g hg)) (fun y hy g hg => Below.heap_setCell w3 _ _ g (hkn2 y hy g hg))
end Go.Proofs.YthebojaminploaaGreatDoor

/- vault: kept. -/
set_option maxRecDepth 100000
set_option linter.unusedVariables false
set_option linter.unusedSimpArgs false
namespace Go.Proofs.YthebojaminploaaGreatDoor
open Go.RowKit Go.Sort Go.Shelf

theorem Expire_lit (L : List Lea) (l : List Lea) (A : Option Addr) (c : Nat) (tick : Int) (w : World) (h1 : vlB l = true) (h2 : 0 ≤ tick) (h3 : tick ≤ 1100000) (hL : leftL l tick = L) (hA : RdL w w.heap.size A l) (hn : l.length ≤ 9223372036854775807) :
    Calls Tryz.prog 41 #[.slice A l.length c, .int .i64 tick] w (Ls.LPost w L 0) := by
  have h := Ls.Expire_any l A c tick w hA hn
  rw [(Ls.exp_in h1 h2 h3).1, (Ls.exp_in h1 h2 h3).2, show l.filter (lftB tick) = L from hL] at h
  exact h
def keptPost (w : World) (rs : List Rec) (e : Ending) (w' : World) : Prop :=
  ∃ A c, e = .returned (.tuple #[.slice A rs.length c, .int .i64 0]) ∧ rs.length ≤ c ∧ RdBs w' w'.heap.size A rs ∧ Below w.heap.size w w'
/-- between two leases that are kept -/
def KpI (V1 : World) (bo : Nat) (rs : List Rec) (W : World) : Prop :=
  ∃ v its, Bk W bo 47 #[v] ∧ Rw V1.heap.size its v W ∧ its.map (·.2.2) = rs ∧ Below V1.heap.size V1 W
theorem keptC_on (x : Lea) (rs : List Rec) (bo : Nat) (V1 w W : World) (hx : oneB x = true) (hW : Wd V1) (h : KpI V1 bo rs W) (hw : Below W.heap.size W w) (hb0 : V1.heap.size ≤ bo) (hn : rs.length ≤ 1000) :
    Calls Tryz.prog 42 #[.agg #[.int .i64 x.n, .int .i64 x.c, .int .i64 x.a, .int .i64 x.f, .int .i64 x.t], .pointer (some ⟨bo, 0, none⟩)] w fun e w' => e = .returned (.tuple #[]) ∧ KpI V1 bo (rs ++ [packL x]) w' := by
  obtain ⟨v, its, h1, h2, h3, h4⟩ := h
  have hb : Below V1.heap.size V1 w := bt hw h4
  refine (keptC_any x its v bo V1.heap.size w hx (hW.next hb) (h1.next hw) (h2.next hw) hb0 (by rw [← h3] at hn; simpa using hn)).mono ?_
  rintro e w' ⟨he, v', y, k1, k2, k3, k4⟩
  exact ⟨he, v', its ++ [y], k1, k2, by rw [List.map_append, h3, List.map_singleton, k3], hb.trans k4⟩
theorem left_len (l : List Lea) (tick : Int) : (leftL l tick).length ≤ l.length := List.length_filter_le _ _
theorem left_one {l : List Lea} (h : vlB l = true) (tick : Int) {x : Lea} (hx : x ∈ leftL l tick) : oneB x = true := vlB_one h (List.mem_filter.1 hx).1
set_option maxHeartbeats 1000000 in
theorem kept_any (l : List Lea) (x : Lea) (tick : Int) (A : Option Addr) (c : Nat) (w : World) (hv : vlB l = true) (hn : l.length ≤ 64) (hx : oneB x = true) (ht0 : 0 ≤ tick) (ht1 : tick ≤ 1100000) (hA : RdL w w.heap.size A l) (hW : Wd w) :
    Calls Tryz.prog 20 #[.slice A l.length c, .agg #[.int .i64 x.n, .int .i64 x.c, .int .i64 x.a, .int .i64 x.f, .int .i64 x.t], .int .i64 tick] w (keptPost w ((keptL l tick ++ [x]).map packL)) := by
  have HA := Lib.hid hA
  have HW := Lib.hid hW
  have HV := Lib.hid hv
  have HX := Lib.hid hx
  obtain ⟨L, hL⟩ : ∃ L, L = leftL l tick := ⟨_, rfl⟩
  have hLn : L.length ≤ l.length := by rw [hL]; exact left_len _ _
  have HL := Lib.hid hL
  obtain ⟨rs, hrs⟩ : ∃ rs, rs = (keptL l tick ++ [x]).map packL := ⟨_, rfl⟩
  rw [← hrs]
  have HRS : Hid (rs = ((L ++ (if moreB l L then [lastL l] else [])) ++ [x]).map packL) := by show _ = _; rw [hrs, keptL, hL]
  clear hrs
  clear hA hW hv hx hL
  go_enter Tryz.func20, Tryz.ntmps20
  go_wp2_with fail
  obtain ⟨U, hU⟩ : ∃ Zz, Zz = w.alloc (.cells #[.int .i64 x.n, .int .i64 x.c, .int .i64 x.a, .int .i64 x.f, .int .i64 x.t] 26) := ⟨_, rfl⟩
  have hbU : Below w.heap.size w U := by rw [hU]; exact al1 _ _
  have kx : Bk U w.heap.size 26 #[.int .i64 x.n, .int .i64 x.c, .int .i64 x.a, .int .i64 x.f, .int .i64 x.t] := by rw [hU]; exact Bk.new _ _ _
  rw [← hU]
  clear hU
  refine (Expire_lit L l A c tick _ HV.out ht0 ht1 HL.out.symm (HA.out.next hbU) (by omega)).mono ?_
  rintro e V0 ⟨AL, cL, rfl, hcL, hrL, hb⟩
  have HRL := Lib.hid hrL
  have HB := Lib.hid (bt hb hbU)
  have HKX := Lib.hid (kx.next hb)
  have hlx : w.heap.size < V0.heap.size := Nat.lt_of_lt_of_le kx.lt hb.size
  clear hrL hbU kx hb
  go_wp2
  obtain ⟨bo, hbo⟩ : ∃ bo, bo = V0.heap.size := ⟨_, rfl⟩
  obtain ⟨V1, hV1⟩ : ∃ Zz, Zz = V0.alloc (.cells #[.slice none 0 0] 47) := ⟨_, rfl⟩
  rw [← hbo, ← hV1]
  have hbV : Below V0.heap.size V0 V1 := by rw [hV1]; exact al1 _ _
  have hkb : Bk V1 bo 47 #[.slice none 0 0] := by rw [hV1, hbo]; exact Bk.new _ _ _
  have hbL0 : V0.heap.size ≤ bo := by omega
  have hKI : KpI V0 bo [] V1 := ⟨_, [], hkb, Rw.nil _ _, rfl, hbV⟩
  have HK0 := Lib.hid hKI
  clear hKI hbV hkb hbo hV1
  go_loopw [27] (fun i wr => ∃ k : Nat, i = .int .i64 (k : Int) ∧ k ≤ L.length ∧ KpI V0 bo ((L.take k).map packL) wr) (fun i _ => L.length - (intOf i).toNat)
  case atStart => exact ⟨0, rfl, Nat.zero_le _, HK0.out⟩
  case round =>
    obtain ⟨k, rfl, hk, hki⟩ := hrel
    have HKI := Lib.hid hki
    obtain ⟨vv, its, g1, g2, g3, g4⟩ := hki
    have hsz := g4.size
    have HG4 := Lib.hid g4
    have hlo := g1.lt
    clear g1 g2 g3 g4
    by_cases hlt : k < L.length
    · obtain ⟨y, hy⟩ : ∃ y, y = L[k] := ⟨_, rfl⟩
      obtain ⟨bL, oL, rfl, hbL, y0, y1, y2, y3, y4⟩ := (HRL.out.below HG4.out).at_ hlt
      rw [← hy] at y0 y1 y2 y3 y4
      have HY := Lib.hid hy
      have hyo : oneB y = true := by rw [hy]; exact left_one HV.out tick (HL.out ▸ List.getElem_mem hlt)
      have HYO := Lib.hid hyo
      have k1 : (0 : Int) ≤ (k : Int) := by omega
      have k2 : (k : Int) < (L.length : Int) := by omega
      clear hy hyo
      go_wp2_with fail
      refine (keptC_on y _ bo V0 _ wr HYO.out (HW.out.next HB.out) HKI.out (al1 _ _) hbL0 (by simp; omega)).mono ?_
      rintro e W2 ⟨rfl, hk2⟩
      have HK2 : Hid (KpI V0 bo ((L.take (k + 1)).map packL) W2) := by
        show KpI _ _ _ _
        rw [List.take_succ_eq_append_getElem hlt, List.map_append, ← HY.out]
        exact hk2
      clear hk2 y0 y1 y2 y3 y4
      go_wp2
      go_roundw
      case rel => exact ⟨k + 1, by go_num, by omega, HK2.out⟩
      case measure => simp [intOf]; omega
    · obtain rfl : k = L.length := by omega
      rw [List.take_of_length_le (Nat.le_refl _)] at HKI
      have HLW := Lib.hid ((HA.out.next HB.out).below HG4.out)
      have HLL := Lib.hid (HRL.out.below HG4.out)
      have HKX2 := Lib.hid (HKX.out.below HG4.out hlx)
      clear hk hlt
      by_cases h0 : 0 < l.length
      · by_cases h1 : L.length = 0
        · have HM : Hid (moreB l L = true) := by show _ = _; simp [moreB, h1]; omega
          have l1 : ((L.length : Int) == 0) = true := by simp [h1]
          have j4 : decide ((0 : Int) < (l.length : Int)) = true := by simp; omega
          have j6 : decide (0 < l.length) = true := by simp; omega
          obtain ⟨bk, ok, rfl, _, z0, z1, z2, z3, z4⟩ := HLW.out.at_ (i := l.length - 1) (by omega)
          obtain ⟨y, hy⟩ : ∃ y, y = lastL l := ⟨_, rfl⟩
          rw [← getD_of (by omega : l.length - 1 < l.length), show l.getD (l.length - 1) l0 = y from hy.symm] at z0 z1 z2 z3 z4
          obtain ⟨k, hk⟩ : ∃ k, k = l.length - 1 := ⟨_, rfl⟩
          rw [← hk] at z0 z1 z2 z3 z4
          have j0k : (l.length : Int) - 1 = (k : Int) := by omega
          have j1k : (0 : Int) ≤ (k : Int) := by omega
          have j2k : (k : Int) < (l.length : Int) := by omega
          have j3k : IntKind.i64.wrap ((l.length : Int) - 1) = (k : Int) := by rw [IntWalk.i64_in _ (by omega)]; omega
          have Hy := Lib.hid hy
          clear hk hy
          have HYO : Hid (oneB y = true) := by show _ = _; rw [Hy.out]; exact vlB_one HV.out (lastL_mem (fun e => by rw [e] at h0; simp at h0))
          have lbk : bk < wr.heap.size := World.block_lt_of_cell? wr _ z0
          go_wp2
          go_quiet (fail)
          obtain ⟨W3, hW3⟩ : ∃ Zz, Zz = wr.drewN nq := ⟨_, rfl⟩
          have hb3 : Below wr.heap.size wr W3 := by rw [hW3]; exact belowDrew (Below.refl _ _) _
          rw [← hW3]
          clear hW3
          obtain ⟨z0, z1, z2, z3, z4⟩ : (_ ∧ _ ∧ _ ∧ _ ∧ _) := ⟨(hb3.cell (p := ⟨bk, ok + k * 5, none⟩) lbk).trans z0, (hb3.cell (p := ⟨bk, ok + k * 5 + 1, none⟩) lbk).trans z1, (hb3.cell (p := ⟨bk, ok + k * 5 + 2, none⟩) lbk).trans z2, (hb3.cell (p := ⟨bk, ok + k * 5 + 3, none⟩) lbk).trans z3, (hb3.cell (p := ⟨bk, ok + k * 5 + 4, none⟩) lbk).trans z4⟩
          go_wp2_with fail
          refine (keptC_on y _ bo V0 _ _ HYO.out (HW.out.next HB.out) HKI.out hb3 hbL0 (by simp; omega)).mono ?_
          rintro e W4 ⟨rfl, hk4⟩
          have HK4 := Lib.hid hk4
          clear z0 z1 z2 z3 z4
          have HKX4 : Hid (Bk W4 w.heap.size 26 #[.int .i64 x.n, .int .i64 x.c, .int .i64 x.a, .int .i64 x.f, .int .i64 x.t]) := HKX.out.below hk4.choose_spec.choose_spec.2.2.2 hlx
          clear hk4
          obtain ⟨x0, x1, x2, x3, x4⟩ := Ls.box5 (HKX4.out.next (Below.refl _ _))
          go_wp2_with fail
          refine (keptC_on x _ bo V0 _ _ HX.out (HW.out.next HB.out) HK4.out (Below.refl _ _) hbL0 (by simp; omega)).mono ?_
          rintro e W9 ⟨rfl, hk9⟩
          clear x0 x1 x2 x3 x4
          rw [show L.map packL ++ [packL y] ++ [packL x] = rs from by rw [HRS.out, HM.out]; simp [Hy.out]] at hk9
          obtain ⟨vv, its, g1, g2, g3, g4⟩ := hk9
          obtain ⟨A9, c9, rfl, hc9, hr9⟩ := g2.rd
          have hl9 : its.length = rs.length := by rw [← g3]; simp
          rw [g3] at hr9
          rw [hl9] at g1 hc9
          have HF := Lib.hid (⟨hc9, hr9, bt g4 HB.out⟩ : _ ∧ _ ∧ _)
          have c0 := box1 g1
          clear g1 g2 g3 g4 hl9 hc9 hr9
          go_wp2
          go_ret2
          exact ⟨A9, c9, rfl, HF.out.1, HF.out.2.1, HF.out.2.2⟩
        · have l1 : ((L.length : Int) == 0) = false := by rw [beq_eq_false_iff_ne]; omega
          have j4 : decide ((0 : Int) < (l.length : Int)) = true := by simp; omega
          have j6 : decide (0 < l.length) = true := by simp; omega
          obtain ⟨bk, ok, rfl, _, z0, z1, z2, z3, z4⟩ := HLW.out.at_ (i := l.length - 1) (by omega)
          obtain ⟨y, hy⟩ : ∃ y, y = lastL l := ⟨_, rfl⟩
          rw [← getD_of (by omega : l.length - 1 < l.length), show l.getD (l.length - 1) l0 = y from hy.symm] at z0 z1 z2 z3 z4
          obtain ⟨k, hk⟩ : ∃ k, k = l.length - 1 := ⟨_, rfl⟩
          rw [← hk] at z0 z1 z2 z3 z4
          have j0k : (l.length : Int) - 1 = (k : Int) := by omega
          have j1k : (0 : Int) ≤ (k : Int) := by omega
          have j2k : (k : Int) < (l.length : Int) := by omega
          have j3k : IntKind.i64.wrap ((l.length : Int) - 1) = (k : Int) := by rw [IntWalk.i64_in _ (by omega)]; omega
          have Hy := Lib.hid hy
          clear hk hy
          have HYO : Hid (oneB y = true) := by show _ = _; rw [Hy.out]; exact vlB_one HV.out (lastL_mem (fun e => by rw [e] at h0; simp at h0))
          have lbk : bk < wr.heap.size := World.block_lt_of_cell? wr _ z0
          obtain ⟨bk5, ok5, rfl, _, u0, u1, u2, u3, u4⟩ := HLL.out.at_ (i := L.length - 1) (by omega)
          obtain ⟨p, hp⟩ : ∃ y, y = lastL L := ⟨_, rfl⟩
          rw [← getD_of (by omega : L.length - 1 < L.length), show L.getD (L.length - 1) l0 = p from hp.symm] at u0 u1 u2 u3 u4
          obtain ⟨k5, hk5⟩ : ∃ k, k = L.length - 1 := ⟨_, rfl⟩
          rw [← hk5] at u0 u1 u2 u3 u4
          have j0k5 : (L.length : Int) - 1 = (k5 : Int) := by omega
          have j1k5 : (0 : Int) ≤ (k5 : Int) := by omega
          have j2k5 : (k5 : Int) < (L.length : Int) := by omega
          have j3k5 : IntKind.i64.wrap ((L.length : Int) - 1) = (k5 : Int) := by rw [IntWalk.i64_in _ (by omega)]; omega
          have Hp := Lib.hid hp
          clear hk5 hp
          by_cases hq : p.n = y.n
          · have l2 : (p.n != y.n) = false := by simp [hq]
            have HM : Hid (moreB l L = false) := by show _ = _; rw [moreB, ← Hp.out, ← Hy.out, hq, decide_eq_false h1]; simp
            clear hq
            go_wp2
            go_quiet (fail)
            obtain ⟨W3, hW3⟩ : ∃ Zz, Zz = wr.drewN nq := ⟨_, rfl⟩
            have hb3 : Below wr.heap.size wr W3 := by rw [hW3]; exact belowDrew (Below.refl _ _) _
            rw [← hW3]
            clear hW3
            obtain ⟨x0, x1, x2, x3, x4⟩ := Ls.box5 (HKX2.out.next hb3)
            go_wp2_with fail
            refine (keptC_on x _ bo V0 _ _ HX.out (HW.out.next HB.out) HKI.out hb3 hbL0 (by simp; omega)).mono ?_
            rintro e W9 ⟨rfl, hk9⟩
            clear x0 x1 x2 x3 x4
            rw [show L.map packL ++ [packL x] = rs from by rw [HRS.out, HM.out]; simp ] at hk9
            obtain ⟨vv, its, g1, g2, g3, g4⟩ := hk9
            obtain ⟨A9, c9, rfl, hc9, hr9⟩ := g2.rd
            have hl9 : its.length = rs.length := by rw [← g3]; simp
            rw [g3] at hr9
            rw [hl9] at g1 hc9
            have HF := Lib.hid (⟨hc9, hr9, bt g4 HB.out⟩ : _ ∧ _ ∧ _)
            have c0 := box1 g1
            clear g1 g2 g3 g4 hl9 hc9 hr9
            go_wp2
            go_ret2
            exact ⟨A9, c9, rfl, HF.out.1, HF.out.2.1, HF.out.2.2⟩
          · have l2 : (p.n != y.n) = true := by simp [hq]
            have HM : Hid (moreB l L = true) := by show _ = _; rw [moreB, ← Hp.out, ← Hy.out]; simp [hq]; omega
            clear hq
            go_wp2
            go_quiet (fail)
            obtain ⟨W3, hW3⟩ : ∃ Zz, Zz = wr.drewN nq := ⟨_, rfl⟩
            have hb3 : Below wr.heap.size wr W3 := by rw [hW3]; exact belowDrew (Below.refl _ _) _
            rw [← hW3]
            clear hW3
            obtain ⟨z0, z1, z2, z3, z4⟩ : (_ ∧ _ ∧ _ ∧ _ ∧ _) := ⟨(hb3.cell (p := ⟨bk, ok + k * 5, none⟩) lbk).trans z0, (hb3.cell (p := ⟨bk, ok + k * 5 + 1, none⟩) lbk).trans z1, (hb3.cell (p := ⟨bk, ok + k * 5 + 2, none⟩) lbk).trans z2, (hb3.cell (p := ⟨bk, ok + k * 5 + 3, none⟩) lbk).trans z3, (hb3.cell (p := ⟨bk, ok + k * 5 + 4, none⟩) lbk).trans z4⟩
            go_wp2_with fail
            refine (keptC_on y _ bo V0 _ _ HYO.out (HW.out.next HB.out) HKI.out hb3 hbL0 (by simp; omega)).mono ?_
            rintro e W4 ⟨rfl, hk4⟩
            have HK4 := Lib.hid hk4
            clear z0 z1 z2 z3 z4
            have HKX4 : Hid (Bk W4 w.heap.size 26 #[.int .i64 x.n, .int .i64 x.c, .int .i64 x.a, .int .i64 x.f, .int .i64 x.t]) := HKX.out.below hk4.choose_spec.choose_spec.2.2.2 hlx
            clear hk4
            obtain ⟨x0, x1, x2, x3, x4⟩ := Ls.box5 (HKX4.out.next (Below.refl _ _))
            go_wp2_with fail
            refine (keptC_on x _ bo V0 _ _ HX.out (HW.out.next HB.out) HK4.out (Below.refl _ _) hbL0 (by simp; omega)).mono ?_
            rintro e W9 ⟨rfl, hk9⟩
            clear x0 x1 x2 x3 x4
            rw [show L.map packL ++ [packL y] ++ [packL x] = rs from by rw [HRS.out, HM.out]; simp [Hy.out]] at hk9
            obtain ⟨vv, its, g1, g2, g3, g4⟩ := hk9
            obtain ⟨A9, c9, rfl, hc9, hr9⟩ := g2.rd
            have hl9 : its.length = rs.length := by rw [← g3]; simp
            rw [g3] at hr9
            rw [hl9] at g1 hc9
            have HF := Lib.hid (⟨hc9, hr9, bt g4 HB.out⟩ : _ ∧ _ ∧ _)
            have c0 := box1 g1
            clear g1 g2 g3 g4 hl9 hc9 hr9
            go_wp2
            go_ret2
            exact ⟨A9, c9, rfl, HF.out.1, HF.out.2.1, HF.out.2.2⟩
      · have hl0 : l = [] := List.eq_nil_of_length_eq_zero (by omega)
        have HM : Hid (moreB l L = false) := by show _ = _; rw [hl0]; simp [moreB]
        clear hl0
        have j4 : decide ((0 : Int) < (l.length : Int)) = false := decide_eq_false (by omega)
        have j6 : decide (0 < l.length) = false := decide_eq_false h0
        go_wp2
        go_quiet (fail)
        obtain ⟨W3, hW3⟩ : ∃ Zz, Zz = wr.drewN nq := ⟨_, rfl⟩
        have hb3 : Below wr.heap.size wr W3 := by rw [hW3]; exact belowDrew (Below.refl _ _) _
        rw [← hW3]
        clear hW3
        obtain ⟨x0, x1, x2, x3, x4⟩ := Ls.box5 (HKX2.out.next hb3)
        go_wp2_with fail
        refine (keptC_on x _ bo V0 _ _ HX.out (HW.out.next HB.out) HKI.out hb3 hbL0 (by simp; omega)).mono ?_
        rintro e W9 ⟨rfl, hk9⟩
        clear x0 x1 x2 x3 x4
        rw [show L.map packL ++ [packL x] = rs from by rw [HRS.out, HM.out]; simp ] at hk9
        obtain ⟨vv, its, g1, g2, g3, g4⟩ := hk9
        obtain ⟨A9, c9, rfl, hc9, hr9⟩ := g2.rd
        have hl9 : its.length = rs.length := by rw [← g3]; simp
        rw [g3] at hr9
        rw [hl9] at g1 hc9
        have HF := Lib.hid (⟨hc9, hr9, bt g4 HB.out⟩ : _ ∧ _ ∧ _)
        have c0 := box1 g1
        clear g1 g2 g3 g4 hl9 hc9 hr9
        go_wp2
        go_ret2
        exact ⟨A9, c9, rfl, HF.out.1, HF.out.2.1, HF.out.2.2⟩
end Go.Proofs.YthebojaminploaaGreatDoor
