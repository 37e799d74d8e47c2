/- The reference's Read and Clean. -/
import Derived.Test.YthebojaminploaaGreatDoorKJX2
import Derived.Test.YthebojaminploaaGreatDoorKJrp
import Derived.Test.YthebojaminploaaGreatDoorKJf
set_option maxRecDepth 100000
set_option linter.unusedVariables false
set_option linter.unusedSimpArgs false
namespace Go.Proofs.YthebojaminploaaGreatDoor
open Go.RowKit Go.Sort Go.Shelf

theorem areaI_some {m : Mem} {a : Nat} (h : curO m = some a) : areaI m = (a : Int) := by unfold areaI; rw [h]
theorem areaI_none {m : Mem} (h : curO m = none) : areaI m = -1 := by unfold areaI; rw [h]
/-- the reference's area, where it is known -/
theorem Area_lit (m : Mem) (r : Int) (hr : areaI m = r) (b o c : Nat) (w : World) (h32 : 32 ≤ m.2.length) (h4k : m.2.length ≤ 4096) (hc : m.2.length ≤ c) (hA : RdB w w.heap.size (some ⟨b, o, none⟩) m.2) :
    Calls Tryz.prog 50 #[.agg #[.int .i64 m.1, .slice (some ⟨b, o, none⟩) m.2.length c]] w fun e w' => e = .returned (.int .i64 r) ∧ Below w.heap.size w w' := hr ▸ Area_any m b o c w h32 h4k hc hA
theorem Memory_lit (v : Bool) (s : Int) (A : Option Addr) (n c : Nat) (hv : jvB s n = v) (w : World) :
    Calls Tryz.prog 58 #[.agg #[.int .i64 s, .slice A n c]] w fun e w' => e = .returned (.bool v) ∧ Below w.heap.size w w' := hv ▸ Memory_any s A n c w
theorem walk_lit (m : Mem) (a : Nat) (r : Option (List Rec × Nat)) (hr : scanA (areaB m a) = r) (b o c : Nat) (w : World) (ha : a ≤ 1) (h32 : 32 ≤ m.2.length) (h4k : m.2.length ≤ 4096) (hc : m.2.length ≤ c) (hA : RdB w w.heap.size (some ⟨b, o, none⟩) m.2) :
    Calls Tryz.prog 59 #[.agg #[.int .i64 m.1, .slice (some ⟨b, o, none⟩) m.2.length c], .int .i64 (a : Int)] w (walkP r w) := hr ▸ walk_any m a b o c w ha h32 h4k hc hA
theorem scan_fin {b : List UInt8} {l : List Rec} {e : Nat} (h : scanA b = some (l, e)) (h5 : 5 ≤ b.length) : 5 ≤ e ∧ e ≤ b.length ∧ e = 5 + room l := by
  obtain ⟨_, h2, h3, _⟩ := scan_some b.length b 5 l e (by omega) h
  have := congrArg List.length h3
  rw [List.length_append, recs_length, List.length_drop, List.length_drop] at this
  omega
set_option maxHeartbeats 2000000 in
theorem rRead_any (m : Mem) (A : Option Addr) (c : Nat) (w : World) (hA : RdB w w.heap.size A m.2) (hc : m.2.length ≤ c) :
    Calls Tryz.prog 29 #[.agg #[.int .i64 m.1, .slice A m.2.length c]] w (readPost m w) := by
  have HA := Lib.hid hA
  clear hA
  by_cases hj : jvB m.1 m.2.length = true
  · have h32 := jv_len hj
    have h4k := jv_max hj
    obtain ⟨b, o, rfl, _, _⟩ := HA.out.addr (by omega)
    cases hcO : curO m with
    | none =>
      obtain ⟨e1, e2⟩ := look_none hj hcO
      have hcu := areaI_none hcO
      have HE1 := Lib.hid e1
      have HE2 := Lib.hid e2
      clear e1 e2 hcO
      go_enter Tryz.func29, Tryz.ntmps29
      go_wp2_with fail
      have hb1 := al1 w (.cells #[.int .i64 m.1, .slice (some ⟨b, o, none⟩) m.2.length c] 24)
      have k1 := Bk.new w 24 #[.int .i64 m.1, .slice (some ⟨b, o, none⟩) m.2.length c]
      refine (Memory_lit true m.1 (some ⟨b, o, none⟩) m.2.length c hj _).mono ?_
      rintro e V ⟨rfl, hb⟩
      have HB := Lib.hid (bt hb hb1)
      have K1 := Lib.hid (k1.next hb)
      clear hb hb1 k1
      obtain ⟨c0, c1⟩ := box2 K1.out
      have lk := K1.out.lt
      go_wp2_with fail
      refine (Area_lit m (-1) hcu b o c _ h32 h4k hc (HA.out.next HB.out)).mono ?_
      rintro e V2 ⟨rfl, hb⟩
      clear c0 c1 lk
      replace HB := Lib.hid (bt hb HB.out)
      replace K1 := Lib.hid (K1.out.next hb)
      clear hb
      obtain ⟨c0, c1⟩ := box2 K1.out
      have lk := K1.out.lt
      go_wp2
      go_ret2
      exact ⟨none, 0, by rw [HE1.out, HE2.out]; rfl, by rw [HE2.out]; exact Nat.le_refl _, by rw [HE2.out]; exact RdBs.nil, HB.out⟩
    | some a =>
      have ha := curO_le hcO
      have hcu := areaI_some hcO
      cases hs : scanA (areaB m a) with
      | none =>
        obtain ⟨e1, e2⟩ := look_sum hj hcO hs
        have HE1 := Lib.hid e1
        have HE2 := Lib.hid e2
        have HS := Lib.hid hs
        have a0 : ¬ (a : Int) < 0 := by omega
        clear e1 e2 hcO hs
        go_enter Tryz.func29, Tryz.ntmps29
        go_wp2_with fail
        have hb1 := al1 w (.cells #[.int .i64 m.1, .slice (some ⟨b, o, none⟩) m.2.length c] 24)
        have k1 := Bk.new w 24 #[.int .i64 m.1, .slice (some ⟨b, o, none⟩) m.2.length c]
        refine (Memory_lit true m.1 (some ⟨b, o, none⟩) m.2.length c hj _).mono ?_
        rintro e V ⟨rfl, hb⟩
        have HB := Lib.hid (bt hb hb1)
        have K1 := Lib.hid (k1.next hb)
        clear hb hb1 k1
        obtain ⟨c0, c1⟩ := box2 K1.out
        have lk := K1.out.lt
        go_wp2_with fail
        refine (Area_lit m (a : Int) hcu b o c _ h32 h4k hc (HA.out.next HB.out)).mono ?_
        rintro e V2 ⟨rfl, hb⟩
        clear c0 c1 lk
        replace HB := Lib.hid (bt hb HB.out)
        replace K1 := Lib.hid (K1.out.next hb)
        clear hb
        obtain ⟨c0, c1⟩ := box2 K1.out
        have lk := K1.out.lt
        go_wp2_with fail
        refine (walk_lit m a none HS.out b o c _ ha h32 h4k hc (HA.out.next HB.out)).mono ?_
        rintro e V3 ⟨rfl, hb⟩
        have HB3 := Lib.hid (bt hb HB.out)
        clear hb
        go_wp2
        go_ret2
        exact ⟨none, 0, by rw [HE1.out, HE2.out]; rfl, by rw [HE2.out]; exact Nat.le_refl _, by rw [HE2.out]; exact RdBs.nil, HB3.out⟩
      | some r =>
        obtain ⟨l, p⟩ := r
        obtain ⟨e1, e2⟩ := look_ok hj hcO hs
        have HE1 := Lib.hid e1
        have HE2 := Lib.hid e2
        have HS := Lib.hid hs
        have a0 : ¬ (a : Int) < 0 := by omega
        clear e1 e2 hcO hs
        go_enter Tryz.func29, Tryz.ntmps29
        go_wp2_with fail
        have hb1 := al1 w (.cells #[.int .i64 m.1, .slice (some ⟨b, o, none⟩) m.2.length c] 24)
        have k1 := Bk.new w 24 #[.int .i64 m.1, .slice (some ⟨b, o, none⟩) m.2.length c]
        refine (Memory_lit true m.1 (some ⟨b, o, none⟩) m.2.length c hj _).mono ?_
        rintro e V ⟨rfl, hb⟩
        have HB := Lib.hid (bt hb hb1)
        have K1 := Lib.hid (k1.next hb)
        clear hb hb1 k1
        obtain ⟨c0, c1⟩ := box2 K1.out
        have lk := K1.out.lt
        go_wp2_with fail
        refine (Area_lit m (a : Int) hcu b o c _ h32 h4k hc (HA.out.next HB.out)).mono ?_
        rintro e V2 ⟨rfl, hb⟩
        clear c0 c1 lk
        replace HB := Lib.hid (bt hb HB.out)
        replace K1 := Lib.hid (K1.out.next hb)
        clear hb
        obtain ⟨c0, c1⟩ := box2 K1.out
        have lk := K1.out.lt
        go_wp2_with fail
        refine (walk_lit m a (some (l, p)) HS.out b o c _ ha h32 h4k hc (HA.out.next HB.out)).mono ?_
        rintro e V3 ⟨A3, c3, rfl, hc3, hr3, hb⟩
        have HB3 := Lib.hid (bt hb HB.out)
        have HR3 := Lib.hid hr3
        clear hb hr3
        go_wp2
        go_ret2
        exact ⟨A3, c3, by rw [HE1.out, HE2.out]; rfl, by rw [HE2.out]; exact hc3, by rw [HE2.out]; exact HR3.out, HB3.out⟩
  · have hj' : jvB m.1 m.2.length = false := by simpa using hj
    obtain ⟨e1, e2⟩ := look_inv hj'
    have HE1 := Lib.hid e1
    have HE2 := Lib.hid e2
    replace hj := hj'
    clear e1 e2 hj'
    go_enter Tryz.func29, Tryz.ntmps29
    go_wp2_with fail
    have hb1 := al1 w (.cells #[.int .i64 m.1, .slice A m.2.length c] 24)
    have k1 := Bk.new w 24 #[.int .i64 m.1, .slice A m.2.length c]
    refine (Memory_lit false m.1 A m.2.length c hj _).mono ?_
    rintro e V ⟨rfl, hb⟩
    have HB := Lib.hid (bt hb hb1)
    have K1 := Lib.hid (k1.next hb)
    clear hb hb1 k1
    obtain ⟨c0, c1⟩ := box2 K1.out
    have lk := K1.out.lt
    go_wp2
    go_ret2
    exact ⟨none, 0, by rw [HE1.out, HE2.out]; rfl, by rw [HE2.out]; exact Nat.le_refl _, by rw [HE2.out]; exact RdBs.nil, HB.out⟩
theorem rest_iff (b : List UInt8) (e : Nat) : restB b e = true ↔ ∀ t, e ≤ t → t < b.length → b.getD t 0 = 255 := by
  unfold restB
  rw [List.all_eq_true]
  constructor
  · intro h t h1 h2
    have := h (b[t]) (by rw [List.mem_iff_getElem]; exact ⟨t - e, by rw [List.length_drop]; omega, by rw [List.getElem_drop]; congr 1; omega⟩)
    rw [getD_get _ h2]; simpa using this
  · intro h x hx
    obtain ⟨i, hi, rfl⟩ := List.mem_iff_getElem.1 hx
    rw [List.length_drop] at hi
    have := h (e + i) (by omega) (by omega)
    rw [getD_get _ (by omega)] at this
    rw [List.getElem_drop]; simpa using this
set_option maxHeartbeats 4000000 in
theorem Clean_any (m : Mem) (a : Nat) (l : List Rec) (e : Nat) (b o c : Nat) (w : World) (hj : jvB m.1 m.2.length = true) (hcO : curO m = some a) (hs : scanA (areaB m a) = some (l, e)) (hc : m.2.length ≤ c) (hA : RdB w w.heap.size (some ⟨b, o, none⟩) m.2) :
    Calls Tryz.prog 47 #[.agg #[.int .i64 m.1, .slice (some ⟨b, o, none⟩) m.2.length c]] w fun e' w' => e' = .returned (.bool (restB (areaB m a) e)) ∧ Below w.heap.size w w' := by
  have HA := Lib.hid hA
  have h32 := jv_len hj
  have h4k := jv_max hj
  have ha := curO_le hcO
  have hcu := areaI_some hcO
  obtain ⟨hh, hhh⟩ : ∃ hh : Nat, hh = m.2.length / 2 := ⟨_, rfl⟩
  have HHF : Hid (hf m = hh) := hhh.symm
  have hfin := scan_fin hs (by rw [areaB_length m ha, HHF.out]; omega)
  rw [areaB_length m ha, HHF.out] at hfin
  obtain ⟨he5, heh, hx5⟩ := hfin
  clear hx5
  obtain ⟨q, hq⟩ : ∃ q, q = a * hh := ⟨_, rfl⟩
  have HQ := Lib.hid hq
  have hq1 : q = 0 ∨ q = hh := by rcases (by omega : a = 0 ∨ a = 1) with h | h <;> rw [hq, h] <;> simp
  have hqh : q + hh ≤ m.2.length := by omega
  have HQI : Hid ((a : Int) * (hh : Int) = (q : Int)) := by show _ = _; rw [hq]; simp
  have HHC : Hid (∀ W, Calls Tryz.prog 49 #[.agg #[.int .i64 m.1, .slice (some ⟨b, o, none⟩) m.2.length c]] W fun e w' => e = .returned (.int .i64 (hh : Int)) ∧ Below W.heap.size W w') := fun W => by rw [hhh]; exact Half_any m.1 _ m.2.length c W (by omega)
  have HS := Lib.hid hs
  clear hA hcO hs hhh hq hq1
  go_enter Tryz.func47, Tryz.ntmps47
  go_wp2_with fail
  have hb1 := al1 w (.cells #[.int .i64 m.1, .slice (some ⟨b, o, none⟩) m.2.length c] 24)
  have k1 := Bk.new w 24 #[.int .i64 m.1, .slice (some ⟨b, o, none⟩) m.2.length c]
  refine (Area_lit m (a : Int) hcu b o c _ h32 h4k hc (HA.out.next hb1)).mono ?_
  rintro e1 V2 ⟨rfl, hb⟩
  replace hb1 := bt hb hb1
  replace k1 := k1.next hb
  clear hb
  obtain ⟨c0, c1⟩ := box2 k1
  have lk := k1.lt
  go_wp2_with fail
  refine (walk_lit m a (some (l, e)) HS.out b o c _ ha h32 h4k hc (HA.out.next hb1)).mono ?_
  rintro e1 V3 ⟨A3, c3, rfl, hc3, hr3, hb⟩
  have HB := Lib.hid (bt hb hb1)
  have K1 := Lib.hid (k1.next hb)
  clear hb hb1 k1 hr3 c0 c1 lk
  go_wp2_with fail
  go_loopw [7] (fun i wr => ∃ j : Nat, i = .int .i64 (j : Int) ∧ e ≤ j ∧ j ≤ hh ∧ (∀ t, e ≤ t → t < j → (areaB m a).getD t 0 = 255) ∧ Below V3.heap.size V3 wr) (fun i _ => hh - (intOf i).toNat)
  case atStart => exact ⟨e, rfl, Nat.le_refl _, heh, fun t h1 h2 => by omega, Below.refl _ _⟩
  case round =>
    obtain ⟨j, rfl, hej, hjh, hall, hb⟩ := hrel
    have HALL := Lib.hid hall
    have HBQ := Lib.hid hb
    clear hall hb
    have K2 := Lib.hid (K1.out.next HBQ.out)
    obtain ⟨c0, c1⟩ := box2 K2.out
    have lk := K2.out.lt
    by_cases hlt : j < hh
    · have hin : q + j < m.2.length := by omega
      obtain ⟨b1, o1, e1, hb1, z1⟩ := ((HA.out.next HB.out).next HBQ.out).at_ hin
      obtain ⟨rfl, rfl⟩ : b = b1 ∧ o = o1 := by simpa using e1
      obtain ⟨x, hx⟩ : ∃ x, x = m.2[q + j] := ⟨_, rfl⟩
      rw [← hx] at z1
      have HX : Hid ((areaB m a).getD j 0 = x) := by
        show _ = _
        rw [area_getD' m (by rw [HHF.out]; exact hlt), HHF.out, ← HQ.out, List.getD_eq_getElem?_getD, List.getElem?_eq_getElem hin, hx]; rfl
      obtain ⟨p, hp⟩ : ∃ p, p = q + j := ⟨_, rfl⟩
      rw [← hp] at z1
      have hpI : (q : Int) + (j : Int) = (p : Int) := by omega
      have hqI := HQI.out
      have wb : IntKind.i64.wrap (q : Int) = (q : Int) := IntWalk.i64_in _ (by omega)
      have wc : IntKind.i64.wrap (p : Int) = (p : Int) := IntWalk.i64_in _ (by omega)
      have p1 : (0 : Int) ≤ (p : Int) := by omega
      have p2 : (p : Int) < (m.2.length : Int) := by omega
      have x1 := x.toNat_lt
      have j0 : (j : Int) < (hh : Int) := by omega
      clear hx hp e1 hin
      go_wp2_with fail
      refine (HHC.out _).mono ?_
      rintro e V3 ⟨rfl, hb3⟩
      obtain ⟨U9, hU9⟩ : ∃ Zz, Zz = V3 := ⟨_, rfl⟩
      rw [← hU9] at hb3 ⊢
      have z1 := (hb3.cell (p := ⟨b, o + p, none⟩) hb1).trans z1
      have c0 := (hb3.cell (p := ⟨w.heap.size, 0, none⟩) lk).trans c0
      have c1 := (hb3.cell (p := ⟨w.heap.size, 1, none⟩) lk).trans c1
      clear hU9
      replace HBQ := Lib.hid (bt hb3 HBQ.out)
      clear hb3 K2 lk hb1
      go_wp2
      have Rc0 := cell_regrown c0
      have Rc1 := cell_regrown c1
      have Rz1 := cell_regrown z1
      have CH := fun (d : Nat) (os : Array Obj) => Calls.regrown_of (HHC.out (grow (redrawn U9 d) os))
      refine wp_region_quiet_below (by kernel_rfl) (by kernel_rfl) ?_
      repeat (first | go_big_quiet_step (first | (with_reducible exact CH _ _)) | quiet_step (first | (with_reducible exact CH _ _)))
      refine wpQuiet_nil ?_
      intro _ hw'
      obtain ⟨⟨dq, osq⟩, hw''⟩ := hw'
      subst hw''
      obtain ⟨V4, hV4⟩ : ∃ V, V = grow (redrawn U9 dq) osq := ⟨_, rfl⟩
      have hbV4 : Below U9.heap.size U9 V4 := by rw [hV4]; exact below_regrown _ _ _
      rw [← hV4]
      clear hV4
      clear Rc0
      clear Rc1
      clear Rz1
      clear CH
      have HB4 := Lib.hid (bt hbV4 HBQ.out)
      clear hbV4 c0 c1 z1 hqI hpI wb wc
      by_cases h255 : x = 255
      · have e255 : ((x.toNat : Int) != 255) = false := by subst h255; rfl
        have HN : Hid (∀ t, e ≤ t → t < j + 1 → (areaB m a).getD t 0 = 255) := fun t h1 h2 => by
          rcases Nat.lt_or_ge t j with h9 | h9
          · exact HALL.out t h1 h9
          · obtain rfl : t = j := by omega
            rw [HX.out, h255]
        clear h255
        go_wp2
        go_roundw
        case rel => exact ⟨j + 1, by go_num, by omega, by omega, HN.out, HB4.out⟩
        case measure => simp [intOf]; omega
      · have e255 : ((x.toNat : Int) != 255) = true := by rw [bne_iff_ne]; exact fun h9 => h255 (UInt8.toNat_inj.1 (by simp; omega))
        have HV : Hid (restB (areaB m a) e = false) := by
          show _ = _
          rw [Bool.eq_false_iff]
          intro h9
          have := (rest_iff (areaB m a) e).1 h9 j hej (by rw [areaB_length m ha, HHF.out]; exact hlt)
          rw [HX.out] at this
          exact h255 this
        clear h255
        go_wp2
        go_ret
        exact ⟨by rw [HV.out]; rfl, bt HB4.out HB.out⟩
    · obtain rfl : j = hh := by omega
      have HV : Hid (restB (areaB m a) e = true) := (rest_iff _ _).2 fun t h1 h2 => HALL.out t h1 (by rw [areaB_length m ha, HHF.out] at h2; exact h2)
      have j0 : ¬ ((j : Int) < (j : Int)) := by omega
      go_wp2_with fail
      refine (HHC.out _).mono ?_
      rintro e9 V3 ⟨rfl, hb3⟩
      have HB3 := Lib.hid (bt (bt hb3 HBQ.out) HB.out)
      clear hb3
      go_wp2
      go_ret
      exact ⟨by rw [HV.out]; rfl, HB3.out⟩
end Go.Proofs.YthebojaminploaaGreatDoor

/- The reference's more: memories behind memories. -/
set_option maxRecDepth 100000
set_option linter.unusedVariables false
set_option linter.unusedSimpArgs false
namespace Go.Proofs.YthebojaminploaaGreatDoor
open Go.RowKit Go.Sort Go.Shelf

theorem Lst.app {s : Int} {base : Nat} {its tl : List Elt} {v v' : Value} {W w1 : World} (h : Lst s base its v W) (ht : ∀ x ∈ tl, EltOk W x ∧ (0 < x.2.2.length → ∀ b o, x.1 = some ⟨b, o, none⟩ → some b ≠ v.ownBlock))
    (hown : w1.ownsRow base 24 2 v' (its.length + tl.length) (cellsE s its ++ cellsE s tl)) (hgrow : W.grownBy w1 v.ownBlock) (hat : v'.ownBlock = v.ownBlock ∨ v'.ownBlock = some W.heap.size) : Lst s base (its ++ tl) v' w1 := by
  have key : ∀ y ∈ its ++ tl, EltOk W y ∧ (0 < y.2.2.length → ∀ b o, y.1 = some ⟨b, o, none⟩ → some b ≠ v.ownBlock) := by
    intro y hy
    rcases List.mem_append.1 hy with hy | hy
    · exact ⟨h.2.1 y hy, h.2.2 y hy⟩
    · exact ht y hy
  refine ⟨by rw [List.length_append, cellsE_append]; exact hown, fun y hy => ?_, fun y hy hn b o e => ?_⟩
  · obtain ⟨k1, k2⟩ := key y hy
    exact k1.grown h.1 hgrow (fun b o e hn => k2 hn b o e)
  · obtain ⟨k1, k2⟩ := key y hy
    rcases hat with q | q
    · rw [q]; exact k2 hn b o e
    · rw [q]
      intro he
      obtain ⟨b', o', e', hb', _⟩ := k1.1.2 hn
      rw [e] at e'
      injection e' with e'
      injection e' with e'
      simp at he
      omega
/-- memories with those of one further step -/
theorem Lst.join {s : Int} {base : Nat} {its : List Elt} {z : Elt} {l : List Elt} {v v2 v' : Value} {W V w1 : World} (h : Lst s base its v W) (hb : Below W.heap.size W V) (h2 : Lst s W.heap.size (z :: l) v2 V) (hn : Nw W.heap.size (z :: l))
    (hown : w1.ownsRow base 24 2 v' (its.length + l.length) (cellsE s its ++ cellsE s l)) (hgrow : V.grownBy w1 v.ownBlock) (hat : v'.ownBlock = v.ownBlock ∨ v'.ownBlock = some V.heap.size) : Lst s base (its ++ l) v' w1 := by
  refine (h.next hb).app (fun x hx => ⟨h2.2.1 x (List.mem_cons_of_mem _ hx), fun h0 b o e h9 => ?_⟩) hown hgrow hat
  obtain ⟨i, hi, rfl⟩ := List.mem_iff_getElem.1 hx
  have h1 := hn (i + 1) l[i] (by simp [hi]) (by omega) b o e
  have h3 := (own_lt h.1 h9.symm).2
  omega
def MorePost (base : Nat) (s : Int) (its : List Elt) (ms : List (List UInt8)) (W : World) (e : Ending) (w' : World) : Prop :=
  ∃ v' l, e = .returned v' ∧ l.map (·.2.2) = ms.drop 1 ∧ Lst s base (its ++ l) v' w' ∧ Below base W w'
set_option maxHeartbeats 2000000 in
theorem more_any (base : Nat) (s : Int) (its : List Elt) (y : Elt) (v : Value) (q : Nat) (ds : List UInt8) (n : Nat) (hdn : ds.length = n) (Ad : Option Addr) (cd : Nat) (W : World) (h : Lst s base (its ++ [y]) v W) (hbs : base ≤ W.heap.size) (hv : validB s y.2.2.length = true) (hAd : RdB W W.heap.size Ad ds) (hq : q + n ≤ y.2.2.length) (h0 : 0 < n) (hl : its.length ≤ 100000) :
    Calls Tryz.prog 52 #[v, .int .i64 (q : Int), .slice Ad n cd] W (MorePost base s (its ++ [y]) (memos (andF ds) y.2.2 q n) W) := by
  subst hdn
  obtain ⟨i0, hi, hz0, hz1, hz2⟩ := info_parts info_flash
  obtain ⟨g, cap, rfl⟩ : ∃ g cap, v = .slice (some ⟨g, 0, none⟩) (its.length + 1) cap := by
    obtain ⟨g, cap, hv⟩ := ownsRow_succ (k := its.length) (by simpa using h.1)
    exact ⟨g, cap, hv⟩
  have h' : Lst s base (its ++ [y]) (.slice (some ⟨g, 0, none⟩) (its ++ [y]).length cap) W := by simpa using h
  obtain ⟨A1, c1, y0, y1, hc1, r1, _⟩ := Lst.at_ h' (k := its.length) (by simp)
  have ey : (its ++ [y])[its.length]'(by simp) = y := by simp
  rw [ey] at y1 hc1 r1
  obtain ⟨bs, hbs'⟩ : ∃ bs, bs = y.2.2 := ⟨_, rfl⟩
  rw [← hbs'] at hv hq y1 hc1 r1 ⊢
  obtain ⟨vx1, vx2, vx3, vx4, vx5⟩ := (valid_iff s bs.length).1 hv
  obtain ⟨e1, e2⟩ := prog_in (m := (s, bs)) (ds := ds) (p := (q : Int)) hv (by omega) (by dsimp only; omega)
  have HP := Lib.hid (rProgram_new (s, bs) (q : Int) ds A1 Ad c1 cd W r1 hAd hc1 (by dsimp only; omega) (by omega) (by omega) (by omega))
  rw [e1, e2] at HP
  dsimp only at HP
  have H := Lib.hid h
  have i1 : (0 : Int) ≤ (its.length : Int) := by omega
  have i2 : (its.length : Int) < (its.length : Int) + 1 := by omega
  have i3 : IntKind.i64.wrap (its.length : Int) = (its.length : Int) := IntWalk.i64_in _ (by omega)
  clear e1 e2 r1 hc1 h h' vx5 ey hbs' hAd
  go_enter Tryz.func52, Tryz.ntmps52
  go_wp2_with fail
  refine HP.out.mono ?_
  rintro e V ⟨⟨_, _, _, _, _, hb⟩, hnew⟩
  obtain ⟨v2, its2, rfl, hl2, hm2, hn2⟩ := hnew rfl
  have hm3 : its2.map (·.2.2) = memos (andF ds) bs q ds.length := by
    have := congrArg (List.map Prod.snd) hm2
    rw [List.map_map, List.map_map] at this
    rw [show (Prod.snd ∘ fun b : List UInt8 => ((s, b) : Mem)) = id from rfl, List.map_id] at this
    exact this
  obtain ⟨z, l, rfl⟩ : ∃ z l, its2 = z :: l := by
    cases its2 with
    | nil => have := congrArg List.length hm3; simp [memos_length] at this
    | cons z l => exact ⟨z, l, rfl⟩
  have hll : l.length = ds.length := by have := congrArg List.length hm3; simp [memos_length] at this; omega
  have HM : Hid (l.map (·.2.2) = (memos (andF ds) bs q ds.length).drop 1) := by show _ = _; rw [← hm3]; simp
  have hown2 := hl2.1
  obtain ⟨A2, c2, rfl, hc2, hr2⟩ := own_read hown2
  obtain ⟨g2, o2, rfl, hg2, _⟩ := hr2.2 (by simp)
  simp only [List.length_cons] at hc2 hr2 hl2 ⊢
  have hcut := RdS.cut hr2 (k := 1) (cap := c2) (by omega) hc2
  have hne : ¬ c2 = 1 := by omega
  rw [if_neg hne] at hcut
  have hcut' : RdS V V.heap.size 2 (some ⟨g2, o2 + 2, none⟩) l.length (cellsE s l) := by
    have := hcut
    rw [show (1 * 2) = 2 from rfl, cellsE_drop] at this
    simpa [Addr.add] using this
  have HC := Lib.hid hcut'
  have HL2 := Lib.hid hl2
  have HN2 := Lib.hid hn2
  have HB := Lib.hid hb
  have hsz := hb.size
  have HV : Hid (V.ownsRow base 24 2 (.slice (some ⟨g, 0, none⟩) (its.length + 1) cap) (its.length + 1) (cellsE s (its ++ [y]))) := by
    show World.ownsRow _ _ _ _ _ _ _
    have := (H.out.next hb).1
    rwa [List.length_append] at this
  have hl9 : l.length ≤ 5000 := by omega
  clear hll
  have j1 : (1 : Int) ≤ (l.length : Int) + 1 := by omega
  have j2 : (l.length : Int) + 1 ≤ (c2 : Int) := by omega
  have j3 : (1 : Int) ≤ (c2 : Int) := by omega
  clear hcut hcut' hr2 hl2 hn2 hm2 hm3 hown2 hb hnew HP y0 y1 hg2 i1 i2 i3
  go_wp2_with (at_builtin; refine wpList_append_rd _ rfl (.tmp 21) (.tmp 23) _ rfl base 24 i0 _ 2 32 Tryz.underlying28 hi hz0 hz1 hz2 rfl (by omega) (.slice (some ⟨g, 0, none⟩) (its.length + 1) cap) (its.length + 1) (cellsE s (its ++ [y])) rfl HV.out V.heap.size (some ⟨g2, o2 + 2, none⟩) l.length (c2 - 1) (cellsE s l) rfl HC.out (cellsE_one s l) (by simp only [maxLen]; omega) (by omega) (by omega) ?_; intro v3 w1 hown hg' hat; obtain ⟨A3, c3, rfl, hc3, _⟩ := own_read hown)
  have HJ : Hid (Lst s base (its ++ [y] ++ l) (.slice A3 (its.length + 1 + l.length) c3) w1) := Lst.join H.out HB.out HL2.out HN2.out (by simpa using hown) (by simpa using hg') (by simpa using hat)
  have HB1 : Hid (Below base W w1) := (HB.out.mono hbs).grown hg' (by omega) (by intro k hk; exact (own_lt HV.out hk).1)
  clear hown hg' hat HV HC
  go_wp2
  go_ret
  exact ⟨_, l, rfl, HM.out, HJ.out, HB1.out⟩
end Go.Proofs.YthebojaminploaaGreatDoor
