/- The walk of the law FlashSteps. -/
import Derived.Test.YtjfpnldijlbmiaaFo
import Derived.Test.YtjfpnldijlbmiaaFwc
import Derived.Lib.QuietBelow
set_option linter.unusedVariables false
set_option linter.unusedSimpArgs false
namespace Go.Proofs.Ytjfpnldijlbmiaa
open Go.RowKit Go.Sort

theorem getD_get {l : List UInt8} {j : Nat} (h : j < l.length) : l.getD j 0 = l[j] := by rw [List.getD_eq_getElem?_getD, List.getElem?_eq_getElem h]; rfl
theorem memo_near (f : Nat → UInt8 → UInt8) (bs : List UInt8) (q i : Nat) (j : Nat) (h : j < (memo f bs q i).length) (h' : j < (memo f bs q (i + 1)).length) (hne : j ≠ q + i) : (memo f bs q i)[j] = (memo f bs q (i + 1))[j] := by
  rw [← getD_get, ← getD_get]
  exact (memo_step f bs q i j (by simpa [memo_length] using h) hne).symm
theorem memo_there (f : Nat → UInt8 → UInt8) (bs : List UInt8) (q i : Nat) (h : q + i < (memo f bs q i).length) (h' : q + i < (memo f bs q (i + 1)).length) : (memo f bs q (i + 1))[q + i] = f i ((memo f bs q i)[q + i]) := by
  rw [← getD_get, ← getD_get, memo, List.getD_eq_getElem?_getD, List.getElem?_set_self h]; rfl
/-- what the law looks at, of two memories one behind the other -/
def Near (m : Mem) (q : Nat) (x y : Mem) : Prop :=
  q < m.2.length ∧ x.2.length = m.2.length ∧ y.2.length = m.2.length ∧ validB y.1 y.2.length = true ∧ (∀ j (h : j < x.2.length) (h' : j < y.2.length), j ≠ q → x.2[j] = y.2[j])
theorem one_eq (a b : List UInt8) (A1 A2 : Option Addr) (c1 c2 : Nat) (w : World) (h1 : RdB w w.heap.size A1 a) (h2 : RdB w w.heap.size A2 b) (n1 : a.length ≤ 1000000000) (hab : b = a) :
    Calls Try.prog 21 #[.slice A1 a.length c1, .slice A2 b.length c2] w fun e w' => e = .returned (.tuple #[.int .i64 0, .int .i64 (-1)]) ∧ Below w.heap.size w w' := by
  subst hab; exact one_same b A1 A2 c1 c2 w h1 h2 n1
theorem andNot_u8 (a d : UInt8) : bits .andNot .u8 ((a &&& d).toNat : Int) (a.toNat : Int) = 0 := by
  show IntKind.u8.wrap ((BitVec.ofInt 8 ((a &&& d).toNat : Int) &&& ~~~ BitVec.ofInt 8 (a.toNat : Int)).toNat : Int) = _
  have e : ∀ x : UInt8, BitVec.ofInt 8 (x.toNat : Int) = x.toBitVec := fun x => by
    apply BitVec.eq_of_toNat_eq
    rw [BitVec.ofInt_natCast, BitVec.toNat_ofNat]; exact Nat.mod_eq_of_lt x.toNat_lt
  rw [e, e, UInt8.toBitVec_and]
  have h : a.toBitVec &&& d.toBitVec &&& ~~~ a.toBitVec = 0#8 := by
    rw [BitVec.and_comm a.toBitVec, BitVec.and_assoc, BitVec.and_not_self]; exact BitVec.and_zero
  rw [h]; rfl
theorem prog_near {m : Mem} {p : Int} {ds : List UInt8} {j : Nat} {x y : Mem} (hx : (progL m p ds)[j]? = some x) (hy : (progL m p ds)[j + 1]? = some y) :
    ∃ q : Nat, (q : Int) = p + j ∧ Near m q x y ∧ ∀ (h : q < x.2.length) (h' : q < y.2.length), ∃ d, y.2[q] = x.2[q] &&& d := by
  by_cases he : progE m p ds = 0
  · obtain ⟨a, b, c⟩ := prog0 he
    have hl : progL m p ds = (memos (andF ds) m.2 p.toNat ds.length).map fun b => (m.1, b) := by simp [progL, he]
    have hj : j + 1 < ds.length + 1 := by
      rcases Nat.lt_or_ge (j + 1) (ds.length + 1) with h' | h'
      · exact h'
      · rw [hl, List.getElem?_eq_none (by simpa [memos_length] using h')] at hy; cases hy
    rw [hl, List.getElem?_map, memos_get _ _ _ _ _ (by omega)] at hx
    rw [hl, List.getElem?_map, memos_get _ _ _ _ _ hj] at hy
    obtain rfl : (m.1, memo (andF ds) m.2 p.toNat j) = x := by simpa using hx
    obtain rfl : (m.1, memo (andF ds) m.2 p.toNat (j + 1)) = y := by simpa using hy
    refine ⟨p.toNat + j, by omega, ⟨by omega, memo_length _ _ _ _, memo_length _ _ _ _, by simpa [memo_length] using a, fun i h h' hne => memo_near _ _ _ _ i h h' hne⟩, fun h h' => ⟨ds.getD j 0, ?_⟩⟩
    exact memo_there _ _ _ _ h h'
  · rw [show progL m p ds = [] from by simp [progL, he]] at hx; cases hx
theorem progL_zero {m : Mem} {p : Int} {ds : List UInt8} (h : progE m p ds = 0) : (progL m p ds)[0]'(by rw [progL_len h]; omega) = m := by
  have hl : progL m p ds = (memos (andF ds) m.2 p.toNat ds.length).map fun b => (m.1, b) := by simp [progL, h]
  have : (progL m p ds)[0]? = some m := by rw [hl, List.getElem?_map, memos_get _ _ _ _ _ (by omega)]; rfl
  exact (List.getElem?_eq_some_iff.1 this).2
theorem eraL_zero {m : Mem} {k : Int} (h : eraE m k = 0) : (eraL m k)[0]'(by have := eraL_len h; have := (valid_iff _ _).1 (eraE_ok h).1; omega) = m := by
  have : (eraL m k)[0]? = some m := by rw [eraL_eq h, List.getElem?_map, memos_get _ _ _ _ _ (by omega)]; rfl
  exact (List.getElem?_eq_some_iff.1 this).2
theorem era_near {m : Mem} {k : Int} {j : Nat} {x y : Mem} (hx : (eraL m k)[j]? = some x) (hy : (eraL m k)[j + 1]? = some y) :
    ∃ q : Nat, (q : Int) = k * m.1 + j ∧ Near m q x y ∧ ∀ (h' : q < y.2.length), y.2[q] = 255 := by
  by_cases he : eraE m k = 0
  · obtain ⟨a, b, c⟩ := eraE_ok he
    obtain ⟨v1, v2, v3, v4, v5⟩ := (valid_iff _ _).1 a
    have hs := sector_in v1 v5 b c
    have hj : j + 1 < m.1.toNat + 1 := by
      rcases Nat.lt_or_ge (j + 1) (m.1.toNat + 1) with h' | h'
      · exact h'
      · rw [eraL_eq he, List.getElem?_eq_none (by simpa [memos_length] using h')] at hy; cases hy
    rw [eraL_eq he, List.getElem?_map, memos_get _ _ _ _ _ (by omega)] at hx
    rw [eraL_eq he, List.getElem?_map, memos_get _ _ _ _ _ hj] at hy
    obtain rfl : (m.1, memo eraF m.2 (k * m.1).toNat j) = x := by simpa using hx
    obtain rfl : (m.1, memo eraF m.2 (k * m.1).toNat (j + 1)) = y := by simpa using hy
    refine ⟨(k * m.1).toNat + j, by omega, ⟨by omega, memo_length _ _ _ _, memo_length _ _ _ _, by simpa [memo_length] using a, fun i h h' hne => memo_near _ _ _ _ i h h' hne⟩, fun h' => ?_⟩
    exact memo_there _ _ _ _ (by rw [memo_length]; omega) h'
  · rw [show eraL m k = [] from by simp [eraL, he]] at hx; cases hx

set_option maxRecDepth 100000 in
set_option maxHeartbeats 4000000 in
theorem FlashSteps_walk (m : Mem) (A Ad : Option Addr) (c cd : Nat) (p k : Int) (ds : List UInt8) (w : World) (hA : RdB w w.heap.size A m.2) (hD : RdB w w.heap.size Ad ds) (hcap : m.2.length ≤ c)
    (p0 : -9223372036854775808 ≤ p) (p1 : p ≤ 9223372036854775807) (b0 : -9223372036854775808 ≤ k) (b1 : k ≤ 9223372036854775807) (hmx : m.2.length ≤ maxLen) (hdx : ds.length ≤ maxLen) :
    Calls Try.prog 4 #[.agg #[.int .i64 m.1, .slice A m.2.length c], .int .i64 p, .slice Ad ds.length cd, .int .i64 k] w fun e w' => e = .returned (.bool true) ∧ Below w.heap.size w w' := by
  unfold maxLen at hmx hdx
  by_cases h1 : m.2.length ≤ 300
  · by_cases h2 : ds.length ≤ 300
    · have h1' : (m.2.length : Int) ≤ 300 := by omega
      have h2' : (ds.length : Int) ≤ 300 := by omega
      have HB : Below w.heap.size w _ := al1 w (.cells #[.int .i64 m.1, .slice A m.2.length c] 24)
      have kf : Bk (w.alloc (.cells #[.int .i64 m.1, .slice A m.2.length c] 24)) w.heap.size 24 #[.int .i64 m.1, .slice A m.2.length c] := Bk.new _ _ _
      have rf := hA.next HB
      have rd := hD.next HB
      clear hA hD
      go_enter Try.func4, Try.ntmps4
      obtain ⟨xf0, xf1, _, _⟩ := boxFacts kf
      have lf := kf.lt
      have H_rf := Lib.hid rf
      clear rf
      have H_rd := Lib.hid rd
      clear rd
      go_wp2_with fail
      have rf := H_rf.out
      clear H_rf
      have rd := H_rd.out
      clear H_rd
      clear xf0 xf1 lf
      refine (head_any _).mono ?_
      rintro e V1 ⟨rfl, hb⟩
      have hB := hb
      have kf := kf.next hB
      have rf := rf.next hB
      have rd := rd.next hB
      have HB := bt hB HB
      clear hb hB
      obtain ⟨xf0, xf1, _, _⟩ := boxFacts kf
      have lf := kf.lt
      have H_rf := Lib.hid rf
      clear rf
      have H_rd := Lib.hid rd
      clear rd
      go_wp2_with fail
      have rf := H_rf.out
      clear H_rf
      have rd := H_rd.out
      clear H_rd
      clear xf0 xf1 lf
      refine (Program_any m p ds A Ad c cd _ rf rd (by omega) (by omega) p0 p1).mono ?_
      rintro e V2 ⟨A1, c1, rfl, hc1, r1, hb⟩
      have hB := hb
      have kf := kf.next hB
      have rf := rf.next hB
      have rd := rd.next hB
      have HB := bt hB HB
      clear hb hB
      obtain ⟨xf0, xf1, _, _⟩ := boxFacts kf
      have lf := kf.lt
      have H_rf := Lib.hid rf
      clear rf
      have H_rd := Lib.hid rd
      clear rd
      have H_r1 := Lib.hid r1
      clear r1
      have HBH := Lib.hid HB
      clear HB
      go_wp2
      have KF := Lib.hid kf
      clear kf xf0 xf1 lf
      have hpl : (progL m p ds).length ≤ 301 := by have := progL_le m p ds; omega
      go_loopw [12] (fun i wr => ∃ n : Nat, i = .int .i64 (n : Int) ∧ 1 ≤ n ∧ n ≤ (progL m p ds).length + 1 ∧ Below V2.heap.size V2 wr) (fun i _ => (progL m p ds).length + 1 - (intOf i).toNat)
      case atStart => exact ⟨1, rfl, Nat.le_refl _, by omega, Below.refl _ _⟩
      case round =>
        obtain ⟨n, rfl, hn1, hn, hbr⟩ := hrel
        have kf := KF.out.next hbr
        obtain ⟨xf0, xf1, _, _⟩ := boxFacts kf
        have lf := kf.lt
        have r1 := H_r1.out.next hbr
        by_cases hlt : n < (progL m p ds).length
        · obtain ⟨j, rfl⟩ : ∃ j, n = j + 1 := ⟨n - 1, by omega⟩
          obtain ⟨b, o, rfl, hb1, hc⟩ := r1 (by omega)
          obtain ⟨x, hx⟩ : ∃ x, (progL m p ds)[j]? = some x := ⟨_, List.getElem?_eq_getElem (by omega)⟩
          obtain ⟨y, hy⟩ : ∃ y, (progL m p ds)[j + 1]? = some y := ⟨_, List.getElem?_eq_getElem (by omega)⟩
          obtain ⟨Ax, cx, x0, x1, x2, rx⟩ := hc j x hx
          obtain ⟨Ay, cy, y0, y1, y2, ry⟩ := hc (j + 1) y hy
          obtain ⟨q, hq, hnear, hand⟩ := prog_near hx hy
          obtain ⟨n, hnj⟩ : ∃ n, n = j + 1 := ⟨_, rfl⟩
          rw [← hnj] at y0 y1 hlt ⊢
          have i0 : (n : Int) - 1 = (j : Int) := by omega
          have i1 : (0 : Int) ≤ (j : Int) := by omega
          have i2 : (j : Int) < ((progL m p ds).length : Int) := by omega
          have i3 : (0 : Int) ≤ (n : Int) := by omega
          have i4 : (n : Int) < ((progL m p ds).length : Int) := by omega
          have i5 : IntKind.i64.wrap ((n : Int) - 1) = (j : Int) := by rw [IntWalk.i64_in _ (by omega)]; omega
          have i6 : IntKind.i64.wrap (j : Int) = (j : Int) := IntWalk.i64_in _ (by omega)
          have HX := Lib.hid rx
          have HY := Lib.hid ry
          have HN := Lib.hid hnear
          have HA := Lib.hid hand
          have HBR := Lib.hid hbr
          have HQ := Lib.hid hq
          have HNJ := Lib.hid hnj
          clear hc hx hy hnear hand hbr rx ry r1 hq hnj
          have v0 := World.new_ne wr _ x0
          have v1 := World.new_ne wr _ x1
          have v2 := World.new_ne wr _ y0
          have v3 := World.new_ne wr _ y1
          go_wp2
          go_region_held3 (fun w' => w'.cell? ⟨b, o + j * 2, none⟩ = some (.int .i64 x.1) ∧ w'.cell? ⟨b, o + j * 2 + 1, none⟩ = some (.slice Ax x.2.length cx) ∧ w'.cell? ⟨b, o + n * 2, none⟩ = some (.int .i64 y.1) ∧ w'.cell? ⟨b, o + n * 2 + 1, none⟩ = some (.slice Ay y.2.length cy))
            (first | go_keep | exact ⟨x0, x1, y0, y1⟩ | fail) (fail)
          · obtain ⟨U0, hU0⟩ : ∃ U, U = ((wr.alloc (.cells #[.int .i64 x.1, .slice Ax x.2.length cx] 24)).alloc (.cells #[.int .i64 y.1, .slice Ay y.2.length cy] 24)).drew := ⟨_, rfl⟩
            rw [← hU0]
            have kx : Bk U0 (wr.heap.size) 24 #[.int .i64 x.1, .slice Ax x.2.length cx] := by rw [hU0]; exact ((Bk.new _ _ _).alloc _).drew
            have ky : Bk U0 (wr.heap.size + 1) 24 #[.int .i64 y.1, .slice Ay y.2.length cy] := by rw [hU0]; exact bkOf (by simp [at?_alloc, at?_drew])
            have hbu : Below wr.heap.size wr U0 := by rw [hU0]; exact (al2 wr _ _).drew
            clear hU0
            obtain ⟨gy, hgy⟩ : ∃ g, g = wr.heap.size + 1 := ⟨_, rfl⟩
            rw [← hgy] at ky ⊢
            clear hgy
            obtain ⟨gx, hgx⟩ : ∃ g, g = wr.heap.size := ⟨_, rfl⟩
            rw [← hgx] at kx ⊢
            clear hgx
            have kf := KF.out.next (bt hbu HBR.out)
            have rx := HX.out.next hbu
            have ry := HY.out.next hbu
            have HBR2 := Lib.hid (bt hbu HBR.out)
            have HX2 := Lib.hid rx
            have HY2 := Lib.hid ry
            clear rx ry hbu x0 x1 y0 y1 v0 v1 v2 v3 xf0 xf1 lf
            obtain ⟨xf0, xf1, _, _⟩ := boxFacts kf
            obtain ⟨xx0, xx1, _, _⟩ := boxFacts kx
            obtain ⟨xy0, xy1, _, _⟩ := boxFacts ky
            have lx := kx.lt
            have ly := ky.lt
            have lf := kf.lt
            have e1 : ((x.2.length : Int) != (m.2.length : Int)) = false := by simp [HN.out.2.1]
            have e2 : ((y.2.length : Int) != (m.2.length : Int)) = false := by simp [HN.out.2.2.1]
            go_wp2_with fail
            refine (Valid_lit true y.1 Ay y.2.length cy _ HN.out.2.2.2.1).mono ?_
            rintro e U1 ⟨rfl, hb⟩
            have kf := kf.next hb
            have kx := kx.next hb
            have ky := ky.next hb
            have rx := HX2.out.next hb
            have ry := HY2.out.next hb
            have HBR3 := Lib.hid (bt hb HBR2.out)
            clear xf0 xf1 xx0 xx1 xy0 xy1 lx ly lf hb
            obtain ⟨xf0, xf1, _, _⟩ := boxFacts kf
            obtain ⟨xx0, xx1, _, _⟩ := boxFacts kx
            obtain ⟨xy0, xy1, _, _⟩ := boxFacts ky
            have lx := kx.lt
            have ly := ky.lt
            have lf := kf.lt
            by_cases hxy : y.2 = x.2
            · have HXY := Lib.hid hxy
              have HX3 := Lib.hid rx
              have HY3 := Lib.hid ry
              clear hxy rx ry
              go_wp2_with fail
              refine (one_eq x.2 y.2 Ax Ay cx cy _ HX3.out HY3.out (by have := HN.out.2.1; omega) HXY.out).mono ?_
              rintro e U2 ⟨rfl, hb⟩
              have HBR4 := Lib.hid (bt hb HBR3.out)
              clear hb
              go_wp2
              go_quiet (fail)
              go_wp2
              go_roundw
              case rel => exact ⟨n + 1, by go_num, by omega, by omega, belowDrew HBR4.out _⟩
              case measure => simp [intOf]; omega
            · have hqx : q < x.2.length := by have := HN.out.1; have := HN.out.2.1; omega
              have hqy : q < y.2.length := by have := HN.out.1; have := HN.out.2.2.1; omega
              have hqn : x.2[q] ≠ y.2[q] := fun h => hxy (List.ext_getElem (HN.out.2.2.1.trans HN.out.2.1.symm) fun i h1 h2 => by
                by_cases hi : i = q
                · subst hi; exact h.symm
                · exact (HN.out.2.2.2.2 i h2 h1 hi).symm)
              have HQN := Lib.hid hqn
              obtain ⟨d, hd⟩ := HA.out hqx hqy
              have hbit : bits .andNot .u8 (y.2[q].toNat : Int) (x.2[q].toNat : Int) = 0 := by rw [hd]; exact andNot_u8 _ _
              clear hxy hqn hd
              have HX3 := Lib.hid rx
              have HY3 := Lib.hid ry
              clear rx ry
              go_wp2_with fail
              refine (one_at x.2 y.2 q Ax Ay cx cy _ HX3.out HY3.out (by have := HN.out.2.1; omega) (HN.out.2.2.1.trans HN.out.2.1.symm) hqx HN.out.2.2.2.2 (fun _ _ => HQN.out)).mono ?_
              rintro e U2 ⟨rfl, hb⟩
              have kf := kf.next hb
              have kx := kx.next hb
              have ky := ky.next hb
              have rx := HX3.out.next hb
              have ry := HY3.out.next hb
              have HBR4 := Lib.hid (bt hb HBR3.out)
              clear xf0 xf1 xx0 xx1 xy0 xy1 lx ly lf hb
              obtain ⟨xf0, xf1, _, _⟩ := boxFacts kf
              obtain ⟨xx0, xx1, _, _⟩ := boxFacts kx
              obtain ⟨xy0, xy1, _, _⟩ := boxFacts ky
              have lx := kx.lt
              have ly := ky.lt
              have lf := kf.lt
              obtain ⟨a1, o1, rfl, g1, q1⟩ := rx.at_ hqx
              obtain ⟨a2, o2, rfl, g2, q2⟩ := ry.at_ hqy
              clear rx ry
              have hqq := HQ.out
              have hqm := HN.out.1
              have zb1 : -1000 ≤ p := by omega
              have zb2 : p ≤ 1000 := by omega
              have zq : ((q : Int) != p + (n : Int) - 1) = false := by simp; omega
              have z3 : (0 : Int) ≤ (q : Int) := by omega
              have z4 : (q : Int) < (x.2.length : Int) := by omega
              have z5 : (q : Int) < (y.2.length : Int) := by omega
              clear hqq hqm
              go_wp2
              go_quiet (fail)
              go_wp2
              go_roundw
              case rel => exact ⟨n + 1, by go_num, by omega, by omega, belowDrew HBR4.out _⟩
              case measure => simp [intOf]; omega
          · obtain ⟨U0, hU0⟩ : ∃ U, U = ((wr.alloc (.cells #[.int .i64 y.1, .slice Ay y.2.length cy] 24)).alloc (.cells #[.int .i64 x.1, .slice Ax x.2.length cx] 24)).drew := ⟨_, rfl⟩
            rw [← hU0]
            have ky : Bk U0 (wr.heap.size) 24 #[.int .i64 y.1, .slice Ay y.2.length cy] := by rw [hU0]; exact ((Bk.new _ _ _).alloc _).drew
            have kx : Bk U0 (wr.heap.size + 1) 24 #[.int .i64 x.1, .slice Ax x.2.length cx] := by rw [hU0]; exact bkOf (by simp [at?_alloc, at?_drew])
            have hbu : Below wr.heap.size wr U0 := by rw [hU0]; exact (al2 wr _ _).drew
            clear hU0
            obtain ⟨gx, hgx⟩ : ∃ g, g = wr.heap.size + 1 := ⟨_, rfl⟩
            rw [← hgx] at kx ⊢
            clear hgx
            obtain ⟨gy, hgy⟩ : ∃ g, g = wr.heap.size := ⟨_, rfl⟩
            rw [← hgy] at ky ⊢
            clear hgy
            have kf := KF.out.next (bt hbu HBR.out)
            have rx := HX.out.next hbu
            have ry := HY.out.next hbu
            have HBR2 := Lib.hid (bt hbu HBR.out)
            have HX2 := Lib.hid rx
            have HY2 := Lib.hid ry
            clear rx ry hbu x0 x1 y0 y1 v0 v1 v2 v3 xf0 xf1 lf
            obtain ⟨xf0, xf1, _, _⟩ := boxFacts kf
            obtain ⟨xx0, xx1, _, _⟩ := boxFacts kx
            obtain ⟨xy0, xy1, _, _⟩ := boxFacts ky
            have lx := kx.lt
            have ly := ky.lt
            have lf := kf.lt
            have e1 : ((x.2.length : Int) != (m.2.length : Int)) = false := by simp [HN.out.2.1]
            have e2 : ((y.2.length : Int) != (m.2.length : Int)) = false := by simp [HN.out.2.2.1]
            go_wp2_with fail
            refine (Valid_lit true y.1 Ay y.2.length cy _ HN.out.2.2.2.1).mono ?_
            rintro e U1 ⟨rfl, hb⟩
            have kf := kf.next hb
            have kx := kx.next hb
            have ky := ky.next hb
            have rx := HX2.out.next hb
            have ry := HY2.out.next hb
            have HBR3 := Lib.hid (bt hb HBR2.out)
            clear xf0 xf1 xx0 xx1 xy0 xy1 lx ly lf hb
            obtain ⟨xf0, xf1, _, _⟩ := boxFacts kf
            obtain ⟨xx0, xx1, _, _⟩ := boxFacts kx
            obtain ⟨xy0, xy1, _, _⟩ := boxFacts ky
            have lx := kx.lt
            have ly := ky.lt
            have lf := kf.lt
            by_cases hxy : y.2 = x.2
            · have HXY := Lib.hid hxy
              have HX3 := Lib.hid rx
              have HY3 := Lib.hid ry
              clear hxy rx ry
              go_wp2_with fail
              refine (one_eq x.2 y.2 Ax Ay cx cy _ HX3.out HY3.out (by have := HN.out.2.1; omega) HXY.out).mono ?_
              rintro e U2 ⟨rfl, hb⟩
              have HBR4 := Lib.hid (bt hb HBR3.out)
              clear hb
              go_wp2
              go_quiet (fail)
              go_wp2
              go_roundw
              case rel => exact ⟨n + 1, by go_num, by omega, by omega, belowDrew HBR4.out _⟩
              case measure => simp [intOf]; omega
            · have hqx : q < x.2.length := by have := HN.out.1; have := HN.out.2.1; omega
              have hqy : q < y.2.length := by have := HN.out.1; have := HN.out.2.2.1; omega
              have hqn : x.2[q] ≠ y.2[q] := fun h => hxy (List.ext_getElem (HN.out.2.2.1.trans HN.out.2.1.symm) fun i h1 h2 => by
                by_cases hi : i = q
                · subst hi; exact h.symm
                · exact (HN.out.2.2.2.2 i h2 h1 hi).symm)
              have HQN := Lib.hid hqn
              obtain ⟨d, hd⟩ := HA.out hqx hqy
              have hbit : bits .andNot .u8 (y.2[q].toNat : Int) (x.2[q].toNat : Int) = 0 := by rw [hd]; exact andNot_u8 _ _
              clear hxy hqn hd
              have HX3 := Lib.hid rx
              have HY3 := Lib.hid ry
              clear rx ry
              go_wp2_with fail
              refine (one_at x.2 y.2 q Ax Ay cx cy _ HX3.out HY3.out (by have := HN.out.2.1; omega) (HN.out.2.2.1.trans HN.out.2.1.symm) hqx HN.out.2.2.2.2 (fun _ _ => HQN.out)).mono ?_
              rintro e U2 ⟨rfl, hb⟩
              have kf := kf.next hb
              have kx := kx.next hb
              have ky := ky.next hb
              have rx := HX3.out.next hb
              have ry := HY3.out.next hb
              have HBR4 := Lib.hid (bt hb HBR3.out)
              clear xf0 xf1 xx0 xx1 xy0 xy1 lx ly lf hb
              obtain ⟨xf0, xf1, _, _⟩ := boxFacts kf
              obtain ⟨xx0, xx1, _, _⟩ := boxFacts kx
              obtain ⟨xy0, xy1, _, _⟩ := boxFacts ky
              have lx := kx.lt
              have ly := ky.lt
              have lf := kf.lt
              obtain ⟨a1, o1, rfl, g1, q1⟩ := rx.at_ hqx
              obtain ⟨a2, o2, rfl, g2, q2⟩ := ry.at_ hqy
              clear rx ry
              have hqq := HQ.out
              have hqm := HN.out.1
              have zb1 : -1000 ≤ p := by omega
              have zb2 : p ≤ 1000 := by omega
              have zq : ((q : Int) != p + (n : Int) - 1) = false := by simp; omega
              have z3 : (0 : Int) ≤ (q : Int) := by omega
              have z4 : (q : Int) < (x.2.length : Int) := by omega
              have z5 : (q : Int) < (y.2.length : Int) := by omega
              clear hqq hqm
              go_wp2
              go_quiet (fail)
              go_wp2
              go_roundw
              case rel => exact ⟨n + 1, by go_num, by omega, by omega, belowDrew HBR4.out _⟩
              case measure => simp [intOf]; omega
        · have hge : ¬ n < (progL m p ds).length := hlt
          have rf := H_rf.out.next hbr
          have HBR := Lib.hid hbr
          have H_rf2 := Lib.hid rf
          have H_r12 := Lib.hid r1
          clear hbr rf r1 hlt
          go_wp2_with fail
          refine (Erase_any m k A c _ H_rf2.out (by omega) b0 b1).mono ?_
          rintro e V3 ⟨A3, c3, rfl, hc3, r3, hb⟩
          have kf := kf.next hb
          have HBR2 := Lib.hid (bt hb HBR.out)
          have H_rf3 := Lib.hid (H_rf2.out.next hb)
          have H_r13 := Lib.hid (H_r12.out.next hb)
          have H_r3 := Lib.hid r3
          clear hb r3 xf0 xf1 lf
          obtain ⟨xf0, xf1, _, _⟩ := boxFacts kf
          have lf := kf.lt
          have hel : (eraL m k).length ≤ 513 := eraL_le m k
          go_wp2
          have KF3 := Lib.hid kf
          clear kf xf0 xf1 lf
          go_loopw [19] (fun i wr => ∃ n : Nat, i = .int .i64 (n : Int) ∧ 1 ≤ n ∧ n ≤ (eraL m k).length + 1 ∧ Below V3.heap.size V3 wr) (fun i _ => (eraL m k).length + 1 - (intOf i).toNat)
          case atStart => exact ⟨1, rfl, Nat.le_refl _, by omega, Below.refl _ _⟩
          case round =>
            obtain ⟨n, rfl, hn1, hn, hbr⟩ := hrel
            have kf := KF3.out.next hbr
            obtain ⟨xf0, xf1, _, _⟩ := boxFacts kf
            have lf := kf.lt
            have r1 := H_r3.out.next hbr
            by_cases hlt : n < (eraL m k).length
            · obtain ⟨j, rfl⟩ : ∃ j, n = j + 1 := ⟨n - 1, by omega⟩
              obtain ⟨b, o, rfl, hb1, hc⟩ := r1 (by omega)
              obtain ⟨x, hx⟩ : ∃ x, (eraL m k)[j]? = some x := ⟨_, List.getElem?_eq_getElem (by omega)⟩
              obtain ⟨y, hy⟩ : ∃ y, (eraL m k)[j + 1]? = some y := ⟨_, List.getElem?_eq_getElem (by omega)⟩
              obtain ⟨Ax, cx, x0, x1, x2, rx⟩ := hc j x hx
              obtain ⟨Ay, cy, y0, y1, y2, ry⟩ := hc (j + 1) y hy
              obtain ⟨q, hq, hnear, hand⟩ := era_near hx hy
              obtain ⟨n, hnj⟩ : ∃ n, n = j + 1 := ⟨_, rfl⟩
              rw [← hnj] at y0 y1 hlt ⊢
              have i0 : (n : Int) - 1 = (j : Int) := by omega
              have i1 : (0 : Int) ≤ (j : Int) := by omega
              have i2 : (j : Int) < ((eraL m k).length : Int) := by omega
              have i3 : (0 : Int) ≤ (n : Int) := by omega
              have i4 : (n : Int) < ((eraL m k).length : Int) := by omega
              have i5 : IntKind.i64.wrap ((n : Int) - 1) = (j : Int) := by rw [IntWalk.i64_in _ (by omega)]; omega
              have i6 : IntKind.i64.wrap (j : Int) = (j : Int) := IntWalk.i64_in _ (by omega)
              have HX := Lib.hid rx
              have HY := Lib.hid ry
              have HN := Lib.hid hnear
              have HA := Lib.hid hand
              have HBR := Lib.hid hbr
              have HQ := Lib.hid hq
              have HNJ := Lib.hid hnj
              clear hc hx hy hnear hand hbr rx ry r1 hq hnj
              have v0 := World.new_ne wr _ x0
              have v1 := World.new_ne wr _ x1
              have v2 := World.new_ne wr _ y0
              have v3 := World.new_ne wr _ y1
              go_wp2
              go_region_held3 (fun w' => w'.cell? ⟨b, o + j * 2, none⟩ = some (.int .i64 x.1) ∧ w'.cell? ⟨b, o + j * 2 + 1, none⟩ = some (.slice Ax x.2.length cx) ∧ w'.cell? ⟨b, o + n * 2, none⟩ = some (.int .i64 y.1) ∧ w'.cell? ⟨b, o + n * 2 + 1, none⟩ = some (.slice Ay y.2.length cy))
                (first | go_keep | exact ⟨x0, x1, y0, y1⟩ | fail) (fail)
              · obtain ⟨U0, hU0⟩ : ∃ U, U = ((wr.alloc (.cells #[.int .i64 x.1, .slice Ax x.2.length cx] 24)).alloc (.cells #[.int .i64 y.1, .slice Ay y.2.length cy] 24)).drew := ⟨_, rfl⟩
                rw [← hU0]
                have kx : Bk U0 (wr.heap.size) 24 #[.int .i64 x.1, .slice Ax x.2.length cx] := by rw [hU0]; exact ((Bk.new _ _ _).alloc _).drew
                have ky : Bk U0 (wr.heap.size + 1) 24 #[.int .i64 y.1, .slice Ay y.2.length cy] := by rw [hU0]; exact bkOf (by simp [at?_alloc, at?_drew])
                have hbu : Below wr.heap.size wr U0 := by rw [hU0]; exact (al2 wr _ _).drew
                clear hU0
                obtain ⟨gy, hgy⟩ : ∃ g, g = wr.heap.size + 1 := ⟨_, rfl⟩
                rw [← hgy] at ky ⊢
                clear hgy
                obtain ⟨gx, hgx⟩ : ∃ g, g = wr.heap.size := ⟨_, rfl⟩
                rw [← hgx] at kx ⊢
                clear hgx
                have kf := KF3.out.next (bt hbu HBR.out)
                have rx := HX.out.next hbu
                have ry := HY.out.next hbu
                have HBR2 := Lib.hid (bt hbu HBR.out)
                have HX2 := Lib.hid rx
                have HY2 := Lib.hid ry
                clear rx ry hbu x0 x1 y0 y1 v0 v1 v2 v3 xf0 xf1 lf
                obtain ⟨xf0, xf1, _, _⟩ := boxFacts kf
                obtain ⟨xx0, xx1, _, _⟩ := boxFacts kx
                obtain ⟨xy0, xy1, _, _⟩ := boxFacts ky
                have lx := kx.lt
                have ly := ky.lt
                have lf := kf.lt
                have e1 : ((x.2.length : Int) != (m.2.length : Int)) = false := by simp [HN.out.2.1]
                have e2 : ((y.2.length : Int) != (m.2.length : Int)) = false := by simp [HN.out.2.2.1]
                go_wp2_with fail
                refine (Valid_lit true y.1 Ay y.2.length cy _ HN.out.2.2.2.1).mono ?_
                rintro e U1 ⟨rfl, hb⟩
                have kf := kf.next hb
                have kx := kx.next hb
                have ky := ky.next hb
                have rx := HX2.out.next hb
                have ry := HY2.out.next hb
                have HBR3 := Lib.hid (bt hb HBR2.out)
                clear xf0 xf1 xx0 xx1 xy0 xy1 lx ly lf hb
                obtain ⟨xf0, xf1, _, _⟩ := boxFacts kf
                obtain ⟨xx0, xx1, _, _⟩ := boxFacts kx
                obtain ⟨xy0, xy1, _, _⟩ := boxFacts ky
                have lx := kx.lt
                have ly := ky.lt
                have lf := kf.lt
                by_cases hxy : y.2 = x.2
                · have HXY := Lib.hid hxy
                  have HX3 := Lib.hid rx
                  have HY3 := Lib.hid ry
                  clear hxy rx ry
                  go_wp2_with fail
                  refine (one_eq x.2 y.2 Ax Ay cx cy _ HX3.out HY3.out (by have := HN.out.2.1; omega) HXY.out).mono ?_
                  rintro e U2 ⟨rfl, hb⟩
                  have HBR4 := Lib.hid (bt hb HBR3.out)
                  clear hb
                  go_wp2
                  go_roundw
                  case rel => exact ⟨n + 1, by go_num, by omega, by omega, HBR4.out⟩
                  case measure => simp [intOf]; omega
                · have hqx : q < x.2.length := by have := HN.out.1; have := HN.out.2.1; omega
                  have hqy : q < y.2.length := by have := HN.out.1; have := HN.out.2.2.1; omega
                  have hqn : x.2[q] ≠ y.2[q] := fun h => hxy (List.ext_getElem (HN.out.2.2.1.trans HN.out.2.1.symm) fun i h1 h2 => by
                    by_cases hi : i = q
                    · subst hi; exact h.symm
                    · exact (HN.out.2.2.2.2 i h2 h1 hi).symm)
                  have HQN := Lib.hid hqn
                  have HD5 := Lib.hid (HA.out hqy)
                  clear hxy hqn
                  have HX3 := Lib.hid rx
                  have HY3 := Lib.hid ry
                  clear rx ry
                  go_wp2_with fail
                  refine (one_at x.2 y.2 q Ax Ay cx cy _ HX3.out HY3.out (by have := HN.out.2.1; omega) (HN.out.2.2.1.trans HN.out.2.1.symm) hqx HN.out.2.2.2.2 (fun _ _ => HQN.out)).mono ?_
                  rintro e U2 ⟨rfl, hb⟩
                  have kf := kf.next hb
                  have kx := kx.next hb
                  have ky := ky.next hb
                  have rx := HX3.out.next hb
                  have ry := HY3.out.next hb
                  have HBR4 := Lib.hid (bt hb HBR3.out)
                  clear xf0 xf1 xx0 xx1 xy0 xy1 lx ly lf hb
                  obtain ⟨xf0, xf1, _, _⟩ := boxFacts kf
                  obtain ⟨xx0, xx1, _, _⟩ := boxFacts kx
                  obtain ⟨xy0, xy1, _, _⟩ := boxFacts ky
                  have lx := kx.lt
                  have ly := ky.lt
                  have lf := kf.lt
                  obtain ⟨a1, o1, rfl, g1, q1⟩ := rx.at_ hqx
                  obtain ⟨a2, o2, rfl, g2, q2⟩ := ry.at_ hqy
                  clear rx ry
                  rw [HD5.out] at q2
                  rw [show (((255 : UInt8).toNat : Nat) : Int) = 255 from rfl] at q2
                  have hqq := HQ.out
                  have hqm := HN.out.1
                  have z6 : IntKind.i64.wrap (k * m.1) = k * m.1 := IntWalk.i64_in _ (by omega)
                  have zb1 : -1000 ≤ k * m.1 := by omega
                  have zb2 : k * m.1 ≤ 1000 := by omega
                  have zq : ((q : Int) != k * m.1 + (n : Int) - 1) = false := by simp; omega
                  have z3 : (0 : Int) ≤ (q : Int) := by omega
                  have z4 : (q : Int) < (x.2.length : Int) := by omega
                  have z5 : (q : Int) < (y.2.length : Int) := by omega
                  clear hqq hqm
                  go_wp2
                  go_roundw
                  case rel => exact ⟨n + 1, by go_num, by omega, by omega, HBR4.out⟩
                  case measure => simp [intOf]; omega
              · obtain ⟨U0, hU0⟩ : ∃ U, U = ((wr.alloc (.cells #[.int .i64 y.1, .slice Ay y.2.length cy] 24)).alloc (.cells #[.int .i64 x.1, .slice Ax x.2.length cx] 24)).drew := ⟨_, rfl⟩
                rw [← hU0]
                have ky : Bk U0 (wr.heap.size) 24 #[.int .i64 y.1, .slice Ay y.2.length cy] := by rw [hU0]; exact ((Bk.new _ _ _).alloc _).drew
                have kx : Bk U0 (wr.heap.size + 1) 24 #[.int .i64 x.1, .slice Ax x.2.length cx] := by rw [hU0]; exact bkOf (by simp [at?_alloc, at?_drew])
                have hbu : Below wr.heap.size wr U0 := by rw [hU0]; exact (al2 wr _ _).drew
                clear hU0
                obtain ⟨gx, hgx⟩ : ∃ g, g = wr.heap.size + 1 := ⟨_, rfl⟩
                rw [← hgx] at kx ⊢
                clear hgx
                obtain ⟨gy, hgy⟩ : ∃ g, g = wr.heap.size := ⟨_, rfl⟩
                rw [← hgy] at ky ⊢
                clear hgy
                have kf := KF3.out.next (bt hbu HBR.out)
                have rx := HX.out.next hbu
                have ry := HY.out.next hbu
                have HBR2 := Lib.hid (bt hbu HBR.out)
                have HX2 := Lib.hid rx
                have HY2 := Lib.hid ry
                clear rx ry hbu x0 x1 y0 y1 v0 v1 v2 v3 xf0 xf1 lf
                obtain ⟨xf0, xf1, _, _⟩ := boxFacts kf
                obtain ⟨xx0, xx1, _, _⟩ := boxFacts kx
                obtain ⟨xy0, xy1, _, _⟩ := boxFacts ky
                have lx := kx.lt
                have ly := ky.lt
                have lf := kf.lt
                have e1 : ((x.2.length : Int) != (m.2.length : Int)) = false := by simp [HN.out.2.1]
                have e2 : ((y.2.length : Int) != (m.2.length : Int)) = false := by simp [HN.out.2.2.1]
                go_wp2_with fail
                refine (Valid_lit true y.1 Ay y.2.length cy _ HN.out.2.2.2.1).mono ?_
                rintro e U1 ⟨rfl, hb⟩
                have kf := kf.next hb
                have kx := kx.next hb
                have ky := ky.next hb
                have rx := HX2.out.next hb
                have ry := HY2.out.next hb
                have HBR3 := Lib.hid (bt hb HBR2.out)
                clear xf0 xf1 xx0 xx1 xy0 xy1 lx ly lf hb
                obtain ⟨xf0, xf1, _, _⟩ := boxFacts kf
                obtain ⟨xx0, xx1, _, _⟩ := boxFacts kx
                obtain ⟨xy0, xy1, _, _⟩ := boxFacts ky
                have lx := kx.lt
                have ly := ky.lt
                have lf := kf.lt
                by_cases hxy : y.2 = x.2
                · have HXY := Lib.hid hxy
                  have HX3 := Lib.hid rx
                  have HY3 := Lib.hid ry
                  clear hxy rx ry
                  go_wp2_with fail
                  refine (one_eq x.2 y.2 Ax Ay cx cy _ HX3.out HY3.out (by have := HN.out.2.1; omega) HXY.out).mono ?_
                  rintro e U2 ⟨rfl, hb⟩
                  have HBR4 := Lib.hid (bt hb HBR3.out)
                  clear hb
                  go_wp2
                  go_roundw
                  case rel => exact ⟨n + 1, by go_num, by omega, by omega, HBR4.out⟩
                  case measure => simp [intOf]; omega
                · have hqx : q < x.2.length := by have := HN.out.1; have := HN.out.2.1; omega
                  have hqy : q < y.2.length := by have := HN.out.1; have := HN.out.2.2.1; omega
                  have hqn : x.2[q] ≠ y.2[q] := fun h => hxy (List.ext_getElem (HN.out.2.2.1.trans HN.out.2.1.symm) fun i h1 h2 => by
                    by_cases hi : i = q
                    · subst hi; exact h.symm
                    · exact (HN.out.2.2.2.2 i h2 h1 hi).symm)
                  have HQN := Lib.hid hqn
                  have HD5 := Lib.hid (HA.out hqy)
                  clear hxy hqn
                  have HX3 := Lib.hid rx
                  have HY3 := Lib.hid ry
                  clear rx ry
                  go_wp2_with fail
                  refine (one_at x.2 y.2 q Ax Ay cx cy _ HX3.out HY3.out (by have := HN.out.2.1; omega) (HN.out.2.2.1.trans HN.out.2.1.symm) hqx HN.out.2.2.2.2 (fun _ _ => HQN.out)).mono ?_
                  rintro e U2 ⟨rfl, hb⟩
                  have kf := kf.next hb
                  have kx := kx.next hb
                  have ky := ky.next hb
                  have rx := HX3.out.next hb
                  have ry := HY3.out.next hb
                  have HBR4 := Lib.hid (bt hb HBR3.out)
                  clear xf0 xf1 xx0 xx1 xy0 xy1 lx ly lf hb
                  obtain ⟨xf0, xf1, _, _⟩ := boxFacts kf
                  obtain ⟨xx0, xx1, _, _⟩ := boxFacts kx
                  obtain ⟨xy0, xy1, _, _⟩ := boxFacts ky
                  have lx := kx.lt
                  have ly := ky.lt
                  have lf := kf.lt
                  obtain ⟨a1, o1, rfl, g1, q1⟩ := rx.at_ hqx
                  obtain ⟨a2, o2, rfl, g2, q2⟩ := ry.at_ hqy
                  clear rx ry
                  rw [HD5.out] at q2
                  rw [show (((255 : UInt8).toNat : Nat) : Int) = 255 from rfl] at q2
                  have hqq := HQ.out
                  have hqm := HN.out.1
                  have z6 : IntKind.i64.wrap (k * m.1) = k * m.1 := IntWalk.i64_in _ (by omega)
                  have zb1 : -1000 ≤ k * m.1 := by omega
                  have zb2 : k * m.1 ≤ 1000 := by omega
                  have zq : ((q : Int) != k * m.1 + (n : Int) - 1) = false := by simp; omega
                  have z3 : (0 : Int) ≤ (q : Int) := by omega
                  have z4 : (q : Int) < (x.2.length : Int) := by omega
                  have z5 : (q : Int) < (y.2.length : Int) := by omega
                  clear hqq hqm
                  go_wp2
                  go_roundw
                  case rel => exact ⟨n + 1, by go_num, by omega, by omega, HBR4.out⟩
                  case measure => simp [intOf]; omega
            · have hge : ¬ n < (eraL m k).length := hlt
              have rf := H_rf3.out.next hbr
              have rl := H_r13.out.next hbr
              have HBR5 := Lib.hid hbr
              have HRF := Lib.hid rf
              have HRL := Lib.hid rl
              have HRE := Lib.hid r1
              clear hbr rf rl r1
              go_wp2
              have z1 : IntKind.i64.wrap ((ds.length : Int) + 1) = (ds.length : Int) + 1 := IntWalk.i64_in _ (by omega)
              by_cases hp : progE m p ds = 0
              · have ep : (progE m p ds != 0) = false := by simp [hp]
                have el : (((progL m p ds).length : Int) == (ds.length : Int) + 1) = true := by rw [progL_len hp]; simp
                obtain ⟨b1, o1, Ap, cp, rfl, _, s0, s1, s2, rs⟩ := HRL.out.at_ (i := 0) (by rw [progL_len hp]; omega)
                obtain ⟨x, hx⟩ : ∃ x, x = (progL m p ds)[0]'(by rw [progL_len hp]; omega) := ⟨_, rfl⟩
                rw [← hx] at s0 s1 s2 rs
                rw [progL_zero hp] at hx
                subst hx
                simp only [Nat.zero_mul, Nat.add_zero] at s0 s1
                have hpl1 : 0 < (progL x p ds).length := by rw [progL_len hp]; omega
                have HRS := Lib.hid rs
                clear hp rs
                by_cases he : eraE x k = 0
                · have ee : (eraE x k != 0) = false := by simp [he]
                  have em : (((eraL x k).length : Int) == x.1 + 1) = true := by rw [eraL_len he]; simp
                  have hM := (valid_iff _ _).1 (eraE_ok he).1
                  have z2 : IntKind.i64.wrap (x.1 + 1) = x.1 + 1 := IntWalk.i64_in _ (by omega)
                  have hel1 : 0 < (eraL x k).length := by have := eraL_len he; omega
                  obtain ⟨b3, o3, Ae, ce, rfl, _, t0, t1, t2, rt⟩ := HRE.out.at_ (i := 0) hel1
                  obtain ⟨y, hy⟩ : ∃ y, y = (eraL x k)[0]'hel1 := ⟨_, rfl⟩
                  rw [← hy] at t0 t1 t2 rt
                  rw [eraL_zero he] at hy
                  subst hy
                  simp only [Nat.zero_mul, Nat.add_zero] at t0 t1
                  have HRT := Lib.hid rt
                  clear he rt hM
                  have Rxf0 := cell_regrown xf0
                  have Rxf1 := cell_regrown xf1
                  have Rs0 := cell_regrown s0
                  have Rs1 := cell_regrown s1
                  have Rt0 := cell_regrown t0
                  have Rt1 := cell_regrown t1
                  have CP := fun (d : Nat) (os : Array Obj) => Calls.regrown_of (Same_same y Ap A cp c (grow (redrawn wr d) os) (HRS.out.next (below_regrown wr d os)) (HRF.out.next (below_regrown wr d os)) (by omega))
                  have CE := fun (d : Nat) (os : Array Obj) => Calls.regrown_of (Same_same y Ae A ce c (grow (redrawn wr d) os) (HRT.out.next (below_regrown wr d os)) (HRF.out.next (below_regrown wr d os)) (by omega))
                  refine wp_region_quiet_below (by kernel_rfl) (by kernel_rfl) ?_
                  repeat (first | go_big_quiet_step (first | (with_reducible exact CP _ _) | (with_reducible exact CE _ _)) | quiet_step (first | (with_reducible exact CP _ _) | (with_reducible exact CE _ _)))
                  refine wpQuiet_nil ?_
                  intro _ hw'
                  obtain ⟨⟨dq, osq⟩, hw''⟩ := hw'
                  subst hw''
                  obtain ⟨V9, hV9⟩ : ∃ V, V = grow (redrawn wr dq) osq := ⟨_, rfl⟩
                  have hbV9 : Below wr.heap.size wr V9 := by rw [hV9]; exact below_regrown _ _ _
                  rw [← hV9]
                  clear hV9
                  clear Rxf0
                  clear Rxf1
                  clear Rs0
                  clear Rs1
                  clear Rt0
                  clear Rt1
                  clear CP
                  clear CE
                  go_wp2
                  go_ret
                  exact ⟨rfl, bt hbV9 (bt HBR5.out (bt HBR2.out HBH.out))⟩
                · have ee : (eraE x k != 0) = true := by simp [he]
                  clear he
                  have Rxf0 := cell_regrown xf0
                  have Rxf1 := cell_regrown xf1
                  have Rs0 := cell_regrown s0
                  have Rs1 := cell_regrown s1
                  have CP := fun (d : Nat) (os : Array Obj) => Calls.regrown_of (Same_same x Ap A cp c (grow (redrawn wr d) os) (HRS.out.next (below_regrown wr d os)) (HRF.out.next (below_regrown wr d os)) (by omega))
                  refine wp_region_quiet_below (by kernel_rfl) (by kernel_rfl) ?_
                  repeat (first | go_big_quiet_step (first | (with_reducible exact CP _ _)) | quiet_step (first | (with_reducible exact CP _ _)))
                  refine wpQuiet_nil ?_
                  intro _ hw'
                  obtain ⟨⟨dq, osq⟩, hw''⟩ := hw'
                  subst hw''
                  obtain ⟨V9, hV9⟩ : ∃ V, V = grow (redrawn wr dq) osq := ⟨_, rfl⟩
                  have hbV9 : Below wr.heap.size wr V9 := by rw [hV9]; exact below_regrown _ _ _
                  rw [← hV9]
                  clear hV9
                  clear Rxf0
                  clear Rxf1
                  clear Rs0
                  clear Rs1
                  clear CP
                  go_wp2
                  go_ret
                  exact ⟨rfl, bt hbV9 (bt HBR5.out (bt HBR2.out HBH.out))⟩
              · have ep : (progE m p ds != 0) = true := by simp [hp]
                clear hp
                by_cases he : eraE m k = 0
                · have ee : (eraE m k != 0) = false := by simp [he]
                  have em : (((eraL m k).length : Int) == m.1 + 1) = true := by rw [eraL_len he]; simp
                  have hM := (valid_iff _ _).1 (eraE_ok he).1
                  have z2 : IntKind.i64.wrap (m.1 + 1) = m.1 + 1 := IntWalk.i64_in _ (by omega)
                  have hel1 : 0 < (eraL m k).length := by have := eraL_len he; omega
                  obtain ⟨b3, o3, Ae, ce, rfl, _, t0, t1, t2, rt⟩ := HRE.out.at_ (i := 0) hel1
                  obtain ⟨y, hy⟩ : ∃ y, y = (eraL m k)[0]'hel1 := ⟨_, rfl⟩
                  rw [← hy] at t0 t1 t2 rt
                  rw [eraL_zero he] at hy
                  subst hy
                  simp only [Nat.zero_mul, Nat.add_zero] at t0 t1
                  have HRT := Lib.hid rt
                  clear he rt hM
                  have Rxf0 := cell_regrown xf0
                  have Rxf1 := cell_regrown xf1
                  have Rt0 := cell_regrown t0
                  have Rt1 := cell_regrown t1
                  have CE := fun (d : Nat) (os : Array Obj) => Calls.regrown_of (Same_same y Ae A ce c (grow (redrawn wr d) os) (HRT.out.next (below_regrown wr d os)) (HRF.out.next (below_regrown wr d os)) (by omega))
                  refine wp_region_quiet_below (by kernel_rfl) (by kernel_rfl) ?_
                  repeat (first | go_big_quiet_step (first | (with_reducible exact CE _ _)) | quiet_step (first | (with_reducible exact CE _ _)))
                  refine wpQuiet_nil ?_
                  intro _ hw'
                  obtain ⟨⟨dq, osq⟩, hw''⟩ := hw'
                  subst hw''
                  obtain ⟨V9, hV9⟩ : ∃ V, V = grow (redrawn wr dq) osq := ⟨_, rfl⟩
                  have hbV9 : Below wr.heap.size wr V9 := by rw [hV9]; exact below_regrown _ _ _
                  rw [← hV9]
                  clear hV9
                  clear Rxf0
                  clear Rxf1
                  clear Rt0
                  clear Rt1
                  clear CE
                  go_wp2
                  go_ret
                  exact ⟨rfl, bt hbV9 (bt HBR5.out (bt HBR2.out HBH.out))⟩
                · have ee : (eraE m k != 0) = true := by simp [he]
                  clear he
                  have Rxf0 := cell_regrown xf0
                  have Rxf1 := cell_regrown xf1
                  refine wp_region_quiet_below (by kernel_rfl) (by kernel_rfl) ?_
                  repeat (first | go_big_quiet_step (fail) | quiet_step (fail))
                  refine wpQuiet_nil ?_
                  intro _ hw'
                  obtain ⟨⟨dq, osq⟩, hw''⟩ := hw'
                  subst hw''
                  obtain ⟨V9, hV9⟩ : ∃ V, V = grow (redrawn wr dq) osq := ⟨_, rfl⟩
                  have hbV9 : Below wr.heap.size wr V9 := by rw [hV9]; exact below_regrown _ _ _
                  rw [← hV9]
                  clear hV9
                  clear Rxf0
                  clear Rxf1
                  go_wp2
                  go_ret
                  exact ⟨rfl, bt hbV9 (bt HBR5.out (bt HBR2.out HBH.out))⟩
    · have h2' : 300 < (ds.length : Int) := by omega
      have h1' : (m.2.length : Int) ≤ 300 := by omega
      have HB : Below w.heap.size w _ := al1 w (.cells #[.int .i64 m.1, .slice A m.2.length c] 24)
      have kf : Bk (w.alloc (.cells #[.int .i64 m.1, .slice A m.2.length c] 24)) w.heap.size 24 #[.int .i64 m.1, .slice A m.2.length c] := Bk.new _ _ _
      have rf := hA.next HB
      have rd := hD.next HB
      clear hA hD
      go_enter Try.func4, Try.ntmps4
      obtain ⟨xf0, xf1, _, _⟩ := boxFacts kf
      have lf := kf.lt
      have H_rf := Lib.hid rf
      clear rf
      have H_rd := Lib.hid rd
      clear rd
      go_wp2_with fail
      have rf := H_rf.out
      clear H_rf
      have rd := H_rd.out
      clear H_rd
      clear xf0 xf1 lf
      refine (head_any _).mono ?_
      rintro e V1 ⟨rfl, hb⟩
      have hB := hb
      have kf := kf.next hB
      have rf := rf.next hB
      have rd := rd.next hB
      have HB := bt hB HB
      clear hb hB
      obtain ⟨xf0, xf1, _, _⟩ := boxFacts kf
      have lf := kf.lt
      have H_rf := Lib.hid rf
      clear rf
      have H_rd := Lib.hid rd
      clear rd
      have HBH := Lib.hid HB
      clear HB
      go_wp2
      go_ret
      exact ⟨rfl, HBH.out⟩
  · have h1' : 300 < (m.2.length : Int) := by omega
    have HB : Below w.heap.size w _ := al1 w (.cells #[.int .i64 m.1, .slice A m.2.length c] 24)
    have kf : Bk (w.alloc (.cells #[.int .i64 m.1, .slice A m.2.length c] 24)) w.heap.size 24 #[.int .i64 m.1, .slice A m.2.length c] := Bk.new _ _ _
    have rf := hA.next HB
    have rd := hD.next HB
    clear hA hD
    go_enter Try.func4, Try.ntmps4
    obtain ⟨xf0, xf1, _, _⟩ := boxFacts kf
    have lf := kf.lt
    have H_rf := Lib.hid rf
    clear rf
    have H_rd := Lib.hid rd
    clear rd
    go_wp2_with fail
    have rf := H_rf.out
    clear H_rf
    have rd := H_rd.out
    clear H_rd
    clear xf0 xf1 lf
    refine (head_any _).mono ?_
    rintro e V1 ⟨rfl, hb⟩
    have hB := hb
    have kf := kf.next hB
    have rf := rf.next hB
    have rd := rd.next hB
    have HB := bt hB HB
    clear hb hB
    obtain ⟨xf0, xf1, _, _⟩ := boxFacts kf
    have lf := kf.lt
    have H_rf := Lib.hid rf
    clear rf
    have H_rd := Lib.hid rd
    clear rd
    have HBH := Lib.hid HB
    clear HB
    go_wp2
    go_ret
    exact ⟨rfl, HBH.out⟩
end Go.Proofs.Ytjfpnldijlbmiaa
