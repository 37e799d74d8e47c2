/- Contracts of package lease and of its reference: Expire, Grant; comparing. -/
import Derived.Test.YtneiaolkicgfkaaLa
import Derived.OwnWalk
import Derived.Maps.AppendAt
set_option linter.unusedVariables false
set_option linter.unusedSimpArgs false
namespace Go.Proofs.Ytneiaolkicgfkaa
open Go.RowKit Go.Sort

theorem info_lease : (Try.prog.info? 24).map (fun i => (i.zero, i.size, i.bytes)) = some (some (.agg #[.int .i64 0, .int .i64 0, .int .i64 0, .int .i64 0, .int .i64 0]), 5, 40) := by kernel_rfl
theorem news5 (W : World) (t : TypeId) (a b c d e : Value) : ∀ j u, [a, b, c, d, e][j]? = some u → (W.alloc (.cells #[a, b, c, d, e] t)).cell? ((⟨W.heap.size, 0, none⟩ : Addr).add j) = some u := by
  intro j u hj
  rw [add_mk, (Bk.new W t #[a, b, c, d, e]).cell]
  simpa using hj
section
variable {w w' : World} {base n sz : Nat} {e : TypeId} {v : Value} {xs : List Value}
theorem own_read (h : w.ownsRow base e sz v n xs) : ∃ A c, v = .slice A n c ∧ n ≤ c ∧ RdS w w.heap.size sz A n xs := by
  have h' := h
  obtain ⟨h1, h2⟩ := h
  rcases h2 with ⟨rfl, rfl⟩ | ⟨g, cap, cur, rfl, _, _, hc, _⟩
  · have : xs = [] := List.eq_nil_of_length_eq_zero (by omega)
    subst this
    exact ⟨none, 0, rfl, Nat.le_refl _, RdS.nil⟩
  · exact ⟨some ⟨g, 0, none⟩, cap, rfl, hc, RdS.of_own h'⟩
theorem own_next (h : w.ownsRow base e sz v n xs) (hb : Below w.heap.size w w') : w'.ownsRow base e sz v n xs := by
  obtain ⟨h1, h2⟩ := h
  refine ⟨h1, ?_⟩
  rcases h2 with h2 | ⟨g, cap, cur, rfl, hg, hh, r⟩
  · exact .inl h2
  · exact .inr ⟨g, cap, cur, rfl, hg, (hb.block g (Array.getElem?_eq_some_iff.1 hh).1).trans hh, r⟩
theorem own_below (h : w.ownsRow base e sz v n xs) {W : World} {o : Obj} {w1 : World} (hb : Below w.heap.size w W) (hg : (W.alloc o).grownBy w1 v.ownBlock) (hB : base ≤ w.heap.size) : Below base W w1 :=
  ((Below.refl base W).alloc (by have := hb.size; omega) o).trans (grownBy_below hg (by have := hb.size; simp; omega) fun k hk => (h.lt k hk).1)
end

def LPost (w : World) (l : List Lea) (er : Int) (e : Ending) (w' : World) : Prop :=
  ∃ A c, e = .returned (.tuple #[.slice A l.length c, .int .i64 er]) ∧ l.length ≤ c ∧ RdL w' w'.heap.size A l ∧ Below w.heap.size w w'

theorem filter_take_pos {l : List Lea} {k : Nat} {p : Lea → Bool} {x : Lea} (hk : k < l.length) (hx : x = l[k]) (hp : p x = true) : (l.take (k + 1)).filter p = (l.take k).filter p ++ [x] := by
  rw [List.take_succ_eq_append_getElem hk, List.filter_append, ← hx, List.filter_cons_of_pos hp]; rfl
theorem filter_take_neg {l : List Lea} {k : Nat} {p : Lea → Bool} {x : Lea} (hk : k < l.length) (hx : x = l[k]) (hp : p x = false) : (l.take (k + 1)).filter p = (l.take k).filter p := by
  rw [List.take_succ_eq_append_getElem hk, List.filter_append, ← hx, List.filter_cons_of_neg (by simp [hp])]; simp
theorem filter_take_le {l : List Lea} {k : Nat} {p : Lea → Bool} : ((l.take k).filter p).length ≤ k := Nat.le_trans (List.length_filter_le _ _) (List.length_take_le _ _)
theorem exp_in {l : List Lea} {tick : Int} (h1 : vlB l = true) (h2 : 0 ≤ tick) (h3 : tick ≤ 1100000) : expE l tick = 0 ∧ expL l tick = l.filter (lftB tick) := by simp [expE, expL, expB, h1, h2, h3]
theorem exp_out {l : List Lea} {tick : Int} (h : vlB l = false ∨ tick < 0 ∨ 1100000 < tick) : expE l tick = 1 ∧ expL l tick = [] := by
  have : expB l tick = false := by
    unfold expB
    rcases h with h | h | h
    · simp [h]
    · rw [show decide (0 ≤ tick ∧ tick ≤ 1100000) = false from by simp; omega]; simp
    · rw [show decide (0 ≤ tick ∧ tick ≤ 1100000) = false from by simp; omega]; simp
  simp [expE, expL, this]

set_option maxHeartbeats 2000000 in
theorem Expire_any (l : List Lea) (A : Option Addr) (c : Nat) (tick : Int) (w : World) (hA : RdL w w.heap.size A l) (hn : l.length ≤ 9223372036854775807) :
    Calls Try.prog 15 #[.slice A l.length c, .int .i64 tick] w (LPost w (expL l tick) (expE l tick)) := by
  obtain ⟨i0, hi, hz0, hz1, hz2⟩ := info_parts info_lease
  have HA := Lib.hid hA
  clear hA
  by_cases hv : vlB l = true
  · by_cases h01 : 0 ≤ tick ∧ tick ≤ 1100000
    · obtain ⟨h0, h1⟩ := h01
      obtain ⟨e1, e2⟩ := exp_in hv h0 h1
      rw [e1, e2]
      have h64 := ((vlB_at l).1 hv).1
      have HV := Lib.hid hv
      clear e1 e2
      have ht : decide (0 ≤ tick ∧ tick ≤ 1100000) = true := by simp; omega
      go_enter Try.func15, Try.ntmps15
      go_wp2_with fail
      refine (Valid_lit true l A c _ HV.out HA.out hn).mono ?_
      rintro e V ⟨rfl, hbV⟩
      clear hv
      go_wp2_with fail
      refine (inside_lit true tick 0 1100000 _ ht).mono ?_
      rintro e V' ⟨rfl, rfl⟩
      clear ht
      have HBV := Lib.hid hbV
      have hbase := hbV.size
      clear hbV
      go_wp2
      go_loopw [6, 19] (fun v i wr => ∃ k : Nat, i = .int .i64 k ∧ k ≤ l.length ∧ wr.ownsRow w.heap.size 24 5 v ((l.take k).filter (lftB tick)).length (lsc ((l.take k).filter (lftB tick))) ∧ Below w.heap.size w wr) (fun _ i _ => l.length - (intOf i).toNat)
      case atStart => exact ⟨0, rfl, Nat.zero_le _, World.ownsRow_nil _ _ _ _, HBV.out⟩
      case round =>
        obtain ⟨k, rfl, hk, hown, hb⟩ := hrel
        have HO := Lib.hid hown
        have HB := Lib.hid hb
        have hbase := hb.size
        clear hown hb
        by_cases hlt : k < l.length
        · obtain ⟨b, o, rfl, hbb, x0, x1, x2, x3, x4⟩ := (HA.out.next HB.out).at_ hlt
          obtain ⟨x, hx⟩ : ∃ y, y = l[k] := ⟨_, rfl⟩
          have h1x := vlB_one HV.out (List.getElem_mem hlt)
          rw [← hx] at x0 x1 x2 x3 x4 h1x
          have HX := Lib.hid hx
          have H1X := Lib.hid h1x
          clear hx h1x
          have hfl : ((l.take k).filter (lftB tick)).length ≤ 64 := Nat.le_trans filter_take_le (by omega)
          obtain ⟨ys, hys⟩ : ∃ ys, ys = ((l.take k).filter (lftB tick)) := ⟨_, rfl⟩
          rw [← hys] at hfl HO
          have HYS := Lib.hid hys
          clear hys
          have k1 : (0 : Int) ≤ (k : Int) := by omega
          have k2 : (k : Int) < (l.length : Int) := by omega
          go_wp2_with fail
          obtain ⟨U, hU⟩ : ∃ U, U = wr.alloc (.cells #[.int .i64 x.n, .int .i64 x.c, .int .i64 x.a, .int .i64 x.f, .int .i64 x.t] 24) := ⟨_, rfl⟩
          have kx : Bk U wr.heap.size 24 #[.int .i64 x.n, .int .i64 x.c, .int .i64 x.a, .int .i64 x.f, .int .i64 x.t] := by rw [hU]; exact Bk.new _ _ _
          have hbU : Below wr.heap.size wr U := by rw [hU]; exact al1 _ _
          rw [← hU]
          clear hU
          obtain ⟨gx, hgx⟩ : ∃ g, g = wr.heap.size := ⟨_, rfl⟩
          rw [← hgx] at kx ⊢
          clear hgx
          refine (end_any x _ H1X.out).mono ?_
          rintro e W2 ⟨rfl, hb2⟩
          obtain ⟨q0, q1, q2, q3, q4⟩ := box5 (kx.next hb2)
          have hlx := (kx.next hb2).lt
          have HB2 := Lib.hid (bt hb2 hbU)
          have hbase2 := (bt hb2 hbU).size
          clear kx hbU hb2 x0 x1 x2 x3 x4
          by_cases hle : tick < endI x
          · have hl : lftB tick x = true := by simp [lftB]; omega
            have HL := Lib.hid hl
            clear hl
            have HO2 := Lib.hid (own_next HO.out HB2.out)
            go_wp2_with (at_builtin; refine wpList_append_own _ rfl _ _ 22 rfl w.heap.size 24 i0 (.agg #[.int .i64 0, .int .i64 0, .int .i64 0, .int .i64 0, .int .i64 0]) 5 40 Try.underlying22 hi hz0 hz1 hz2 rfl (by decide) _ ys.length (lsc ys) rfl (HO2.out.alloc _) ⟨W2.heap.size, 0, none⟩ 1 1 [.int .i64 x.n, .int .i64 x.c, .int .i64 x.a, .int .i64 x.f, .int .i64 x.t] rfl rfl (news5 _ _ _ _ _ _ _) (by simp [Value.oneCell']) (by simp only [maxLen]; omega) (by omega) (by have := hbase; simp; omega) ?_; intro v' w1 hown' hgrow _)
            have HR : Hid (w1.ownsRow w.heap.size 24 5 v' ((l.take (k + 1)).filter (lftB tick)).length (lsc ((l.take (k + 1)).filter (lftB tick)))) := by
              show w1.ownsRow _ _ _ _ _ _
              rw [filter_take_pos hlt HX.out HL.out, ← HYS.out, lsc_snoc, List.length_append]; exact hown'
            have HG : Hid (Below w.heap.size w w1) := (bt HB2.out HB.out).trans (own_below HO2.out (Below.refl _ _) hgrow (by omega))
            clear hown' hgrow
            go_wp2
            go_roundw
            case rel => exact ⟨k + 1, by go_num, by omega, HR.out, HG.out⟩
            case measure => simp [intOf]; omega
          · have hl : lftB tick x = false := by simp [lftB]; omega
            have HL := Lib.hid hl
            clear hl
            go_wp2
            go_roundw
            case rel => exact ⟨k + 1, by go_num, by omega, by rw [filter_take_neg hlt HX.out HL.out, ← HYS.out]; exact own_next HO.out HB2.out, bt HB2.out HB.out⟩
            case measure => simp [intOf]; omega
        · obtain rfl : k = l.length := by omega
          have hown := HO.out
          rw [List.take_of_length_le (Nat.le_refl _)] at hown
          obtain ⟨A', c', rfl, hc', hr'⟩ := own_read hown
          have HR := Lib.hid hr'
          clear hr' hown HO
          go_wp2
          go_ret2
          exact ⟨A', c', rfl, hc', HR.out, HB.out⟩
    · obtain ⟨e1, e2⟩ := exp_out (l := l) (tick := tick) (by first | exact .inl hv | (right; omega))
      rw [e1, e2]
      clear e1 e2
      have ht : decide (0 ≤ tick ∧ tick ≤ 1100000) = false := by simp; omega
      go_enter Try.func15, Try.ntmps15
      go_wp2_with fail
      refine (Valid_lit true l A c _ hv HA.out hn).mono ?_
      rintro e V ⟨rfl, hbV⟩
      go_wp2_with fail
      refine (inside_lit false tick 0 1100000 _ ht).mono ?_
      rintro e V' ⟨rfl, rfl⟩
      go_wp2
      go_ret2
      exact ⟨none, 0, rfl, Nat.le_refl _, RdL.nil, hbV⟩
  · have hv : vlB l = false := by simpa using hv
    obtain ⟨e1, e2⟩ := exp_out (l := l) (tick := tick) (by first | exact .inl hv | (right; omega))
    rw [e1, e2]
    clear e1 e2
    go_enter Try.func15, Try.ntmps15
    go_wp2_with fail
    refine (Valid_lit false l A c _ hv HA.out hn).mono ?_
    rintro e V ⟨rfl, hbV⟩
    go_wp2
    go_ret2
    exact ⟨none, 0, rfl, Nat.le_refl _, RdL.nil, hbV⟩
set_option maxHeartbeats 2000000 in
theorem rExpire_any (l : List Lea) (A : Option Addr) (c : Nat) (tick : Int) (w : World) (hA : RdL w w.heap.size A l) (hn : l.length ≤ 1000000000) :
    Calls Try.prog 16 #[.slice A l.length c, .int .i64 tick] w (LPost w (expL l tick) (expE l tick)) := by
  obtain ⟨i0, hi, hz0, hz1, hz2⟩ := info_parts info_lease
  have HA := Lib.hid hA
  clear hA
  by_cases hv : vlB l = true
  · by_cases h01 : 0 ≤ tick ∧ tick ≤ 1100000
    · obtain ⟨h0, h1⟩ := h01
      obtain ⟨e1, e2⟩ := exp_in hv h0 h1
      rw [e1, e2]
      have h64 := ((vlB_at l).1 hv).1
      have HV := Lib.hid hv
      clear e1 e2
      have z0 : decide (tick < 0) = false := by simp; omega
      have z1 : decide (1100000 < tick) = false := by simp; omega
      go_enter Try.func16, Try.ntmps16
      go_wp2_with fail
      refine (rValid_lit true l A c _ HV.out HA.out hn).mono ?_
      rintro e V ⟨rfl, hbV⟩
      clear hv
      have HBV := Lib.hid hbV
      have hbase := hbV.size
      clear hbV
      go_wp2
      go_loopw [6, 7] (fun v i wr => ∃ k : Nat, i = .int .i64 k ∧ k ≤ l.length ∧ wr.ownsRow w.heap.size 24 5 v ((l.take k).filter (lftB tick)).length (lsc ((l.take k).filter (lftB tick))) ∧ Below w.heap.size w wr) (fun _ i _ => l.length - (intOf i).toNat)
      case atStart => exact ⟨0, rfl, Nat.zero_le _, World.ownsRow_nil _ _ _ _, HBV.out⟩
      case round =>
        obtain ⟨k, rfl, hk, hown, hb⟩ := hrel
        have HO := Lib.hid hown
        have HB := Lib.hid hb
        have hbase := hb.size
        clear hown hb
        by_cases hlt : k < l.length
        · obtain ⟨b, o, rfl, hbb, x0, x1, x2, x3, x4⟩ := (HA.out.next HB.out).at_ hlt
          obtain ⟨x, hx⟩ : ∃ y, y = l[k] := ⟨_, rfl⟩
          have h1x := vlB_one HV.out (List.getElem_mem hlt)
          rw [← hx] at x0 x1 x2 x3 x4 h1x
          have HX := Lib.hid hx
          have H1X := Lib.hid h1x
          clear hx h1x
          have hfl : ((l.take k).filter (lftB tick)).length ≤ 64 := Nat.le_trans filter_take_le (by omega)
          obtain ⟨ys, hys⟩ : ∃ ys, ys = ((l.take k).filter (lftB tick)) := ⟨_, rfl⟩
          rw [← hys] at hfl HO
          have HYS := Lib.hid hys
          clear hys
          have k1 : (0 : Int) ≤ (k : Int) := by omega
          have k2 : (k : Int) < (l.length : Int) := by omega
          go_wp2_with fail
          refine (rEnd_any x _ H1X.out).mono ?_
          rintro e W2 ⟨rfl, hb2⟩
          have HB2 := Lib.hid hb2
          have hbase2 := hb2.size
          have q0 := (hb2.cell (p := ⟨b, o + k * 5, none⟩) hbb).trans x0
          have q1 := (hb2.cell (p := ⟨b, o + k * 5 + 1, none⟩) hbb).trans x1
          have q2 := (hb2.cell (p := ⟨b, o + k * 5 + 2, none⟩) hbb).trans x2
          have q3 := (hb2.cell (p := ⟨b, o + k * 5 + 3, none⟩) hbb).trans x3
          have q4 := (hb2.cell (p := ⟨b, o + k * 5 + 4, none⟩) hbb).trans x4
          clear x0 x1 x2 x3 x4 hb2
          by_cases hle : tick < endI x
          · have hl : lftB tick x = true := by simp [lftB]; omega
            have HL := Lib.hid hl
            clear hl
            have HO2 := Lib.hid (own_next HO.out HB2.out)
            go_wp2_with (at_builtin; refine wpList_append_own _ rfl _ _ 22 rfl w.heap.size 24 i0 (.agg #[.int .i64 0, .int .i64 0, .int .i64 0, .int .i64 0, .int .i64 0]) 5 40 Try.underlying22 hi hz0 hz1 hz2 rfl (by decide) _ ys.length (lsc ys) rfl (HO2.out.alloc _) ⟨W2.heap.size, 0, none⟩ 1 1 [.int .i64 x.n, .int .i64 x.c, .int .i64 x.a, .int .i64 x.f, .int .i64 x.t] rfl rfl (news5 _ _ _ _ _ _ _) (by simp [Value.oneCell']) (by simp only [maxLen]; omega) (by omega) (by have := hbase; simp; omega) ?_; intro v' w1 hown' hgrow _)
            have HR : Hid (w1.ownsRow w.heap.size 24 5 v' ((l.take (k + 1)).filter (lftB tick)).length (lsc ((l.take (k + 1)).filter (lftB tick)))) := by
              show w1.ownsRow _ _ _ _ _ _
              rw [filter_take_pos hlt HX.out HL.out, ← HYS.out, lsc_snoc, List.length_append]; exact hown'
            have HG : Hid (Below w.heap.size w w1) := (bt HB2.out HB.out).trans (own_below HO2.out (Below.refl _ _) hgrow (by omega))
            clear hown' hgrow
            go_wp2
            go_roundw
            case rel => exact ⟨k + 1, by go_num, by omega, HR.out, HG.out⟩
            case measure => simp [intOf]; omega
          · have hl : lftB tick x = false := by simp [lftB]; omega
            have HL := Lib.hid hl
            clear hl
            go_wp2
            go_roundw
            case rel => exact ⟨k + 1, by go_num, by omega, by rw [filter_take_neg hlt HX.out HL.out, ← HYS.out]; exact own_next HO.out HB2.out, bt HB2.out HB.out⟩
            case measure => simp [intOf]; omega
        · obtain rfl : k = l.length := by omega
          have hown := HO.out
          rw [List.take_of_length_le (Nat.le_refl _)] at hown
          obtain ⟨A', c', rfl, hc', hr'⟩ := own_read hown
          have HR := Lib.hid hr'
          clear hr' hown HO
          go_wp2
          go_ret2
          exact ⟨A', c', rfl, hc', HR.out, HB.out⟩
    · obtain ⟨e1, e2⟩ := exp_out (l := l) (tick := tick) (by first | exact .inl hv | (right; omega))
      rw [e1, e2]
      clear e1 e2
      have z : decide (tick < 0) = true ∨ (decide (tick < 0) = false ∧ decide (1100000 < tick) = true) := by simp; omega
      go_enter Try.func16, Try.ntmps16
      go_wp2_with fail
      refine (rValid_lit true l A c _ hv HA.out hn).mono ?_
      rintro e V ⟨rfl, hbV⟩
      rcases z with z | ⟨z, z'⟩
      · go_wp2
        go_ret2
        exact ⟨none, 0, rfl, Nat.le_refl _, RdL.nil, hbV⟩
      · go_wp2
        go_ret2
        exact ⟨none, 0, rfl, Nat.le_refl _, RdL.nil, hbV⟩
  · have hv : vlB l = false := by simpa using hv
    obtain ⟨e1, e2⟩ := exp_out (l := l) (tick := tick) (by first | exact .inl hv | (right; omega))
    rw [e1, e2]
    clear e1 e2
    go_enter Try.func16, Try.ntmps16
    go_wp2_with fail
    refine (rValid_lit false l A c _ hv HA.out hn).mono ?_
    rintro e V ⟨rfl, hbV⟩
    go_wp2
    go_ret2
    exact ⟨none, 0, rfl, Nat.le_refl _, RdL.nil, hbV⟩
end Go.Proofs.Ytneiaolkicgfkaa
