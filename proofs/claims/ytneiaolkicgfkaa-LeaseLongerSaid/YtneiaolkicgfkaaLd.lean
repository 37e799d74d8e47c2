/- Contracts of package lease and of its reference: Grant. -/
import Derived.Test.YtneiaolkicgfkaaLc
import Derived.Test.YtneiaolkicgfkaaApp
import Derived.OwnWalk
set_option linter.unusedVariables false
set_option linter.unusedSimpArgs false
namespace Go.Proofs.Ytneiaolkicgfkaa
open Go.RowKit Go.Sort

theorem lsc_one (l : List Lea) : ∀ v ∈ lsc l, v.oneCell' = true := by
  intro v hv
  simp only [lsc, List.mem_flatMap, lcells] at hv
  obtain ⟨x, _, hx⟩ := hv
  simp only [List.mem_cons, List.not_mem_nil, or_false] at hx
  rcases hx with rfl | rfl | rfl | rfl | rfl <;> rfl
theorem rd_bk5 {w : World} {B g : Nat} {t : TypeId} {a b c d e : Value} (h : Bk w g t #[a, b, c, d, e]) (hg : g < B) : RdS w B 5 (some ⟨g, 0, none⟩) 1 [a, b, c, d, e] :=
  ⟨rfl, fun _ => ⟨g, 0, rfl, hg, fun j u hu => by rw [Nat.zero_add, h.cell j, ← hu]; simp⟩⟩
theorem gra_bad {l : List Lea} {x : Lea} (h : vlB l = false ∨ oneB x = false) : graE l x = 1 ∧ graL l x = [] := by
  have : graE l x = 1 := by unfold graE; rcases h with h | h <;> simp [h]
  simp [graL, this]
theorem gra_old {l : List Lea} {x : Lea} (h1 : vlB l = true) (h2 : oneB x = true) (h3 : 0 < l.length) (h4 : folB (l.getD (l.length - 1) l0) x = false) : graE l x = 12 ∧ graL l x = [] := by
  have : graE l x = 12 := by
    unfold graE
    rw [h1, h2, h4, show decide (0 < l.length) = true from by simpa using h3]; rfl
  simp [graL, this]
theorem gra_full {l : List Lea} {x : Lea} (h1 : vlB l = true) (h2 : oneB x = true) (h4 : 0 < l.length → folB (l.getD (l.length - 1) l0) x = true) (h5 : l.length = 64) : graE l x = 10 ∧ graL l x = [] := by
  have : graE l x = 10 := by
    unfold graE
    rw [h1, h2, h4 (by omega), h5]; rfl
  simp [graL, this]
theorem gra_ok {l : List Lea} {x : Lea} (h1 : vlB l = true) (h2 : oneB x = true) (h4 : 0 < l.length → folB (l.getD (l.length - 1) l0) x = true) (h5 : l.length ≠ 64) : graE l x = 0 ∧ graL l x = l ++ [x] := by
  have : graE l x = 0 := by
    unfold graE
    rw [h1, h2, if_pos (show (true && true) = true from rfl), if_neg ?_, if_neg h5]
    by_cases h : 0 < l.length
    · rw [h4 h]; simp
    · rw [decide_eq_false h]; simp
  simp [graL, this]

set_option maxHeartbeats 4000000 in
theorem rGrant_any (l : List Lea) (x : Lea) (A : Option Addr) (c : Nat) (w : World) (hA : RdL w w.heap.size A l) (hn : l.length ≤ 1000000000) :
    Calls Try.prog 12 #[.slice A l.length c, .agg #[.int .i64 x.n, .int .i64 x.c, .int .i64 x.a, .int .i64 x.f, .int .i64 x.t]] w (LPost w (graL l x) (graE l x)) := by
  obtain ⟨i0, hi, hz0, hz1, hz2⟩ := info_parts info_lease
  have HA := Lib.hid hA
  clear hA
  have kx0 : Bk (w.alloc (.cells #[.int .i64 x.n, .int .i64 x.c, .int .i64 x.a, .int .i64 x.f, .int .i64 x.t] 24)) w.heap.size 24 #[.int .i64 x.n, .int .i64 x.c, .int .i64 x.a, .int .i64 x.f, .int .i64 x.t] := Bk.new _ _ _
  by_cases hv : vlB l = true
  · have HV := Lib.hid hv
    clear hv
    by_cases ho : oneB x = true
    · have HO := Lib.hid ho
      clear ho
      by_cases h0 : 0 < l.length
      · obtain ⟨y, hy⟩ : ∃ y, y = l.getD (l.length - 1) l0 := ⟨_, rfl⟩
        have HY := Lib.hid hy
        clear hy
        by_cases hf : folB y x = true
        · have HF := Lib.hid hf
          clear hf
          by_cases h64 : l.length = 64
          · obtain ⟨e1, e2⟩ := gra_full HV.out HO.out (fun _ => HY.out ▸ HF.out) h64
            rw [e1, e2]
            clear e1 e2
            have d64 : ((l.length : Int) == 64) = true := by simp; omega
            clear h64
            go_enter Try.func12, Try.ntmps12
            go_wp2_with fail
            refine (rValid_lit true l A c _ HV.out (HA.out.next (al1 _ _)) hn).mono ?_
            rintro e V1 ⟨rfl, hb1⟩
            have kx := kx0.next hb1
            obtain ⟨y0, y1, y2, y3, y4⟩ := box5 kx
            have lx1 := kx.lt
            go_wp2_with fail
            refine (rOne_lit true x _ HO.out).mono ?_
            rintro e V2 ⟨rfl, hb2⟩
            clear y0 y1 y2 y3 y4 lx1
            have kx := kx.next hb2
            obtain ⟨y0, y1, y2, y3, y4⟩ := box5 kx
            have lx1 := kx.lt
            have HB := Lib.hid (bt hb2 (bt hb1 (al1 w _)))
            have HL := Lib.hid (HA.out.next HB.out)
            clear hb1 hb2
            obtain ⟨b, o, rfl, _, z0, z1, z2, z3, z4⟩ := HL.out.at_ (i := l.length - 1) (by omega)
            rw [← getD_of (by omega : l.length - 1 < l.length), ← HY.out] at z0 z1 z2 z3 z4
            obtain ⟨k', hk'⟩ : ∃ k', k' = l.length - 1 := ⟨_, rfl⟩
            rw [← hk'] at z0 z1 z2 z3 z4
            have j0 : (l.length : Int) - 1 = (k' : Int) := by omega
            have j1 : (0 : Int) ≤ (k' : Int) := by omega
            have j2 : (k' : Int) < (l.length : Int) := by omega
            have j3 : IntKind.i64.wrap ((l.length : Int) - 1) = (k' : Int) := by rw [IntWalk.i64_in _ (by omega)]; omega
            have j4 : decide ((0 : Int) < (l.length : Int)) = true := by simp; omega
            have j6 : decide (0 < l.length) = true := by simp; omega
            clear hk'
            have d1 : decide (x.n ≤ y.n) = false := by have := (folB_iff _ _).1 HF.out; simp; omega
            have d2 : decide (x.f < y.f) = false := by have := (folB_iff _ _).1 HF.out; simp; omega
            go_wp2
            go_quiet (fail)
            obtain ⟨V, hVV⟩ : ∃ V, V = V2.drewN nq := ⟨_, rfl⟩
            rw [← hVV]
            have hbV : Below V2.heap.size V2 V := by rw [hVV]; exact belowDrew (Below.refl _ _) _
            clear hVV
            have HB := Lib.hid (bt hbV HB.out)
            have HL := Lib.hid (HL.out.next hbV)
            have kx := kx.next hbV
            clear y0 y1 y2 y3 y4 z0 z1 z2 z3 z4 lx1 hbV
            obtain ⟨y0, y1, y2, y3, y4⟩ := box5 kx
            have lx1 := kx.lt
            go_wp2
            go_ret2
            exact ⟨none, 0, rfl, Nat.le_refl _, RdL.nil, HB.out⟩
          · obtain ⟨e1, e2⟩ := gra_ok HV.out HO.out (fun _ => HY.out ▸ HF.out) h64
            rw [e1, e2]
            clear e1 e2
            have d64 : ((l.length : Int) == 64) = false := by simp; omega
            have l64 : l.length ≤ 64 := ((vlB_at l).1 HV.out).1
            clear h64
            go_enter Try.func12, Try.ntmps12
            go_wp2_with fail
            refine (rValid_lit true l A c _ HV.out (HA.out.next (al1 _ _)) hn).mono ?_
            rintro e V1 ⟨rfl, hb1⟩
            have kx := kx0.next hb1
            obtain ⟨y0, y1, y2, y3, y4⟩ := box5 kx
            have lx1 := kx.lt
            go_wp2_with fail
            refine (rOne_lit true x _ HO.out).mono ?_
            rintro e V2 ⟨rfl, hb2⟩
            clear y0 y1 y2 y3 y4 lx1
            have kx := kx.next hb2
            obtain ⟨y0, y1, y2, y3, y4⟩ := box5 kx
            have lx1 := kx.lt
            have HB := Lib.hid (bt hb2 (bt hb1 (al1 w _)))
            have HL := Lib.hid (HA.out.next HB.out)
            clear hb1 hb2
            obtain ⟨b, o, rfl, _, z0, z1, z2, z3, z4⟩ := HL.out.at_ (i := l.length - 1) (by omega)
            rw [← getD_of (by omega : l.length - 1 < l.length), ← HY.out] at z0 z1 z2 z3 z4
            obtain ⟨k', hk'⟩ : ∃ k', k' = l.length - 1 := ⟨_, rfl⟩
            rw [← hk'] at z0 z1 z2 z3 z4
            have j0 : (l.length : Int) - 1 = (k' : Int) := by omega
            have j1 : (0 : Int) ≤ (k' : Int) := by omega
            have j2 : (k' : Int) < (l.length : Int) := by omega
            have j3 : IntKind.i64.wrap ((l.length : Int) - 1) = (k' : Int) := by rw [IntWalk.i64_in _ (by omega)]; omega
            have j4 : decide ((0 : Int) < (l.length : Int)) = true := by simp; omega
            have j6 : decide (0 < l.length) = true := by simp; omega
            clear hk'
            have d1 : decide (x.n ≤ y.n) = false := by have := (folB_iff _ _).1 HF.out; simp; omega
            have d2 : decide (x.f < y.f) = false := by have := (folB_iff _ _).1 HF.out; simp; omega
            go_wp2
            go_quiet (fail)
            obtain ⟨V, hVV⟩ : ∃ V, V = V2.drewN nq := ⟨_, rfl⟩
            rw [← hVV]
            have hbV : Below V2.heap.size V2 V := by rw [hVV]; exact belowDrew (Below.refl _ _) _
            clear hVV
            have HB := Lib.hid (bt hbV HB.out)
            have HL := Lib.hid (HL.out.next hbV)
            have kx := kx.next hbV
            clear y0 y1 y2 y3 y4 z0 z1 z2 z3 z4 lx1 hbV
            obtain ⟨y0, y1, y2, y3, y4⟩ := box5 kx
            have lx1 := kx.lt
            have lsz : w.heap.size + 1 ≤ V.heap.size := lx1
            go_wp2
            go_loopw [7, 8] (fun v i wr => ∃ k : Nat, i = .int .i64 k ∧ k ≤ l.length ∧ wr.ownsRow (w.heap.size + 1) 24 5 v k (lsc (l.take k)) ∧ Bk wr w.heap.size 24 #[.int .i64 x.n, .int .i64 x.c, .int .i64 x.a, .int .i64 x.f, .int .i64 x.t] ∧ Below w.heap.size w wr) (fun _ i _ => l.length - (intOf i).toNat)
            case atStart => exact ⟨0, rfl, Nat.zero_le _, World.ownsRow_nil _ _ _ _, kx, HB.out⟩
            case round =>
              obtain ⟨k, rfl, hk, hown, kx, hb⟩ := hrel
              have lszr : w.heap.size + 1 ≤ wr.heap.size := kx.lt
              have HO2 := Lib.hid hown
              have HB := Lib.hid hb
              have HKX := Lib.hid kx
              clear hown hb y0 y1 y2 y3 y4 lx1 HL
              by_cases hlt : k < l.length
              · obtain ⟨b', o', hab, hbb, x0, x1, x2, x3, x4⟩ := (HA.out.next HB.out).at_ hlt
                obtain ⟨rfl, rfl⟩ : b = b' ∧ o = o' := by simpa using hab
                obtain ⟨u, hu⟩ : ∃ y, y = l[k] := ⟨_, rfl⟩
                rw [← hu] at x0 x1 x2 x3 x4
                have HU := Lib.hid hu
                clear hu kx hab
                have k1 : (0 : Int) ≤ (k : Int) := by omega
                have k2 : (k : Int) < (l.length : Int) := by omega
                go_wp2_with (at_builtin; refine wpList_append_own _ rfl _ _ 22 rfl (w.heap.size + 1) 24 i0 (.agg #[.int .i64 0, .int .i64 0, .int .i64 0, .int .i64 0, .int .i64 0]) 5 40 Try.underlying22 hi hz0 hz1 hz2 rfl (by decide) _ k (lsc (l.take k)) rfl (HO2.out.alloc _) ⟨wr.heap.size, 0, none⟩ 1 1 [.int .i64 u.n, .int .i64 u.c, .int .i64 u.a, .int .i64 u.f, .int .i64 u.t] rfl rfl (news5 _ _ _ _ _ _ _) (by simp [Value.oneCell']) (by simp only [maxLen]; omega) (by omega) (by simp; omega) ?_; intro v' w1 hown' hgrow _)
                have hob := own_below HO2.out (Below.refl _ _) hgrow (by omega)
                have HR : Hid (w1.ownsRow (w.heap.size + 1) 24 5 v' (k + 1) (lsc (l.take (k + 1)))) := by
                  show w1.ownsRow _ _ _ _ _ _
                  rw [List.take_succ_eq_append_getElem hlt, lsc_snoc, ← HU.out]; exact hown'
                have HK1 := Lib.hid (HKX.out.below hob (by omega))
                have HG : Hid (Below w.heap.size w w1) := HB.out.trans (hob.mono (by omega))
                clear hown' hgrow hob
                go_wp2
                go_roundw
                case rel => exact ⟨k + 1, by go_num, by omega, HR.out, HK1.out, HG.out⟩
                case measure => simp [intOf]; omega
              · obtain rfl : k = l.length := by omega
                have hown := HO2.out
                rw [List.take_of_length_le (Nat.le_refl _)] at hown
                have HO3 := Lib.hid hown
                clear hown HO2
                obtain ⟨y0, y1, y2, y3, y4⟩ := box5 kx
                have lx1 := kx.lt
                clear kx
                go_wp2_with (at_builtin; refine wpList_append_own _ rfl _ _ 22 rfl (w.heap.size + 1) 24 i0 (.agg #[.int .i64 0, .int .i64 0, .int .i64 0, .int .i64 0, .int .i64 0]) 5 40 Try.underlying22 hi hz0 hz1 hz2 rfl (by decide) _ l.length (lsc l) rfl (HO3.out.alloc _) ⟨wr.heap.size, 0, none⟩ 1 1 [.int .i64 x.n, .int .i64 x.c, .int .i64 x.a, .int .i64 x.f, .int .i64 x.t] rfl rfl (news5 _ _ _ _ _ _ _) (by simp [Value.oneCell']) (by simp only [maxLen]; omega) (by omega) (by simp; omega) ?_; intro v' w1 hown' hgrow _)
                have hfin := own_read hown'
                obtain ⟨A', c', rfl, hc', hr'⟩ := hfin
                have HR : Hid (RdL w1 w1.heap.size A' (l ++ [x])) := by
                  show RdS _ _ _ _ _ _
                  rw [lsc_snoc, List.length_append]; exact hr'
                have HG : Hid (Below w.heap.size w w1) := HB.out.trans ((own_below HO3.out (Below.refl _ _) hgrow (by omega)).mono (by omega))
                clear hown' hr' hgrow
                go_wp2
                go_ret2
                exact ⟨A', c', by simp, by simpa using hc', HR.out, HG.out⟩
        · have hf : folB y x = false := by simpa using hf
          obtain ⟨e1, e2⟩ := gra_old HV.out HO.out h0 (HY.out ▸ hf)
          rw [e1, e2]
          clear e1 e2
          have HF := Lib.hid hf
          clear hf
          rcases (by have := HF.out; simp only [folB, decide_eq_false_iff_not] at this; omega : x.n ≤ y.n ∨ (y.n < x.n ∧ x.f < y.f)) with hc | ⟨hc, hc'⟩
          · have d1 : decide (x.n ≤ y.n) = true := by simp; omega
            go_enter Try.func12, Try.ntmps12
            go_wp2_with fail
            refine (rValid_lit true l A c _ HV.out (HA.out.next (al1 _ _)) hn).mono ?_
            rintro e V1 ⟨rfl, hb1⟩
            have kx := kx0.next hb1
            obtain ⟨y0, y1, y2, y3, y4⟩ := box5 kx
            have lx1 := kx.lt
            go_wp2_with fail
            refine (rOne_lit true x _ HO.out).mono ?_
            rintro e V2 ⟨rfl, hb2⟩
            clear y0 y1 y2 y3 y4 lx1
            have kx := kx.next hb2
            obtain ⟨y0, y1, y2, y3, y4⟩ := box5 kx
            have lx1 := kx.lt
            have HB := Lib.hid (bt hb2 (bt hb1 (al1 w _)))
            have HL := Lib.hid (HA.out.next HB.out)
            clear hb1 hb2
            obtain ⟨b, o, rfl, _, z0, z1, z2, z3, z4⟩ := HL.out.at_ (i := l.length - 1) (by omega)
            rw [← getD_of (by omega : l.length - 1 < l.length), ← HY.out] at z0 z1 z2 z3 z4
            obtain ⟨k', hk'⟩ : ∃ k', k' = l.length - 1 := ⟨_, rfl⟩
            rw [← hk'] at z0 z1 z2 z3 z4
            have j0 : (l.length : Int) - 1 = (k' : Int) := by omega
            have j1 : (0 : Int) ≤ (k' : Int) := by omega
            have j2 : (k' : Int) < (l.length : Int) := by omega
            have j3 : IntKind.i64.wrap ((l.length : Int) - 1) = (k' : Int) := by rw [IntWalk.i64_in _ (by omega)]; omega
            have j4 : decide ((0 : Int) < (l.length : Int)) = true := by simp; omega
            have j6 : decide (0 < l.length) = true := by simp; omega
            clear hk'
            go_wp2
            go_quiet (fail)
            obtain ⟨V, hVV⟩ : ∃ V, V = V2.drewN nq := ⟨_, rfl⟩
            rw [← hVV]
            have hbV : Below V2.heap.size V2 V := by rw [hVV]; exact belowDrew (Below.refl _ _) _
            clear hVV
            have HB := Lib.hid (bt hbV HB.out)
            have HL := Lib.hid (HL.out.next hbV)
            have kx := kx.next hbV
            clear y0 y1 y2 y3 y4 z0 z1 z2 z3 z4 lx1 hbV
            obtain ⟨y0, y1, y2, y3, y4⟩ := box5 kx
            have lx1 := kx.lt
            go_wp2
            go_ret2
            exact ⟨none, 0, rfl, Nat.le_refl _, RdL.nil, HB.out⟩
          · have d1 : decide (x.n ≤ y.n) = false := by simp; omega
            have d2 : decide (x.f < y.f) = true := by simp; omega
            go_enter Try.func12, Try.ntmps12
            go_wp2_with fail
            refine (rValid_lit true l A c _ HV.out (HA.out.next (al1 _ _)) hn).mono ?_
            rintro e V1 ⟨rfl, hb1⟩
            have kx := kx0.next hb1
            obtain ⟨y0, y1, y2, y3, y4⟩ := box5 kx
            have lx1 := kx.lt
            go_wp2_with fail
            refine (rOne_lit true x _ HO.out).mono ?_
            rintro e V2 ⟨rfl, hb2⟩
            clear y0 y1 y2 y3 y4 lx1
            have kx := kx.next hb2
            obtain ⟨y0, y1, y2, y3, y4⟩ := box5 kx
            have lx1 := kx.lt
            have HB := Lib.hid (bt hb2 (bt hb1 (al1 w _)))
            have HL := Lib.hid (HA.out.next HB.out)
            clear hb1 hb2
            obtain ⟨b, o, rfl, _, z0, z1, z2, z3, z4⟩ := HL.out.at_ (i := l.length - 1) (by omega)
            rw [← getD_of (by omega : l.length - 1 < l.length), ← HY.out] at z0 z1 z2 z3 z4
            obtain ⟨k', hk'⟩ : ∃ k', k' = l.length - 1 := ⟨_, rfl⟩
            rw [← hk'] at z0 z1 z2 z3 z4
            have j0 : (l.length : Int) - 1 = (k' : Int) := by omega
            have j1 : (0 : Int) ≤ (k' : Int) := by omega
            have j2 : (k' : Int) < (l.length : Int) := by omega
            have j3 : IntKind.i64.wrap ((l.length : Int) - 1) = (k' : Int) := by rw [IntWalk.i64_in _ (by omega)]; omega
            have j4 : decide ((0 : Int) < (l.length : Int)) = true := by simp; omega
            have j6 : decide (0 < l.length) = true := by simp; omega
            clear hk'
            go_wp2
            go_quiet (fail)
            obtain ⟨V, hVV⟩ : ∃ V, V = V2.drewN nq := ⟨_, rfl⟩
            rw [← hVV]
            have hbV : Below V2.heap.size V2 V := by rw [hVV]; exact belowDrew (Below.refl _ _) _
            clear hVV
            have HB := Lib.hid (bt hbV HB.out)
            have HL := Lib.hid (HL.out.next hbV)
            have kx := kx.next hbV
            clear y0 y1 y2 y3 y4 z0 z1 z2 z3 z4 lx1 hbV
            obtain ⟨y0, y1, y2, y3, y4⟩ := box5 kx
            have lx1 := kx.lt
            go_wp2
            go_ret2
            exact ⟨none, 0, rfl, Nat.le_refl _, RdL.nil, HB.out⟩
      · by_cases h64 : l.length = 64
        · obtain ⟨e1, e2⟩ := gra_full HV.out HO.out (fun h => absurd h (by omega)) h64
          rw [e1, e2]
          clear e1 e2
          have d64 : ((l.length : Int) == 64) = true := by simp; omega
          clear h64
          go_enter Try.func12, Try.ntmps12
          go_wp2_with fail
          refine (rValid_lit true l A c _ HV.out (HA.out.next (al1 _ _)) hn).mono ?_
          rintro e V1 ⟨rfl, hb1⟩
          have kx := kx0.next hb1
          obtain ⟨y0, y1, y2, y3, y4⟩ := box5 kx
          have lx1 := kx.lt
          go_wp2_with fail
          refine (rOne_lit true x _ HO.out).mono ?_
          rintro e V2 ⟨rfl, hb2⟩
          clear y0 y1 y2 y3 y4 lx1
          have kx := kx.next hb2
          obtain ⟨y0, y1, y2, y3, y4⟩ := box5 kx
          have lx1 := kx.lt
          have HB := Lib.hid (bt hb2 (bt hb1 (al1 w _)))
          have HL := Lib.hid (HA.out.next HB.out)
          clear hb1 hb2
          have j4 : decide ((0 : Int) < (l.length : Int)) = false := decide_eq_false (by omega)
          have j6 : decide (0 < l.length) = false := decide_eq_false h0
          go_wp2
          go_quiet (fail)
          obtain ⟨V, hVV⟩ : ∃ V, V = V2.drewN nq := ⟨_, rfl⟩
          rw [← hVV]
          have hbV : Below V2.heap.size V2 V := by rw [hVV]; exact belowDrew (Below.refl _ _) _
          clear hVV
          have HB := Lib.hid (bt hbV HB.out)
          have HL := Lib.hid (HL.out.next hbV)
          have kx := kx.next hbV
          clear y0 y1 y2 y3 y4 lx1 hbV
          obtain ⟨y0, y1, y2, y3, y4⟩ := box5 kx
          have lx1 := kx.lt
          go_wp2
          go_ret2
          exact ⟨none, 0, rfl, Nat.le_refl _, RdL.nil, HB.out⟩
        · obtain ⟨e1, e2⟩ := gra_ok HV.out HO.out (fun h => absurd h (by omega)) h64
          rw [e1, e2]
          clear e1 e2
          have d64 : ((l.length : Int) == 64) = false := by simp; omega
          have l64 : l.length ≤ 64 := ((vlB_at l).1 HV.out).1
          clear h64
          go_enter Try.func12, Try.ntmps12
          go_wp2_with fail
          refine (rValid_lit true l A c _ HV.out (HA.out.next (al1 _ _)) hn).mono ?_
          rintro e V1 ⟨rfl, hb1⟩
          have kx := kx0.next hb1
          obtain ⟨y0, y1, y2, y3, y4⟩ := box5 kx
          have lx1 := kx.lt
          go_wp2_with fail
          refine (rOne_lit true x _ HO.out).mono ?_
          rintro e V2 ⟨rfl, hb2⟩
          clear y0 y1 y2 y3 y4 lx1
          have kx := kx.next hb2
          obtain ⟨y0, y1, y2, y3, y4⟩ := box5 kx
          have lx1 := kx.lt
          have HB := Lib.hid (bt hb2 (bt hb1 (al1 w _)))
          have HL := Lib.hid (HA.out.next HB.out)
          clear hb1 hb2
          have j4 : decide ((0 : Int) < (l.length : Int)) = false := decide_eq_false (by omega)
          have j6 : decide (0 < l.length) = false := decide_eq_false h0
          go_wp2
          go_quiet (fail)
          obtain ⟨V, hVV⟩ : ∃ V, V = V2.drewN nq := ⟨_, rfl⟩
          rw [← hVV]
          have hbV : Below V2.heap.size V2 V := by rw [hVV]; exact belowDrew (Below.refl _ _) _
          clear hVV
          have HB := Lib.hid (bt hbV HB.out)
          have HL := Lib.hid (HL.out.next hbV)
          have kx := kx.next hbV
          clear y0 y1 y2 y3 y4 lx1 hbV
          obtain ⟨y0, y1, y2, y3, y4⟩ := box5 kx
          have lx1 := kx.lt
          have lsz : w.heap.size + 1 ≤ V.heap.size := lx1
          go_wp2
          go_loopw [7, 8] (fun v i wr => ∃ k : Nat, i = .int .i64 k ∧ k ≤ l.length ∧ wr.ownsRow (w.heap.size + 1) 24 5 v k (lsc (l.take k)) ∧ Bk wr w.heap.size 24 #[.int .i64 x.n, .int .i64 x.c, .int .i64 x.a, .int .i64 x.f, .int .i64 x.t] ∧ Below w.heap.size w wr) (fun _ i _ => l.length - (intOf i).toNat)
          case atStart => exact ⟨0, rfl, Nat.zero_le _, World.ownsRow_nil _ _ _ _, kx, HB.out⟩
          case round =>
            obtain ⟨k, rfl, hk, hown, kx, hb⟩ := hrel
            have lszr : w.heap.size + 1 ≤ wr.heap.size := kx.lt
            have HO2 := Lib.hid hown
            have HB := Lib.hid hb
            have HKX := Lib.hid kx
            clear hown hb y0 y1 y2 y3 y4 lx1 HL
            by_cases hlt : k < l.length
            · obtain ⟨b', o', hab, hbb, x0, x1, x2, x3, x4⟩ := (HA.out.next HB.out).at_ hlt
              exact absurd hlt (by omega)
            · obtain rfl : k = l.length := by omega
              have hown := HO2.out
              rw [List.take_of_length_le (Nat.le_refl _)] at hown
              have HO3 := Lib.hid hown
              clear hown HO2
              obtain ⟨y0, y1, y2, y3, y4⟩ := box5 kx
              have lx1 := kx.lt
              clear kx
              go_wp2_with (at_builtin; refine wpList_append_own _ rfl _ _ 22 rfl (w.heap.size + 1) 24 i0 (.agg #[.int .i64 0, .int .i64 0, .int .i64 0, .int .i64 0, .int .i64 0]) 5 40 Try.underlying22 hi hz0 hz1 hz2 rfl (by decide) _ l.length (lsc l) rfl (HO3.out.alloc _) ⟨wr.heap.size, 0, none⟩ 1 1 [.int .i64 x.n, .int .i64 x.c, .int .i64 x.a, .int .i64 x.f, .int .i64 x.t] rfl rfl (news5 _ _ _ _ _ _ _) (by simp [Value.oneCell']) (by simp only [maxLen]; omega) (by omega) (by simp; omega) ?_; intro v' w1 hown' hgrow _)
              have hfin := own_read hown'
              obtain ⟨A', c', rfl, hc', hr'⟩ := hfin
              have HR : Hid (RdL w1 w1.heap.size A' (l ++ [x])) := by
                show RdS _ _ _ _ _ _
                rw [lsc_snoc, List.length_append]; exact hr'
              have HG : Hid (Below w.heap.size w w1) := HB.out.trans ((own_below HO3.out (Below.refl _ _) hgrow (by omega)).mono (by omega))
              clear hown' hr' hgrow
              go_wp2
              go_ret2
              exact ⟨A', c', by simp, by simpa using hc', HR.out, HG.out⟩
    · have ho : oneB x = false := by simpa using ho
      obtain ⟨e1, e2⟩ := gra_bad (l := l) (x := x) (.inr ho)
      rw [e1, e2]
      clear e1 e2
      have HO := Lib.hid ho
      clear ho
      go_enter Try.func12, Try.ntmps12
      go_wp2_with fail
      refine (rValid_lit true l A c _ HV.out (HA.out.next (al1 _ _)) hn).mono ?_
      rintro e V1 ⟨rfl, hb1⟩
      have kx := kx0.next hb1
      obtain ⟨y0, y1, y2, y3, y4⟩ := box5 kx
      have lx1 := kx.lt
      go_wp2_with fail
      refine (rOne_lit false x _ HO.out).mono ?_
      rintro e V2 ⟨rfl, hb2⟩
      clear y0 y1 y2 y3 y4 lx1
      have kx := kx.next hb2
      obtain ⟨y0, y1, y2, y3, y4⟩ := box5 kx
      have lx1 := kx.lt
      have HB := Lib.hid (bt hb2 (bt hb1 (al1 w _)))
      have HL := Lib.hid (HA.out.next HB.out)
      clear hb1 hb2
      go_wp2
      go_ret2
      exact ⟨none, 0, rfl, Nat.le_refl _, RdL.nil, HB.out⟩
  · have hv : vlB l = false := by simpa using hv
    obtain ⟨e1, e2⟩ := gra_bad (l := l) (x := x) (.inl hv)
    rw [e1, e2]
    clear e1 e2
    have HV := Lib.hid hv
    clear hv
    go_enter Try.func12, Try.ntmps12
    go_wp2_with fail
    refine (rValid_lit false l A c _ HV.out (HA.out.next (al1 _ _)) hn).mono ?_
    rintro e V1 ⟨rfl, hb1⟩
    have kx := kx0.next hb1
    obtain ⟨y0, y1, y2, y3, y4⟩ := box5 kx
    have lx1 := kx.lt
    have HB := Lib.hid (bt hb1 (al1 w _))
    clear hb1 kx
    go_wp2
    go_ret2
    exact ⟨none, 0, rfl, Nat.le_refl _, RdL.nil, HB.out⟩
set_option maxHeartbeats 4000000 in
theorem Grant_any (l : List Lea) (x : Lea) (A : Option Addr) (c : Nat) (w : World) (hA : RdL w w.heap.size A l) (hn : l.length ≤ 9223372036854775807) :
    Calls Try.prog 11 #[.slice A l.length c, .agg #[.int .i64 x.n, .int .i64 x.c, .int .i64 x.a, .int .i64 x.f, .int .i64 x.t]] w (LPost w (graL l x) (graE l x)) := by
  obtain ⟨i0, hi, hz0, hz1, hz2⟩ := info_parts info_lease
  have HA := Lib.hid hA
  clear hA
  have kx0 : Bk (w.alloc (.cells #[.int .i64 x.n, .int .i64 x.c, .int .i64 x.a, .int .i64 x.f, .int .i64 x.t] 24)) w.heap.size 24 #[.int .i64 x.n, .int .i64 x.c, .int .i64 x.a, .int .i64 x.f, .int .i64 x.t] := Bk.new _ _ _
  by_cases hv : vlB l = true
  · have HV := Lib.hid hv
    clear hv
    by_cases ho : oneB x = true
    · have HO := Lib.hid ho
      clear ho
      by_cases h0 : 0 < l.length
      · obtain ⟨y, hy⟩ : ∃ y, y = l.getD (l.length - 1) l0 := ⟨_, rfl⟩
        have HY := Lib.hid hy
        clear hy
        by_cases hf : folB y x = true
        · have HF := Lib.hid hf
          clear hf
          by_cases h64 : l.length = 64
          · obtain ⟨e1, e2⟩ := gra_full HV.out HO.out (fun _ => HY.out ▸ HF.out) h64
            rw [e1, e2]
            clear e1 e2
            have d64 : ((l.length : Int) == 64) = true := by simp; omega
            clear h64
            go_enter Try.func11, Try.ntmps11
            go_wp2_with fail
            refine (Valid_lit true l A c _ HV.out (HA.out.next (al1 _ _)) hn).mono ?_
            rintro e V1 ⟨rfl, hb1⟩
            have kx := kx0.next hb1
            obtain ⟨y0, y1, y2, y3, y4⟩ := box5 kx
            have lx1 := kx.lt
            go_wp2_with fail
            refine (valid_lit true x _ HO.out).mono ?_
            rintro e V2 ⟨rfl, hb2⟩
            clear y0 y1 y2 y3 y4 lx1
            have kx := kx.next hb2
            obtain ⟨y0, y1, y2, y3, y4⟩ := box5 kx
            have lx1 := kx.lt
            have HB := Lib.hid (bt hb2 (bt hb1 (al1 w _)))
            have HL := Lib.hid (HA.out.next HB.out)
            clear hb1 hb2
            obtain ⟨b, o, rfl, _, z0, z1, z2, z3, z4⟩ := HL.out.at_ (i := l.length - 1) (by omega)
            rw [← getD_of (by omega : l.length - 1 < l.length), ← HY.out] at z0 z1 z2 z3 z4
            obtain ⟨k', hk'⟩ : ∃ k', k' = l.length - 1 := ⟨_, rfl⟩
            rw [← hk'] at z0 z1 z2 z3 z4
            have j0 : (l.length : Int) - 1 = (k' : Int) := by omega
            have j1 : (0 : Int) ≤ (k' : Int) := by omega
            have j2 : (k' : Int) < (l.length : Int) := by omega
            have j3 : IntKind.i64.wrap ((l.length : Int) - 1) = (k' : Int) := by rw [IntWalk.i64_in _ (by omega)]; omega
            have j4 : decide ((0 : Int) < (l.length : Int)) = true := by simp; omega
            have j6 : decide (0 < l.length) = true := by simp; omega
            clear hk'
            go_wp2
            have Ry0 := cell_regrown y0
            have Ry1 := cell_regrown y1
            have Ry2 := cell_regrown y2
            have Ry3 := cell_regrown y3
            have Ry4 := cell_regrown y4
            have Rz0 := cell_regrown z0
            have Rz1 := cell_regrown z1
            have Rz2 := cell_regrown z2
            have Rz3 := cell_regrown z3
            have Rz4 := cell_regrown z4
            have CF := fun (d : Nat) (os : Array Obj) => Calls.regrown_of (follows_lit true y x (grow (redrawn V2 d) os) HF.out)
            refine wp_region_quiet_below (by kernel_rfl) (by kernel_rfl) ?_
            repeat (first | go_big_quiet_step (first | (with_reducible exact CF _ _)) | quiet_step (first | (with_reducible exact CF _ _)))
            refine wpQuiet_nil ?_
            intro _ hw'
            obtain ⟨⟨dq, osq⟩, hw''⟩ := hw'
            subst hw''
            obtain ⟨V, hV⟩ : ∃ V, V = grow (redrawn V2 dq) osq := ⟨_, rfl⟩
            have hbV : Below V2.heap.size V2 V := by rw [hV]; exact below_regrown _ _ _
            rw [← hV]
            clear hV
            clear Ry0
            clear Ry1
            clear Ry2
            clear Ry3
            clear Ry4
            clear Rz0
            clear Rz1
            clear Rz2
            clear Rz3
            clear Rz4
            clear CF
            have HB := Lib.hid (bt hbV HB.out)
            have HL := Lib.hid (HL.out.next hbV)
            have kx := kx.next hbV
            clear y0 y1 y2 y3 y4 z0 z1 z2 z3 z4 lx1 hbV
            obtain ⟨y0, y1, y2, y3, y4⟩ := box5 kx
            have lx1 := kx.lt
            go_wp2
            go_ret2
            exact ⟨none, 0, rfl, Nat.le_refl _, RdL.nil, HB.out⟩
          · obtain ⟨e1, e2⟩ := gra_ok HV.out HO.out (fun _ => HY.out ▸ HF.out) h64
            rw [e1, e2]
            clear e1 e2
            have d64 : ((l.length : Int) == 64) = false := by simp; omega
            have l64 : l.length ≤ 64 := ((vlB_at l).1 HV.out).1
            clear h64
            go_enter Try.func11, Try.ntmps11
            go_wp2_with fail
            refine (Valid_lit true l A c _ HV.out (HA.out.next (al1 _ _)) hn).mono ?_
            rintro e V1 ⟨rfl, hb1⟩
            have kx := kx0.next hb1
            obtain ⟨y0, y1, y2, y3, y4⟩ := box5 kx
            have lx1 := kx.lt
            go_wp2_with fail
            refine (valid_lit true x _ HO.out).mono ?_
            rintro e V2 ⟨rfl, hb2⟩
            clear y0 y1 y2 y3 y4 lx1
            have kx := kx.next hb2
            obtain ⟨y0, y1, y2, y3, y4⟩ := box5 kx
            have lx1 := kx.lt
            have HB := Lib.hid (bt hb2 (bt hb1 (al1 w _)))
            have HL := Lib.hid (HA.out.next HB.out)
            clear hb1 hb2
            obtain ⟨b, o, rfl, _, z0, z1, z2, z3, z4⟩ := HL.out.at_ (i := l.length - 1) (by omega)
            rw [← getD_of (by omega : l.length - 1 < l.length), ← HY.out] at z0 z1 z2 z3 z4
            obtain ⟨k', hk'⟩ : ∃ k', k' = l.length - 1 := ⟨_, rfl⟩
            rw [← hk'] at z0 z1 z2 z3 z4
            have j0 : (l.length : Int) - 1 = (k' : Int) := by omega
            have j1 : (0 : Int) ≤ (k' : Int) := by omega
            have j2 : (k' : Int) < (l.length : Int) := by omega
            have j3 : IntKind.i64.wrap ((l.length : Int) - 1) = (k' : Int) := by rw [IntWalk.i64_in _ (by omega)]; omega
            have j4 : decide ((0 : Int) < (l.length : Int)) = true := by simp; omega
            have j6 : decide (0 < l.length) = true := by simp; omega
            clear hk'
            go_wp2
            have Ry0 := cell_regrown y0
            have Ry1 := cell_regrown y1
            have Ry2 := cell_regrown y2
            have Ry3 := cell_regrown y3
            have Ry4 := cell_regrown y4
            have Rz0 := cell_regrown z0
            have Rz1 := cell_regrown z1
            have Rz2 := cell_regrown z2
            have Rz3 := cell_regrown z3
            have Rz4 := cell_regrown z4
            have CF := fun (d : Nat) (os : Array Obj) => Calls.regrown_of (follows_lit true y x (grow (redrawn V2 d) os) HF.out)
            refine wp_region_quiet_below (by kernel_rfl) (by kernel_rfl) ?_
            repeat (first | go_big_quiet_step (first | (with_reducible exact CF _ _)) | quiet_step (first | (with_reducible exact CF _ _)))
            refine wpQuiet_nil ?_
            intro _ hw'
            obtain ⟨⟨dq, osq⟩, hw''⟩ := hw'
            subst hw''
            obtain ⟨V, hV⟩ : ∃ V, V = grow (redrawn V2 dq) osq := ⟨_, rfl⟩
            have hbV : Below V2.heap.size V2 V := by rw [hV]; exact below_regrown _ _ _
            rw [← hV]
            clear hV
            clear Ry0
            clear Ry1
            clear Ry2
            clear Ry3
            clear Ry4
            clear Rz0
            clear Rz1
            clear Rz2
            clear Rz3
            clear Rz4
            clear CF
            have HB := Lib.hid (bt hbV HB.out)
            have HL := Lib.hid (HL.out.next hbV)
            have kx := kx.next hbV
            clear y0 y1 y2 y3 y4 z0 z1 z2 z3 z4 lx1 hbV
            obtain ⟨y0, y1, y2, y3, y4⟩ := box5 kx
            have lx1 := kx.lt
            have lsz : w.heap.size + 1 ≤ V.heap.size := lx1
            go_wp2_with (at_make; refine wpList_make_own _ rfl _ _ 22 rfl (w.heap.size + 1) 24 i0 (.agg #[.int .i64 0, .int .i64 0, .int .i64 0, .int .i64 0, .int .i64 0]) 5 Try.underlying22 hi hz0 hz1 .i64 .i64 _ (l.length + 1) rfl rfl (by omega) (by rw [hz2]; omega) (by simp only [maxLen]; omega) (by omega) ?_; intro w0 hown0 hgrow0)
            have OWN := Lib.hid hown0
            have KX := Lib.hid (Bk.grown kx hgrow0 (by simp))
            have B0 := grownBy_below hgrow0 (Nat.le_refl _) (by simp)
            have RL := Lib.hid (RdL.next HL.out B0)
            have lsz0 : V.heap.size ≤ w0.heap.size := B0.size
            have lsz1 : V.heap.size < w0.heap.size := (OWN.out.lt _ rfl).2
            have HB0 := Lib.hid (bt B0 HB.out)
            clear hown0 hgrow0 kx y0 y1 y2 y3 y4 lx1 B0
            obtain ⟨q0, q1, q2, q3, q4⟩ := box5 KX.out
            go_wp2
            go_region_held3 (fun w' => w'.cell? ⟨w.heap.size, 0, none⟩ = some (.int .i64 x.n) ∧ w'.cell? ⟨w.heap.size, 1, none⟩ = some (.int .i64 x.c) ∧ w'.cell? ⟨w.heap.size, 2, none⟩ = some (.int .i64 x.a) ∧ w'.cell? ⟨w.heap.size, 3, none⟩ = some (.int .i64 x.f) ∧ w'.cell? ⟨w.heap.size, 4, none⟩ = some (.int .i64 x.t))
              (first | exact ⟨q0, q1, q2, q3, q4⟩ | exact box5 zkx | exact box5 ykx | exact box5 (ykx.alloc _) | exact box5 (KX.out.alloc _) | go_keep | fail)
              (first | (refine step_append_rd _ (by rfl) (.tmp 36) (.tmp 37) _ (by rfl) (w.heap.size + 1) 24 i0 _ 5 40 Try.underlying22 hi hz0 hz1 hz2 rfl (by omega) (.slice (some ⟨V.heap.size, 0, none⟩) 0 (l.length + 1)) 0 [] (by rfl) (by first | exact OWN.out | exact OWN.out.alloc _) w0.heap.size (some ⟨b, o, none⟩) l.length c (lsc l) (by rfl) (by first | exact RL.out | exact RdS.alloc RL.out (Nat.le_refl _) _) (lsc_one l) (by simp only [maxLen]; omega) (by omega) (by simp; omega) ?_; intro v1 w1 hown1 hg1 hat1; have ykx : Bk w1 w.heap.size 24 #[.int .i64 x.n, .int .i64 x.c, .int .i64 x.a, .int .i64 x.f, .int .i64 x.t] := (by first | exact Bk.grown KX.out.drew hg1 (by simp [Value.ownBlock]; omega) | exact Bk.grown (KX.out.alloc _).drew hg1 (by simp [Value.ownBlock]; omega)); have B1 : Below (w.heap.size + 1) w0 w1 := (by first | exact (Below.refl _ w0).drew.grown hg1 (by show _ ≤ w0.heap.size; omega) (by simp [Value.ownBlock]; omega) | exact ((Below.refl _ w0).alloc (by omega) _).drew.grown hg1 (by show _ ≤ (w0.alloc _).heap.size; simp; omega) (by simp [Value.ownBlock]; omega)); try have yx2 : Bk w1 w0.heap.size 24 #[.int .i64 x.n, .int .i64 x.c, .int .i64 x.a, .int .i64 x.f, .int .i64 x.t] := Bk.grown (w := (w0.alloc (.cells #[.int .i64 x.n, .int .i64 x.c, .int .i64 x.a, .int .i64 x.f, .int .i64 x.t] 24)).drew) (Bk.new _ _ _).drew hg1 (by simp [Value.ownBlock]; omega)) | (refine step_append_rd _ (by rfl) (.tmp 38) (.tmp 40) _ (by rfl) (w.heap.size + 1) 24 i0 _ 5 40 Try.underlying22 hi hz0 hz1 hz2 rfl (by omega) v1 (0 + l.length) ([] ++ lsc l) (by rfl) (by first | exact hown1 | exact hown1.alloc _) (w1.heap.size + 1) _ 1 1 [.int .i64 x.n, .int .i64 x.c, .int .i64 x.a, .int .i64 x.f, .int .i64 x.t] (by rfl) (by first | exact rd_bk5 yx2 (by have := yx2.lt; omega) | exact rd_bk5 (Bk.new _ _ _) (by omega)) (by simp [Value.oneCell']) (by simp only [maxLen]; omega) (by omega) (by have := B1.size; simp; omega) ?_; intro v2 w2 hown2 hg2 hat2; have B2 : Below (w.heap.size + 1) w0 w2 := (by first | exact B1.grown hg2 (by have := B1.size; omega) (fun k hk => (hown1.lt k hk).1) | exact (B1.alloc (by have := B1.size; omega) _).grown hg2 (by have := B1.size; simp; omega) (fun k hk => (hown1.lt k hk).1)); have zkx := Bk.below KX.out B2 (by omega)))
            all_goals
              have hown' : w2.ownsRow (w.heap.size + 1) 24 5 v2 (l.length + 1) (lsc l ++ [.int .i64 x.n, .int .i64 x.c, .int .i64 x.a, .int .i64 x.f, .int .i64 x.t]) := by simpa using hown2
              obtain ⟨A', c', rfl, hc', hr'⟩ := own_read hown'
              have HR : Hid (RdL w2 w2.heap.size A' (l ++ [x])) := by
                show RdS _ _ _ _ _ _
                rw [lsc_snoc, List.length_append]; exact hr'
              have HG : Hid (Below w.heap.size w w2) := HB0.out.trans (B2.mono (by omega))
              clear hown' hr' hown2 hg2 B2 hown1 hg1 B1 zkx ykx
              go_wp2
              go_ret2
              exact ⟨A', c', by simp, by simpa using hc', HR.out, HG.out⟩
        · have hf : folB y x = false := by simpa using hf
          obtain ⟨e1, e2⟩ := gra_old HV.out HO.out h0 (HY.out ▸ hf)
          rw [e1, e2]
          clear e1 e2
          have HF := Lib.hid hf
          clear hf
          go_enter Try.func11, Try.ntmps11
          go_wp2_with fail
          refine (Valid_lit true l A c _ HV.out (HA.out.next (al1 _ _)) hn).mono ?_
          rintro e V1 ⟨rfl, hb1⟩
          have kx := kx0.next hb1
          obtain ⟨y0, y1, y2, y3, y4⟩ := box5 kx
          have lx1 := kx.lt
          go_wp2_with fail
          refine (valid_lit true x _ HO.out).mono ?_
          rintro e V2 ⟨rfl, hb2⟩
          clear y0 y1 y2 y3 y4 lx1
          have kx := kx.next hb2
          obtain ⟨y0, y1, y2, y3, y4⟩ := box5 kx
          have lx1 := kx.lt
          have HB := Lib.hid (bt hb2 (bt hb1 (al1 w _)))
          have HL := Lib.hid (HA.out.next HB.out)
          clear hb1 hb2
          obtain ⟨b, o, rfl, _, z0, z1, z2, z3, z4⟩ := HL.out.at_ (i := l.length - 1) (by omega)
          rw [← getD_of (by omega : l.length - 1 < l.length), ← HY.out] at z0 z1 z2 z3 z4
          obtain ⟨k', hk'⟩ : ∃ k', k' = l.length - 1 := ⟨_, rfl⟩
          rw [← hk'] at z0 z1 z2 z3 z4
          have j0 : (l.length : Int) - 1 = (k' : Int) := by omega
          have j1 : (0 : Int) ≤ (k' : Int) := by omega
          have j2 : (k' : Int) < (l.length : Int) := by omega
          have j3 : IntKind.i64.wrap ((l.length : Int) - 1) = (k' : Int) := by rw [IntWalk.i64_in _ (by omega)]; omega
          have j4 : decide ((0 : Int) < (l.length : Int)) = true := by simp; omega
          have j6 : decide (0 < l.length) = true := by simp; omega
          clear hk'
          go_wp2
          have Ry0 := cell_regrown y0
          have Ry1 := cell_regrown y1
          have Ry2 := cell_regrown y2
          have Ry3 := cell_regrown y3
          have Ry4 := cell_regrown y4
          have Rz0 := cell_regrown z0
          have Rz1 := cell_regrown z1
          have Rz2 := cell_regrown z2
          have Rz3 := cell_regrown z3
          have Rz4 := cell_regrown z4
          have CF := fun (d : Nat) (os : Array Obj) => Calls.regrown_of (follows_lit false y x (grow (redrawn V2 d) os) HF.out)
          refine wp_region_quiet_below (by kernel_rfl) (by kernel_rfl) ?_
          repeat (first | go_big_quiet_step (first | (with_reducible exact CF _ _)) | quiet_step (first | (with_reducible exact CF _ _)))
          refine wpQuiet_nil ?_
          intro _ hw'
          obtain ⟨⟨dq, osq⟩, hw''⟩ := hw'
          subst hw''
          obtain ⟨V, hV⟩ : ∃ V, V = grow (redrawn V2 dq) osq := ⟨_, rfl⟩
          have hbV : Below V2.heap.size V2 V := by rw [hV]; exact below_regrown _ _ _
          rw [← hV]
          clear hV
          clear Ry0
          clear Ry1
          clear Ry2
          clear Ry3
          clear Ry4
          clear Rz0
          clear Rz1
          clear Rz2
          clear Rz3
          clear Rz4
          clear CF
          have HB := Lib.hid (bt hbV HB.out)
          have HL := Lib.hid (HL.out.next hbV)
          have kx := kx.next hbV
          clear y0 y1 y2 y3 y4 z0 z1 z2 z3 z4 lx1 hbV
          obtain ⟨y0, y1, y2, y3, y4⟩ := box5 kx
          have lx1 := kx.lt
          go_wp2
          go_ret2
          exact ⟨none, 0, rfl, Nat.le_refl _, RdL.nil, HB.out⟩
      · by_cases h64 : l.length = 64
        · obtain ⟨e1, e2⟩ := gra_full HV.out HO.out (fun h => absurd h (by omega)) h64
          rw [e1, e2]
          clear e1 e2
          have d64 : ((l.length : Int) == 64) = true := by simp; omega
          clear h64
          go_enter Try.func11, Try.ntmps11
          go_wp2_with fail
          refine (Valid_lit true l A c _ HV.out (HA.out.next (al1 _ _)) hn).mono ?_
          rintro e V1 ⟨rfl, hb1⟩
          have kx := kx0.next hb1
          obtain ⟨y0, y1, y2, y3, y4⟩ := box5 kx
          have lx1 := kx.lt
          go_wp2_with fail
          refine (valid_lit true x _ HO.out).mono ?_
          rintro e V2 ⟨rfl, hb2⟩
          clear y0 y1 y2 y3 y4 lx1
          have kx := kx.next hb2
          obtain ⟨y0, y1, y2, y3, y4⟩ := box5 kx
          have lx1 := kx.lt
          have HB := Lib.hid (bt hb2 (bt hb1 (al1 w _)))
          have HL := Lib.hid (HA.out.next HB.out)
          clear hb1 hb2
          have j4 : decide ((0 : Int) < (l.length : Int)) = false := decide_eq_false (by omega)
          have j6 : decide (0 < l.length) = false := decide_eq_false h0
          go_wp2
          have Ry0 := cell_regrown y0
          have Ry1 := cell_regrown y1
          have Ry2 := cell_regrown y2
          have Ry3 := cell_regrown y3
          have Ry4 := cell_regrown y4
          refine wp_region_quiet_below (by kernel_rfl) (by kernel_rfl) ?_
          repeat (first | go_big_quiet_step (fail) | quiet_step (fail))
          refine wpQuiet_nil ?_
          intro _ hw'
          obtain ⟨⟨dq, osq⟩, hw''⟩ := hw'
          subst hw''
          obtain ⟨V, hV⟩ : ∃ V, V = grow (redrawn V2 dq) osq := ⟨_, rfl⟩
          have hbV : Below V2.heap.size V2 V := by rw [hV]; exact below_regrown _ _ _
          rw [← hV]
          clear hV
          clear Ry0
          clear Ry1
          clear Ry2
          clear Ry3
          clear Ry4
          have HB := Lib.hid (bt hbV HB.out)
          have HL := Lib.hid (HL.out.next hbV)
          have kx := kx.next hbV
          clear y0 y1 y2 y3 y4 lx1 hbV
          obtain ⟨y0, y1, y2, y3, y4⟩ := box5 kx
          have lx1 := kx.lt
          go_wp2
          go_ret2
          exact ⟨none, 0, rfl, Nat.le_refl _, RdL.nil, HB.out⟩
        · obtain ⟨e1, e2⟩ := gra_ok HV.out HO.out (fun h => absurd h (by omega)) h64
          rw [e1, e2]
          clear e1 e2
          have d64 : ((l.length : Int) == 64) = false := by simp; omega
          have l64 : l.length ≤ 64 := ((vlB_at l).1 HV.out).1
          clear h64
          go_enter Try.func11, Try.ntmps11
          go_wp2_with fail
          refine (Valid_lit true l A c _ HV.out (HA.out.next (al1 _ _)) hn).mono ?_
          rintro e V1 ⟨rfl, hb1⟩
          have kx := kx0.next hb1
          obtain ⟨y0, y1, y2, y3, y4⟩ := box5 kx
          have lx1 := kx.lt
          go_wp2_with fail
          refine (valid_lit true x _ HO.out).mono ?_
          rintro e V2 ⟨rfl, hb2⟩
          clear y0 y1 y2 y3 y4 lx1
          have kx := kx.next hb2
          obtain ⟨y0, y1, y2, y3, y4⟩ := box5 kx
          have lx1 := kx.lt
          have HB := Lib.hid (bt hb2 (bt hb1 (al1 w _)))
          have HL := Lib.hid (HA.out.next HB.out)
          clear hb1 hb2
          have j4 : decide ((0 : Int) < (l.length : Int)) = false := decide_eq_false (by omega)
          have j6 : decide (0 < l.length) = false := decide_eq_false h0
          go_wp2
          have Ry0 := cell_regrown y0
          have Ry1 := cell_regrown y1
          have Ry2 := cell_regrown y2
          have Ry3 := cell_regrown y3
          have Ry4 := cell_regrown y4
          refine wp_region_quiet_below (by kernel_rfl) (by kernel_rfl) ?_
          repeat (first | go_big_quiet_step (fail) | quiet_step (fail))
          refine wpQuiet_nil ?_
          intro _ hw'
          obtain ⟨⟨dq, osq⟩, hw''⟩ := hw'
          subst hw''
          obtain ⟨V, hV⟩ : ∃ V, V = grow (redrawn V2 dq) osq := ⟨_, rfl⟩
          have hbV : Below V2.heap.size V2 V := by rw [hV]; exact below_regrown _ _ _
          rw [← hV]
          clear hV
          clear Ry0
          clear Ry1
          clear Ry2
          clear Ry3
          clear Ry4
          have HB := Lib.hid (bt hbV HB.out)
          have HL := Lib.hid (HL.out.next hbV)
          have kx := kx.next hbV
          clear y0 y1 y2 y3 y4 lx1 hbV
          obtain ⟨y0, y1, y2, y3, y4⟩ := box5 kx
          have lx1 := kx.lt
          have lsz : w.heap.size + 1 ≤ V.heap.size := lx1
          go_wp2_with (at_make; refine wpList_make_own _ rfl _ _ 22 rfl (w.heap.size + 1) 24 i0 (.agg #[.int .i64 0, .int .i64 0, .int .i64 0, .int .i64 0, .int .i64 0]) 5 Try.underlying22 hi hz0 hz1 .i64 .i64 _ (l.length + 1) rfl rfl (by omega) (by rw [hz2]; omega) (by simp only [maxLen]; omega) (by omega) ?_; intro w0 hown0 hgrow0)
          have OWN := Lib.hid hown0
          have KX := Lib.hid (Bk.grown kx hgrow0 (by simp))
          have B0 := grownBy_below hgrow0 (Nat.le_refl _) (by simp)
          have RL := Lib.hid (RdL.next HL.out B0)
          have lsz0 : V.heap.size ≤ w0.heap.size := B0.size
          have lsz1 : V.heap.size < w0.heap.size := (OWN.out.lt _ rfl).2
          have HB0 := Lib.hid (bt B0 HB.out)
          clear hown0 hgrow0 kx y0 y1 y2 y3 y4 lx1 B0
          obtain ⟨q0, q1, q2, q3, q4⟩ := box5 KX.out
          go_wp2
          go_region_held3 (fun w' => w'.cell? ⟨w.heap.size, 0, none⟩ = some (.int .i64 x.n) ∧ w'.cell? ⟨w.heap.size, 1, none⟩ = some (.int .i64 x.c) ∧ w'.cell? ⟨w.heap.size, 2, none⟩ = some (.int .i64 x.a) ∧ w'.cell? ⟨w.heap.size, 3, none⟩ = some (.int .i64 x.f) ∧ w'.cell? ⟨w.heap.size, 4, none⟩ = some (.int .i64 x.t))
            (first | exact ⟨q0, q1, q2, q3, q4⟩ | exact box5 zkx | exact box5 ykx | exact box5 (ykx.alloc _) | exact box5 (KX.out.alloc _) | go_keep | fail)
            (first | (refine step_append_rd _ (by rfl) (.tmp 36) (.tmp 37) _ (by rfl) (w.heap.size + 1) 24 i0 _ 5 40 Try.underlying22 hi hz0 hz1 hz2 rfl (by omega) (.slice (some ⟨V.heap.size, 0, none⟩) 0 (l.length + 1)) 0 [] (by rfl) (by first | exact OWN.out | exact OWN.out.alloc _) w0.heap.size A l.length c (lsc l) (by rfl) (by first | exact RL.out | exact RdS.alloc RL.out (Nat.le_refl _) _) (lsc_one l) (by simp only [maxLen]; omega) (by omega) (by simp; omega) ?_; intro v1 w1 hown1 hg1 hat1; have ykx : Bk w1 w.heap.size 24 #[.int .i64 x.n, .int .i64 x.c, .int .i64 x.a, .int .i64 x.f, .int .i64 x.t] := (by first | exact Bk.grown KX.out.drew hg1 (by simp [Value.ownBlock]; omega) | exact Bk.grown (KX.out.alloc _).drew hg1 (by simp [Value.ownBlock]; omega)); have B1 : Below (w.heap.size + 1) w0 w1 := (by first | exact (Below.refl _ w0).drew.grown hg1 (by show _ ≤ w0.heap.size; omega) (by simp [Value.ownBlock]; omega) | exact ((Below.refl _ w0).alloc (by omega) _).drew.grown hg1 (by show _ ≤ (w0.alloc _).heap.size; simp; omega) (by simp [Value.ownBlock]; omega)); try have yx2 : Bk w1 w0.heap.size 24 #[.int .i64 x.n, .int .i64 x.c, .int .i64 x.a, .int .i64 x.f, .int .i64 x.t] := Bk.grown (w := (w0.alloc (.cells #[.int .i64 x.n, .int .i64 x.c, .int .i64 x.a, .int .i64 x.f, .int .i64 x.t] 24)).drew) (Bk.new _ _ _).drew hg1 (by simp [Value.ownBlock]; omega)) | (refine step_append_rd _ (by rfl) (.tmp 38) (.tmp 40) _ (by rfl) (w.heap.size + 1) 24 i0 _ 5 40 Try.underlying22 hi hz0 hz1 hz2 rfl (by omega) v1 (0 + l.length) ([] ++ lsc l) (by rfl) (by first | exact hown1 | exact hown1.alloc _) (w1.heap.size + 1) _ 1 1 [.int .i64 x.n, .int .i64 x.c, .int .i64 x.a, .int .i64 x.f, .int .i64 x.t] (by rfl) (by first | exact rd_bk5 yx2 (by have := yx2.lt; omega) | exact rd_bk5 (Bk.new _ _ _) (by omega)) (by simp [Value.oneCell']) (by simp only [maxLen]; omega) (by omega) (by have := B1.size; simp; omega) ?_; intro v2 w2 hown2 hg2 hat2; have B2 : Below (w.heap.size + 1) w0 w2 := (by first | exact B1.grown hg2 (by have := B1.size; omega) (fun k hk => (hown1.lt k hk).1) | exact (B1.alloc (by have := B1.size; omega) _).grown hg2 (by have := B1.size; simp; omega) (fun k hk => (hown1.lt k hk).1)); have zkx := Bk.below KX.out B2 (by omega)))
          all_goals
            have hown' : w2.ownsRow (w.heap.size + 1) 24 5 v2 (l.length + 1) (lsc l ++ [.int .i64 x.n, .int .i64 x.c, .int .i64 x.a, .int .i64 x.f, .int .i64 x.t]) := by simpa using hown2
            obtain ⟨A', c', rfl, hc', hr'⟩ := own_read hown'
            have HR : Hid (RdL w2 w2.heap.size A' (l ++ [x])) := by
              show RdS _ _ _ _ _ _
              rw [lsc_snoc, List.length_append]; exact hr'
            have HG : Hid (Below w.heap.size w w2) := HB0.out.trans (B2.mono (by omega))
            clear hown' hr' hown2 hg2 B2 hown1 hg1 B1 zkx ykx
            go_wp2
            go_ret2
            exact ⟨A', c', by simp, by simpa using hc', HR.out, HG.out⟩
    · have ho : oneB x = false := by simpa using ho
      obtain ⟨e1, e2⟩ := gra_bad (l := l) (x := x) (.inr ho)
      rw [e1, e2]
      clear e1 e2
      have HO := Lib.hid ho
      clear ho
      go_enter Try.func11, Try.ntmps11
      go_wp2_with fail
      refine (Valid_lit true l A c _ HV.out (HA.out.next (al1 _ _)) hn).mono ?_
      rintro e V1 ⟨rfl, hb1⟩
      have kx := kx0.next hb1
      obtain ⟨y0, y1, y2, y3, y4⟩ := box5 kx
      have lx1 := kx.lt
      go_wp2_with fail
      refine (valid_lit false x _ HO.out).mono ?_
      rintro e V2 ⟨rfl, hb2⟩
      clear y0 y1 y2 y3 y4 lx1
      have kx := kx.next hb2
      obtain ⟨y0, y1, y2, y3, y4⟩ := box5 kx
      have lx1 := kx.lt
      have HB := Lib.hid (bt hb2 (bt hb1 (al1 w _)))
      have HL := Lib.hid (HA.out.next HB.out)
      clear hb1 hb2
      go_wp2
      go_ret2
      exact ⟨none, 0, rfl, Nat.le_refl _, RdL.nil, HB.out⟩
  · have hv : vlB l = false := by simpa using hv
    obtain ⟨e1, e2⟩ := gra_bad (l := l) (x := x) (.inl hv)
    rw [e1, e2]
    clear e1 e2
    have HV := Lib.hid hv
    clear hv
    go_enter Try.func11, Try.ntmps11
    go_wp2_with fail
    refine (Valid_lit false l A c _ HV.out (HA.out.next (al1 _ _)) hn).mono ?_
    rintro e V1 ⟨rfl, hb1⟩
    have kx := kx0.next hb1
    obtain ⟨y0, y1, y2, y3, y4⟩ := box5 kx
    have lx1 := kx.lt
    have HB := Lib.hid (bt hb1 (al1 w _))
    clear hb1 kx
    go_wp2
    go_ret2
    exact ⟨none, 0, rfl, Nat.le_refl _, RdL.nil, HB.out⟩
end Go.Proofs.Ytneiaolkicgfkaa
