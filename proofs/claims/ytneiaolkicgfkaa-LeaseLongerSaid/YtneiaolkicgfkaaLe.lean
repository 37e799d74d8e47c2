/- The closure that keeps the greatest amperes, and the reference's Alive. -/
import Derived.Test.YtneiaolkicgfkaaLd
import Derived.StillTailTactics
import Derived.Test.YtneiaolkicgfkaaReg
import Derived.WalkLawsBesides
set_option linter.unusedVariables false
set_option linter.unusedSimpArgs false
namespace Go.Proofs.Ytneiaolkicgfkaa
open Go.RowKit Go.Sort

def IPost (w : World) (zs : List Int) (er : Int) (e : Ending) (w' : World) : Prop :=
  ∃ A c, e = .returned (.tuple #[.slice A zs.length c, .int .i64 er]) ∧ zs.length ≤ c ∧ RdI w' w'.heap.size A zs ∧ Below w.heap.size w w'
theorem info_int : (Try.prog.info? 3).map (fun i => (i.zero, i.size, i.bytes)) = some (some (.int .i64 0), 1, 8) := by kernel_rfl
def zerosI (n : Nat) : List Int := List.replicate n 0
@[simp] theorem zerosI_length (n : Nat) : (zerosI n).length = n := by simp [zerosI]
theorem run_make_int (n : Nat) (hn : n ≤ 1000000000) (w : World) :
    (Instr.makeSlice 29 (.int .i64 (n : Int)) (.int .i64 (n : Int))).run Try.prog w = .ok (.slice (some ⟨w.heap.size, 0, none⟩) n n) (w.alloc (.cells (i64s (zerosI n)).toArray 3)) := by
  obtain ⟨i0, hi, hz0, hz1, hz2⟩ := info_parts info_int
  have hr := run_make (P := Try.prog) w 29 3 i0 _ Try.underlying29 hi hz0 .i64 .i64 n n (by omega) (by omega) (by rw [hz2]; omega) (by omega)
  rw [hr, hz1]
  simp only [Int.toNat_natCast, Nat.mul_one]
  have e : madeCells (Value.int .i64 0).cells n = (i64s (zerosI n)).toArray := by
    apply Array.ext'
    rw [show (Value.int .i64 0).cells = #[.int .i64 0] from rfl, toList_madeCells_one]
    simp [i64s, zerosI]
  rw [e]
theorem box1 {w : World} {k : Nat} {t : TypeId} {a : Value} (h : Bk w k t #[a]) : w.cell? ⟨k, 0, none⟩ = some a := h.cell 0
theorem grown_store {w U : World} {g : Nat} (h : w.grownBy U (some g)) (c : Nat) (v : Value) : w.grownBy (U.setCell ⟨g, c, none⟩ v).drew (some g) :=
  ⟨h.os, h.tape, h.output, by have := h.size; simpa [World.setCell, World.drew_eq] using this, fun k hk hne => (Below.heap_setCell U ⟨g, c, none⟩ v k (fun e => hne (by rw [e]))).trans (h.block k hk hne)⟩
theorem stepA_set {zs : List Int} {x : Lea} {c : Nat} (h : c < zs.length) (hc : x.c = c) : stepA zs x = zs.set c (max zs[c] x.a) := by
  have e : x.c.toNat = c := by omega
  unfold stepA
  rw [e, List.getD_eq_getElem?_getD, List.getElem?_eq_getElem h]; rfl

set_option maxHeartbeats 1000000 in
/-- the closure: the amperes of a charger grow to those of a lease -/
theorem keep_any (x : Lea) (zs : List Int) (bo g : Nat) (w : World) (ho : Bk w bo 29 #[.slice (some ⟨g, 0, none⟩) zs.length zs.length]) (hg : Bk w g 3 (i64s zs).toArray) (h0 : 0 ≤ x.c) (h1 : x.c < zs.length) (hn : zs.length ≤ 1000000) :
    Calls Try.prog 27 #[.agg #[.int .i64 x.n, .int .i64 x.c, .int .i64 x.a, .int .i64 x.f, .int .i64 x.t], .pointer (some ⟨bo, 0, none⟩)] w fun e w' => e = .returned (.tuple #[]) ∧ Bk w' g 3 (i64s (stepA zs x)).toArray ∧ w.grownBy w' (some g) := by
  obtain ⟨c, hc⟩ := Int.eq_ofNat_of_zero_le h0
  have hcl : c < zs.length := by omega
  have HS := Lib.hid (stepA_set hcl hc)
  obtain ⟨nn, cc, aa, ff, tt⟩ := x
  dsimp only at *
  subst hc
  have c1 : (0 : Int) ≤ (c : Int) := by omega
  have c2 : (c : Int) < (zs.length : Int) := by omega
  have HG := Lib.hid hg
  have HO := Lib.hid ho
  have hgl := hg.lt
  have hol := ho.lt
  clear hg ho
  go_enter Try.func27, Try.ntmps27
  go_wp2
  obtain ⟨U, hU⟩ : ∃ U, U = w.alloc (.cells #[.int .i64 nn, .int .i64 (c : Int), .int .i64 aa, .int .i64 ff, .int .i64 tt] 24) := ⟨_, rfl⟩
  have kx : Bk U w.heap.size 24 #[.int .i64 nn, .int .i64 (c : Int), .int .i64 aa, .int .i64 ff, .int .i64 tt] := by rw [hU]; exact Bk.new _ _ _
  have hbU : w.grownBy U (some g) := by rw [hU]; exact grownBy_alloc' (World.grownBy.refl _ _) _
  have ho : Bk U bo 29 #[.slice (some ⟨g, 0, none⟩) zs.length zs.length] := by rw [hU]; exact HO.out.alloc _
  have hg : Bk U g 3 (i64s zs).toArray := by rw [hU]; exact HG.out.alloc _
  rw [← hU]
  clear hU
  obtain ⟨y0, y1, y2, y3, y4⟩ := box5 kx
  have a0 := box1 ho
  have a1 := hg.cell c
  have a2 := hg.frozen c
  rw [show (i64s zs).toArray[c]? = some (.int .i64 zs[c]) from by simpa using i64s_get zs c hcl] at a1
  have HGU := Lib.hid hg
  have HBU := Lib.hid hbU
  clear kx ho hg hbU
  refine region_tail 12 (by kernel_rfl) (by kernel_rfl) ?_
  simp only [List.take_succ_cons, List.take_zero, List.drop_succ_cons, List.drop_zero]
  repeat still_step
  refine wpStill_nil ?_
  go_wp2
  all_goals
    go_end0
    refine ⟨rfl, ?_, grown_store HBU.out _ _⟩
    rw [HS.out]
    first
      | rw [show max zs[c] aa = aa from by omega, ← i64s_set]; exact (HGU.out.set c _).drew
      | rw [show max zs[c] aa = zs[c] from by omega, ← i64s_set]; exact (HGU.out.set c _).drew
theorem alv_out {l : List Lea} {n tick : Int} (h : alvB l n tick = false) : alvE l n tick = 1 ∧ alvL l n tick = [] := by simp [alvE, alvL, h]
theorem alv_bad {l : List Lea} {n tick : Int} (h : vlB l = false ∨ n < 0 ∨ 16 < n ∨ tick < 0 ∨ 1100000 < tick) : alvE l n tick = 1 ∧ alvL l n tick = [] := by
  apply alv_out
  unfold alvB
  rcases h with h | h
  · simp [h]
  · rw [show decide (0 ≤ n ∧ n ≤ 16 ∧ 0 ≤ tick ∧ tick ≤ 1100000) = false from decide_eq_false (by omega)]; simp
theorem alv_far {l : List Lea} {n tick : Int} {x : Lea} (hx : x ∈ l) (h : n ≤ x.c) : alvE l n tick = 1 ∧ alvL l n tick = [] := by
  apply alv_out
  unfold alvB
  rw [show (l.all fun x => decide (x.c < n)) = false from List.all_eq_false.2 ⟨x, hx, by simp; omega⟩]; simp
theorem alv_ok {l : List Lea} {m : Nat} {tick : Int} (h : vlB l = true) (hm : m ≤ 16) (h0 : 0 ≤ tick) (h1 : tick ≤ 1100000) (hc : ∀ x ∈ l, x.c < (m : Int)) : alvE l m tick = 0 ∧ alvL l m tick = (l.filter (aliB tick)).foldl stepA (zerosI m) := by
  have : alvB l m tick = true := by
    unfold alvB
    rw [h, show decide (0 ≤ (m : Int) ∧ (m : Int) ≤ 16 ∧ 0 ≤ tick ∧ tick ≤ 1100000) = true from decide_eq_true (by omega)]
    simpa using hc
  refine ⟨by simp [alvE, this], ?_⟩
  rw [alvL, if_pos this, aliveL, Int.toNat_natCast]; rfl
theorem fold_pos {l : List Lea} {k m : Nat} {tick : Int} {x : Lea} (hk : k < l.length) (hx : x = l[k]) (hp : aliB tick x = true) : ((l.take (k + 1)).filter (aliB tick)).foldl stepA (zerosI m) = stepA (((l.take k).filter (aliB tick)).foldl stepA (zerosI m)) x := by
  rw [filter_take_pos hk hx hp, List.foldl_append]; rfl
theorem fold_neg {l : List Lea} {k m : Nat} {tick : Int} {x : Lea} (hk : k < l.length) (hx : x = l[k]) (hp : aliB tick x = false) : ((l.take (k + 1)).filter (aliB tick)).foldl stepA (zerosI m) = ((l.take k).filter (aliB tick)).foldl stepA (zerosI m) := by
  rw [filter_take_neg hk hx hp]
theorem all_take {l : List Lea} {k : Nat} {m : Int} (hk : k < l.length) (h : ∀ x ∈ l.take k, x.c < m) (hx : l[k].c < m) : ∀ x ∈ l.take (k + 1), x.c < m := by
  intro x h'
  rw [List.take_succ_eq_append_getElem hk, List.mem_append] at h'
  rcases h' with h' | h'
  · exact h x h'
  · rw [List.mem_singleton.1 h']; exact hx

set_option maxHeartbeats 4000000 in
theorem rAlive_any (l : List Lea) (A : Option Addr) (c : Nat) (n tick : Int) (w : World) (hA : RdL w w.heap.size A l) (hn : l.length ≤ 1000000000) :
    Calls Try.prog 14 #[.slice A l.length c, .int .i64 n, .int .i64 tick] w (IPost w (alvL l n tick) (alvE l n tick)) := by
  have HA := Lib.hid hA
  clear hA
  by_cases hv : vlB l = true
  · have HV := Lib.hid hv
    clear hv
    by_cases h0 : n < 0
    · have z0 : decide (n < 0) = true := decide_eq_true (by omega)
      obtain ⟨e1, e2⟩ := alv_bad (l := l) (n := n) (tick := tick) (by omega)
      rw [e1, e2]
      clear e1 e2
      go_enter Try.func14, Try.ntmps14
      go_wp2_with fail
      refine (rValid_lit true l A c _ HV.out HA.out hn).mono ?_
      rintro e V ⟨rfl, hbV⟩
      have HBV := Lib.hid hbV
      have hlow := hbV.size
      clear hbV
      go_wp2
      go_ret2
      exact ⟨none, 0, rfl, Nat.le_refl _, RdI.nil, HBV.out⟩
    · have z0 : decide (n < 0) = false := decide_eq_false (by omega)
      by_cases h1 : 16 < n
      · have z1 : decide (16 < n) = true := decide_eq_true (by omega)
        obtain ⟨e1, e2⟩ := alv_bad (l := l) (n := n) (tick := tick) (by omega)
        rw [e1, e2]
        clear e1 e2
        go_enter Try.func14, Try.ntmps14
        go_wp2_with fail
        refine (rValid_lit true l A c _ HV.out HA.out hn).mono ?_
        rintro e V ⟨rfl, hbV⟩
        have HBV := Lib.hid hbV
        have hlow := hbV.size
        clear hbV
        go_wp2
        go_ret2
        exact ⟨none, 0, rfl, Nat.le_refl _, RdI.nil, HBV.out⟩
      · have z1 : decide (16 < n) = false := decide_eq_false (by omega)
        by_cases h2 : tick < 0
        · have z2 : decide (tick < 0) = true := decide_eq_true (by omega)
          obtain ⟨e1, e2⟩ := alv_bad (l := l) (n := n) (tick := tick) (by omega)
          rw [e1, e2]
          clear e1 e2
          go_enter Try.func14, Try.ntmps14
          go_wp2_with fail
          refine (rValid_lit true l A c _ HV.out HA.out hn).mono ?_
          rintro e V ⟨rfl, hbV⟩
          have HBV := Lib.hid hbV
          have hlow := hbV.size
          clear hbV
          go_wp2
          go_ret2
          exact ⟨none, 0, rfl, Nat.le_refl _, RdI.nil, HBV.out⟩
        · have z2 : decide (tick < 0) = false := decide_eq_false (by omega)
          by_cases h3 : 1100000 < tick
          · have z3 : decide (1100000 < tick) = true := decide_eq_true (by omega)
            obtain ⟨e1, e2⟩ := alv_bad (l := l) (n := n) (tick := tick) (by omega)
            rw [e1, e2]
            clear e1 e2
            go_enter Try.func14, Try.ntmps14
            go_wp2_with fail
            refine (rValid_lit true l A c _ HV.out HA.out hn).mono ?_
            rintro e V ⟨rfl, hbV⟩
            have HBV := Lib.hid hbV
            have hlow := hbV.size
            clear hbV
            go_wp2
            go_ret2
            exact ⟨none, 0, rfl, Nat.le_refl _, RdI.nil, HBV.out⟩
          · have z3 : decide (1100000 < tick) = false := decide_eq_false (by omega)
            obtain ⟨m, rfl⟩ := Int.eq_ofNat_of_zero_le (by omega : 0 ≤ n)
            have hm16 : m ≤ 16 := by omega
            have hmk := run_make_int m (by omega)
            go_enter Try.func14, Try.ntmps14
            go_wp2_with fail
            refine (rValid_lit true l A c _ HV.out HA.out hn).mono ?_
            rintro e V ⟨rfl, hbV⟩
            have HBV := Lib.hid hbV
            have hlow := hbV.size
            clear hbV
            go_wp2
            go_loopw [9] (fun i wr => ∃ k : Nat, i = .int .i64 k ∧ k ≤ l.length ∧ (∀ x ∈ l.take k, x.c < (m : Int)) ∧ Bk wr V.heap.size 3 (i64s (((l.take k).filter (aliB tick)).foldl stepA (zerosI m))).toArray ∧ Below w.heap.size w wr) (fun i _ => l.length - (intOf i).toNat)
            case atStart => exact ⟨0, rfl, Nat.zero_le _, by simp, Bk.new _ _ _, bt (al1 _ _) HBV.out⟩
            case round =>
              clear hmk
              obtain ⟨k, rfl, hk, hall, hg, hb⟩ := hrel
              have HALL := Lib.hid hall
              have HB := Lib.hid hb
              clear hall hb
              by_cases hlt : k < l.length
              · obtain ⟨b, o, rfl, hbb, x0, x1, x2, x3, x4⟩ := (HA.out.next HB.out).at_ hlt
                obtain ⟨x, hx⟩ : ∃ y, y = l[k] := ⟨_, rfl⟩
                have h1x := vlB_one HV.out (List.getElem_mem hlt)
                rw [← hx] at x0 x1 x2 x3 x4 h1x
                have HX := Lib.hid hx
                have H1X := Lib.hid h1x
                have xc0 := ((oneB_iff x).1 h1x).2.2.1
                clear hx h1x
                obtain ⟨zs, hzs⟩ : ∃ zs, zs = (((l.take k).filter (aliB tick)).foldl stepA (zerosI m)) := ⟨_, rfl⟩
                have hzl : zs.length = m := by rw [hzs, foldA_length]; simp
                rw [← hzs] at hg
                have HZ := Lib.hid hzs
                have HG := Lib.hid hg
                have HZL := Lib.hid hzl
                clear hzs hg hzl
                have k1 : (0 : Int) ≤ (k : Int) := by omega
                have k2 : (k : Int) < (l.length : Int) := by omega
                by_cases hc : (m : Int) ≤ x.c
                · obtain ⟨e1, e2⟩ := alv_far (tick := tick) (by rw [HX.out]; exact List.getElem_mem hlt : x ∈ l) hc
                  have HE : Hid (alvE l m tick = 1 ∧ alvL l m tick = []) := ⟨e1, e2⟩
                  clear e1 e2
                  go_wp2
                  go_ret2
                  refine ⟨none, 0, ?_, ?_, ?_, HB.out⟩
                  · rw [HE.out.1, HE.out.2]; rfl
                  · rw [HE.out.2]; exact Nat.le_refl _
                  · rw [HE.out.2]; exact RdI.nil
                · have hc' : x.c < (m : Int) := by omega
                  clear hc
                  by_cases hf : x.f ≤ tick
                  · by_cases he : tick < endI x
                    · have ha : aliB tick x = true := by rw [aliB_iff]; unfold endI at he; omega
                      have HAL := Lib.hid ha
                      clear ha
                      go_wp2_with fail
                      refine (rEnd_any x _ H1X.out).mono ?_
                      rintro e W2 ⟨rfl, hb2⟩
                      have HB2 := Lib.hid hb2
                      clear hb2
                      have q0 := (HB2.out.cell (p := ⟨b, o + k * 5, none⟩) hbb).trans x0
                      have q1 := (HB2.out.cell (p := ⟨b, o + k * 5 + 1, none⟩) hbb).trans x1
                      have q2 := (HB2.out.cell (p := ⟨b, o + k * 5 + 2, none⟩) hbb).trans x2
                      have q3 := (HB2.out.cell (p := ⟨b, o + k * 5 + 3, none⟩) hbb).trans x3
                      have q4 := (HB2.out.cell (p := ⟨b, o + k * 5 + 4, none⟩) hbb).trans x4
                      clear x0 x1 x2 x3 x4
                      obtain ⟨cc, hcc⟩ := Int.eq_ofNat_of_zero_le xc0
                      have hcl : cc < zs.length := by have := HZL.out; omega
                      have HS := Lib.hid (stepA_set (x := x) hcl hcc)
                      have HG2 := Lib.hid (HG.out.next HB2.out)
                      have a1 := HG2.out.cell cc
                      have a2 := HG2.out.frozen cc
                      rw [show (i64s zs).toArray[cc]? = some (.int .i64 zs[cc]) from by simpa using i64s_get zs cc hcl] at a1
                      have c1 : (0 : Int) ≤ (cc : Int) := by omega
                      have c2 : (cc : Int) < (m : Int) := by omega
                      rw [hcc] at q1
                      clear hcc
                      go_wp2
                      refine region_tail 21 (by kernel_rfl) (by kernel_rfl) ?_
                      simp only [List.take_succ_cons, List.take_zero, List.drop_succ_cons, List.drop_zero]
                      repeat still_step
                      refine wpStill_nil ?_
                      go_wp2
                      all_goals
                        go_roundw
                        case rel =>
                          refine ⟨k + 1, by go_num, by omega, all_take hlt HALL.out (by rw [← HX.out]; omega), ?_, ?_⟩
                          · rw [fold_pos hlt HX.out HAL.out, ← HZ.out, HS.out]
                            first
                              | rw [show max zs[cc] x.a = (if zs[cc] < x.a then x.a else zs[cc]) from by split <;> omega, ← i64s_set]; exact (HG2.out.set cc _).drew
                              | rw [show max zs[cc] x.a = x.a from by omega, ← i64s_set]; exact (HG2.out.set cc _).drew
                              | rw [show max zs[cc] x.a = zs[cc] from by omega, ← i64s_set]; exact (HG2.out.set cc _).drew
                          · exact ((bt HB2.out HB.out).setCell (p := ⟨V.heap.size, cc, none⟩) hlow _).drew
                        case measure => simp [intOf]; omega
                    · have ha : aliB tick x = false := by rw [← Bool.not_eq_true, aliB_iff]; unfold endI at he; omega
                      have HAL := Lib.hid ha
                      clear ha
                      go_wp2_with fail
                      refine (rEnd_any x _ H1X.out).mono ?_
                      rintro e W2 ⟨rfl, hb2⟩
                      have HB2 := Lib.hid hb2
                      clear hb2
                      go_wp2
                      go_roundw
                      case rel => exact ⟨k + 1, by go_num, by omega, all_take hlt HALL.out (by rw [← HX.out]; omega), by rw [fold_neg hlt HX.out HAL.out, ← HZ.out]; exact HG.out.next HB2.out, bt HB2.out HB.out⟩
                      case measure => simp [intOf]; omega
                  · have ha : aliB tick x = false := by rw [← Bool.not_eq_true, aliB_iff]; omega
                    have HAL := Lib.hid ha
                    clear ha
                    go_wp2
                    go_roundw
                    case rel => exact ⟨k + 1, by go_num, by omega, all_take hlt HALL.out (by rw [← HX.out]; omega), by rw [fold_neg hlt HX.out HAL.out, ← HZ.out]; exact HG.out, HB.out⟩
                    case measure => simp [intOf]; omega
              · obtain rfl : k = l.length := by omega
                rw [List.take_of_length_le (Nat.le_refl _)] at hg
                have hall := HALL.out
                rw [List.take_of_length_le (Nat.le_refl _)] at hall
                have HE := Lib.hid (alv_ok (tick := tick) HV.out hm16 (by omega) (by omega) hall)
                have hzl : ((l.filter (aliB tick)).foldl stepA (zerosI m)).length = m := by rw [foldA_length]; simp
                obtain ⟨zs, hzs⟩ : ∃ zs, zs = (l.filter (aliB tick)).foldl stepA (zerosI m) := ⟨_, rfl⟩
                rw [← hzs] at hg hzl HE
                have HG := Lib.hid hg
                have HZL := Lib.hid hzl
                clear hg hzl hzs hall
                go_wp2
                go_ret2
                refine ⟨some ⟨V.heap.size, 0, none⟩, m, ?_, ?_, ?_, HB.out⟩
                · rw [HE.out.1, HE.out.2, HZL.out]; rfl
                · rw [HE.out.2, HZL.out]; exact Nat.le_refl _
                · rw [HE.out.2]; exact RdI.of_bk HG.out HG.out.lt
  · have hv : vlB l = false := by simpa using hv
    obtain ⟨e1, e2⟩ := alv_bad (l := l) (n := n) (tick := tick) (.inl hv)
    rw [e1, e2]
    clear e1 e2
    have HV := Lib.hid hv
    clear hv
    go_enter Try.func14, Try.ntmps14
    go_wp2_with fail
    refine (rValid_lit false l A c _ HV.out HA.out hn).mono ?_
    rintro e V ⟨rfl, hbV⟩
    have HBV := Lib.hid hbV
    have hlow := hbV.size
    clear hbV
    go_wp2
    go_ret2
    exact ⟨none, 0, rfl, Nat.le_refl _, RdI.nil, HBV.out⟩
end Go.Proofs.Ytneiaolkicgfkaa
