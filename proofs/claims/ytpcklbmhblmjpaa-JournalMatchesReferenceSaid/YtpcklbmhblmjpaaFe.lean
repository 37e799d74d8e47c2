/- flash.Program and flash.Erase: the lists of memories, for every argument. -/
import Derived.Test.YtpcklbmhblmjpaaFd
set_option maxRecDepth 100000
set_option linter.unusedVariables false
namespace Go.Proofs.Ytpcklbmhblmjpaa
open Go.RowKit

/-- the error of programming, and the memories -/
def progE (m : Mem) (p : Int) (ds : List UInt8) : Int := if validB m.1 m.2.length = true ∧ 0 ≤ p then (if p ≤ (m.2.length : Int) - (ds.length : Int) then 0 else 3) else 1
def progL (m : Mem) (p : Int) (ds : List UInt8) : List Mem := if progE m p ds = 0 then (memos (andF ds) m.2 p.toNat ds.length).map fun b => (m.1, b) else []
/-- the error of erasing, and the memories -/
def eraE (m : Mem) (k : Int) : Int := if validB m.1 m.2.length = true ∧ 0 ≤ k ∧ k < (m.2.length : Int) / m.1 then 0 else 1
def eraL (m : Mem) (k : Int) : List Mem := if eraE m k = 0 then (memos eraF m.2 (k * m.1).toNat m.1.toNat).map fun b => (m.1, b) else []

theorem prog_in {m : Mem} {p : Int} {ds : List UInt8} (h1 : validB m.1 m.2.length = true) (h2 : 0 ≤ p) (h3 : p ≤ (m.2.length : Int) - (ds.length : Int)) :
    progE m p ds = 0 ∧ progL m p ds = (memos (andF ds) m.2 p.toNat ds.length).map fun b => (m.1, b) := by simp [progE, progL, h1, h2, h3]
theorem prog_far {m : Mem} {p : Int} {ds : List UInt8} (h1 : validB m.1 m.2.length = true) (h2 : 0 ≤ p) (h3 : ¬ p ≤ (m.2.length : Int) - (ds.length : Int)) :
    progE m p ds = 3 ∧ progL m p ds = [] := by simp [progE, progL, h1, h2, h3]
theorem prog_bad {m : Mem} {p : Int} {ds : List UInt8} (h : validB m.1 m.2.length = false ∨ p < 0) : progE m p ds = 1 ∧ progL m p ds = [] := by
  have : ¬ (validB m.1 m.2.length = true ∧ 0 ≤ p) := by rcases h with h | h <;> simp [h] <;> omega
  simp [progE, progL, this]
theorem era_in {m : Mem} {k : Int} (h1 : validB m.1 m.2.length = true) (h2 : 0 ≤ k) (h3 : k < (m.2.length : Int) / m.1) :
    eraE m k = 0 ∧ eraL m k = (memos eraF m.2 (k * m.1).toNat m.1.toNat).map fun b => (m.1, b) := by simp [eraE, eraL, h1, h2, h3]
theorem era_bad {m : Mem} {k : Int} (h : validB m.1 m.2.length = false ∨ k < 0 ∨ ¬ k < (m.2.length : Int) / m.1) : eraE m k = 1 ∧ eraL m k = [] := by
  have : ¬ (validB m.1 m.2.length = true ∧ 0 ≤ k ∧ k < (m.2.length : Int) / m.1) := by rcases h with h | h | h <;> simp [h] <;> omega
  simp [eraE, eraL, this]
theorem valid_iff (s : Int) (n : Nat) : validB s n = true ↔ 1 ≤ s ∧ s ≤ 512 ∧ s ≤ n ∧ n ≤ 4096 ∧ (n : Int) % s = 0 := by simp [validB, and_assoc]
/-- a sector lies in the memory -/
theorem sector_in {s k : Int} {n : Nat} (hs : 1 ≤ s) (h1 : (n : Int) % s = 0) (h2 : 0 ≤ k) (h3 : k < (n : Int) / s) : 0 ≤ k * s ∧ k * s + s ≤ n := by
  have e := Int.emod_add_mul_ediv (n : Int) s
  have h4 : (k + 1) * s ≤ (n : Int) / s * s := Int.mul_le_mul_of_nonneg_right (by omega) (by omega)
  have h5 : (k + 1) * s = k * s + s := by rw [Int.add_mul, Int.one_mul]
  have h6 : (n : Int) / s * s = s * ((n : Int) / s) := Int.mul_comm _ _
  have h7 := Int.mul_nonneg h2 (by omega : 0 ≤ s)
  omega

def ListPost (w : World) (ms : List Mem) (er : Int) (e : Ending) (w' : World) : Prop :=
  ∃ A c, e = .returned (.tuple #[.slice A ms.length c, .int .i64 er]) ∧ ms.length ≤ c ∧ RdFs w' w'.heap.size A ms ∧ Below w.heap.size w w'

set_option maxHeartbeats 2000000 in
theorem Program_any (m : Mem) (p : Int) (ds : List UInt8) (A Ad : Option Addr) (c cd : Nat) (w : World) (hA : RdB w w.heap.size A m.2) (hAd : RdB w w.heap.size Ad ds) (hn : m.2.length ≤ 1000000000) (hd : ds.length ≤ 1000000000) (hp0 : -9223372036854775808 ≤ p) (hp1 : p ≤ 9223372036854775807) :
    Calls Try.prog 50 #[.agg #[.int .i64 m.1, .slice A m.2.length c], .int .i64 p, .slice Ad ds.length cd] w (ListPost w (progL m p ds) (progE m p ds)) := by
  obtain ⟨s, bs⟩ := m
  dsimp only at *
  have HA := Lib.hid hA
  have HD := Lib.hid hAd
  clear hA hAd
  have hB0 : Below w.heap.size w ((w.alloc (.cells #[.int .i64 s, .slice A bs.length c] 24)).alloc (.cells #[.slice Ad ds.length cd] 22)) := ((Below.refl _ w).alloc (Nat.le_refl _) _).alloc (by simp) _
  have k1 : Bk ((w.alloc (.cells #[.int .i64 s, .slice A bs.length c] 24)).alloc (.cells #[.slice Ad ds.length cd] 22)) w.heap.size 24 #[.int .i64 s, .slice A bs.length c] := bkOf (by simp [at?_alloc])
  have k2 : Bk ((w.alloc (.cells #[.int .i64 s, .slice A bs.length c] 24)).alloc (.cells #[.slice Ad ds.length cd] 22)) (w.heap.size + 1) 22 #[.slice Ad ds.length cd] := bkOf (by simp [at?_alloc])
  by_cases hv : validB s bs.length = true
  · have hv' := (valid_iff _ _).1 hv
    obtain ⟨v1, v2, v3, v4, v5⟩ := hv'
    by_cases h0 : 0 ≤ p
    · by_cases h1 : p ≤ (bs.length : Int) - (ds.length : Int)
      · obtain ⟨e1, e2⟩ := prog_in (m := (s, bs)) hv h0 h1
        rw [e1, e2]
        clear e1 e2 v5
        obtain ⟨q, rfl⟩ := Int.eq_ofNat_of_zero_le h0
        go_enter Try.func50, Try.ntmps50
        go_wp2_with fail
        refine (Valid_any _ _ _ _ _).mono ?_
        rintro e W2 ⟨rfl, hb2⟩
        have k3 := k1.next hb2
        have k4 := k2.next hb2
        have c0 := k3.cell 0
        have c1 := k3.cell 1
        have c2 := k4.cell 0
        simp only [List.getElem?_toArray, List.getElem?_cons_zero, List.getElem?_cons_succ] at c0 c1 c2
        have hbb := bt hb2 hB0
        clear k1 k2 hb2 hB0
        go_wp2_with fail
        refine (memories_any s A bs.length c q ds.length _ ⟨_, _, rfl⟩ _).mono ?_
        rintro e W3 ⟨rfl, hW3⟩
        have hb3 : Below W2.heap.size W2 W3 := by
          rw [hW3]
          exact (((Below.refl _ _).alloc (Nat.le_refl _) _).alloc (by simp) _).alloc (by simp; omega) _ |>.alloc (by simp; omega) _
        have g1 : Bk W3 W2.heap.size 24 #[.int .i64 s, .slice A bs.length c] := by rw [hW3]; exact (((Bk.new _ _ _).alloc _).alloc _).alloc _
        have g2 : Bk W3 (W2.heap.size + 1) 3 #[.int .i64 (q : Int)] := by rw [hW3]; exact bkOf (by simp [at?_alloc])
        have g3 : Bk W3 (W2.heap.size + 2) 3 #[.int .i64 (ds.length : Int)] := by rw [hW3]; exact bkOf (by simp [at?_alloc])
        have g4 : Bk W3 (W2.heap.size + 3) 85 #[.func (.func 59) #[] #[.pointer (some ⟨w.heap.size + 1, 0, none⟩)]] := by rw [hW3]; exact bkOf (by simp [at?_alloc])
        have hseq := memories_prog s bs q ds Ad cd (w.heap.size + 1) W2.heap.size (W2.heap.size + 2) (W2.heap.size + 3) (W2.heap.size + 1) A c W3 g1 ((HA.out.next hbb).next hb3) g3 g2 g4 (k4.next hb3) ((HD.out.next hbb).next hb3) (by omega) (by omega)
        have hbw3 := bt hb3 hbb
        clear hW3 g1 g2 g3 g4 c0 c1 c2 k3 k4 hb3
        go_wp2_with fail
        refine (collect_any s _ _ (ds.length + 1) (by omega) W3 hseq).mono ?_
        rintro e W4 ⟨A4, c4, rfl, hc4, hr4, hb4⟩
        go_wp2
        go_ret2
        exact ⟨A4, c4, by simp, by simpa using hc4, by simpa using hr4, bt hb4 hbw3⟩
      · obtain ⟨e1, e2⟩ := prog_far (m := (s, bs)) (ds := ds) hv h0 h1
        rw [e1, e2]
        clear e1 e2 v5
        go_enter Try.func50, Try.ntmps50
        go_wp2_with fail
        refine (Valid_any _ _ _ _ _).mono ?_
        rintro e W2 ⟨rfl, hb2⟩
        have k3 := k1.next hb2
        have k4 := k2.next hb2
        have c0 := k3.cell 0
        have c1 := k3.cell 1
        have c2 := k4.cell 0
        simp only [List.getElem?_toArray, List.getElem?_cons_zero, List.getElem?_cons_succ] at c0 c1 c2
        have hbb := bt hb2 hB0
        clear k1 k2 hb2 hB0 k3 k4
        go_wp2
        go_ret2
        exact ⟨none, 0, rfl, Nat.le_refl _, RdFs.nil, hbb⟩
    · obtain ⟨e1, e2⟩ := prog_bad (m := (s, bs)) (p := p) (ds := ds) (.inr (by omega))
      rw [e1, e2]
      clear e1 e2 v5
      go_enter Try.func50, Try.ntmps50
      go_wp2_with fail
      refine (Valid_any _ _ _ _ _).mono ?_
      rintro e W2 ⟨rfl, hb2⟩
      have k3 := k1.next hb2
      have k4 := k2.next hb2
      have c0 := k3.cell 0
      have c1 := k3.cell 1
      have c2 := k4.cell 0
      simp only [List.getElem?_toArray, List.getElem?_cons_zero, List.getElem?_cons_succ] at c0 c1 c2
      have hbb := bt hb2 hB0
      clear k1 k2 hb2 hB0 k3 k4
      go_wp2
      go_ret2
      exact ⟨none, 0, rfl, Nat.le_refl _, RdFs.nil, hbb⟩
  · have hv' : validB s bs.length = false := by simpa using hv
    obtain ⟨e1, e2⟩ := prog_bad (m := (s, bs)) (p := p) (ds := ds) (.inl hv')
    rw [e1, e2]
    clear e1 e2 hv
    go_enter Try.func50, Try.ntmps50
    go_wp2_with fail
    refine (Valid_any _ _ _ _ _).mono ?_
    rintro e W2 ⟨rfl, hb2⟩
    have k3 := k1.next hb2
    have k4 := k2.next hb2
    have c0 := k3.cell 0
    have c1 := k3.cell 1
    have c2 := k4.cell 0
    simp only [List.getElem?_toArray, List.getElem?_cons_zero, List.getElem?_cons_succ] at c0 c1 c2
    have hbb := bt hb2 hB0
    clear k1 k2 hb2 hB0 k3 k4
    go_wp2
    go_ret2
    exact ⟨none, 0, rfl, Nat.le_refl _, RdFs.nil, hbb⟩

set_option maxHeartbeats 2000000 in
theorem Erase_any (m : Mem) (k : Int) (A : Option Addr) (c : Nat) (w : World) (hA : RdB w w.heap.size A m.2) (hn : m.2.length ≤ 1000000000) (hp0 : -9223372036854775808 ≤ k) (hp1 : k ≤ 9223372036854775807) :
    Calls Try.prog 56 #[.agg #[.int .i64 m.1, .slice A m.2.length c], .int .i64 k] w (ListPost w (eraL m k) (eraE m k)) := by
  obtain ⟨s, bs⟩ := m
  dsimp only at *
  have HA := Lib.hid hA
  clear hA
  have hB0 : Below w.heap.size w (w.alloc (.cells #[.int .i64 s, .slice A bs.length c] 24)) := (Below.refl _ w).alloc (Nat.le_refl _) _
  have k1 : Bk (w.alloc (.cells #[.int .i64 s, .slice A bs.length c] 24)) w.heap.size 24 #[.int .i64 s, .slice A bs.length c] := Bk.new _ _ _
  by_cases hv : validB s bs.length = true
  · have hv' := (valid_iff _ _).1 hv
    obtain ⟨v1, v2, v3, v4, v5⟩ := hv'
    have d0 : 0 ≤ (bs.length : Int) / s := Int.ediv_nonneg (by omega) (by omega)
    have d1 : (bs.length : Int) / s ≤ 4096 := Int.le_trans (Int.ediv_le_self _ (by omega)) (by omega)
    by_cases h0 : 0 ≤ k
    · by_cases h1 : k < (bs.length : Int) / s
      · obtain ⟨e1, e2⟩ := era_in (m := (s, bs)) hv h0 h1
        rw [e1, e2]
        clear e1 e2
        obtain ⟨q0, q1⟩ := sector_in v1 v5 h0 h1
        have HQ : Hid ((k * s).toNat + s.toNat ≤ bs.length) := by show (k * s).toNat + s.toNat ≤ bs.length; omega
        obtain ⟨x, hx⟩ := Int.eq_ofNat_of_zero_le q0
        have HX := Lib.hid hx
        have q2 : k * s ≤ 4096 := by omega
        clear v5 hx
        go_enter Try.func56, Try.ntmps56
        go_wp2_with fail
        refine (Valid_any _ _ _ _ _).mono ?_
        rintro e W2 ⟨rfl, hb2⟩
        have k3 := k1.next hb2
        have c0 := k3.cell 0
        have c1 := k3.cell 1
        simp only [List.getElem?_toArray, List.getElem?_cons_zero, List.getElem?_cons_succ] at c0 c1
        have hbb := bt hb2 hB0
        clear k1 hb2 hB0
        go_wp2_with fail
        refine (memories_any s A bs.length c (k * s) s _ ⟨_, _, rfl⟩ _).mono ?_
        rintro e W3 ⟨rfl, hW3⟩
        have hb3 : Below W2.heap.size W2 W3 := by
          rw [hW3]
          exact (((Below.refl _ _).alloc (Nat.le_refl _) _).alloc (by simp) _).alloc (by simp; omega) _ |>.alloc (by simp; omega) _
        have g1 : Bk W3 W2.heap.size 24 #[.int .i64 s, .slice A bs.length c] := by rw [hW3]; exact (((Bk.new _ _ _).alloc _).alloc _).alloc _
        have g2 : Bk W3 (W2.heap.size + 1) 3 #[.int .i64 ((k * s).toNat : Int)] := by rw [hW3, Int.toNat_of_nonneg q0]; exact bkOf (by simp [at?_alloc])
        have g3 : Bk W3 (W2.heap.size + 2) 3 #[.int .i64 (s.toNat : Int)] := by rw [hW3, Int.toNat_of_nonneg (by omega)]; exact bkOf (by simp [at?_alloc])
        have g4 : Bk W3 (W2.heap.size + 3) 85 #[.func (.func 64) #[] #[]] := by rw [hW3]; exact bkOf (by simp [at?_alloc])
        have hseq := memories_erase s bs (k * s).toNat s.toNat W2.heap.size (W2.heap.size + 2) (W2.heap.size + 3) (W2.heap.size + 1) A c W3 g1 ((HA.out.next hbb).next hb3) g3 g2 g4 HQ.out (by omega)
        have hbw3 := bt hb3 hbb
        clear hW3 g1 g2 g3 g4 c0 c1 k3 hb3
        go_wp2_with fail
        refine (collect_any s _ _ (s.toNat + 1) (by omega) W3 hseq).mono ?_
        rintro e W4 ⟨A4, c4, rfl, hc4, hr4, hb4⟩
        go_wp2
        go_ret2
        exact ⟨A4, c4, by simp, by simpa using hc4, by simpa using hr4, bt hb4 hbw3⟩
      · have h1' : (bs.length : Int) / s ≤ k := by omega
        obtain ⟨e1, e2⟩ := era_bad (m := (s, bs)) (k := k) (.inr (.inr h1))
        rw [e1, e2]
        clear e1 e2 v5
        go_enter Try.func56, Try.ntmps56
        go_wp2_with fail
        refine (Valid_any _ _ _ _ _).mono ?_
        rintro e W2 ⟨rfl, hb2⟩
        have k3 := k1.next hb2
        have c0 := k3.cell 0
        have c1 := k3.cell 1
        simp only [List.getElem?_toArray, List.getElem?_cons_zero, List.getElem?_cons_succ] at c0 c1
        have hbb := bt hb2 hB0
        clear k1 hb2 hB0 k3
        go_wp2
        go_ret2
        exact ⟨none, 0, rfl, Nat.le_refl _, RdFs.nil, hbb⟩
    · obtain ⟨e1, e2⟩ := era_bad (m := (s, bs)) (k := k) (.inr (.inl (by omega)))
      rw [e1, e2]
      clear e1 e2 v5
      go_enter Try.func56, Try.ntmps56
      go_wp2_with fail
      refine (Valid_any _ _ _ _ _).mono ?_
      rintro e W2 ⟨rfl, hb2⟩
      have k3 := k1.next hb2
      have c0 := k3.cell 0
      have c1 := k3.cell 1
      simp only [List.getElem?_toArray, List.getElem?_cons_zero, List.getElem?_cons_succ] at c0 c1
      have hbb := bt hb2 hB0
      clear k1 hb2 hB0 k3
      go_wp2
      go_ret2
      exact ⟨none, 0, rfl, Nat.le_refl _, RdFs.nil, hbb⟩
  · have hv' : validB s bs.length = false := by simpa using hv
    obtain ⟨e1, e2⟩ := era_bad (m := (s, bs)) (k := k) (.inl hv')
    rw [e1, e2]
    clear e1 e2 hv
    go_enter Try.func56, Try.ntmps56
    go_wp2_with fail
    refine (Valid_any _ _ _ _ _).mono ?_
    rintro e W2 ⟨rfl, hb2⟩
    have k3 := k1.next hb2
    have c0 := k3.cell 0
    have c1 := k3.cell 1
    simp only [List.getElem?_toArray, List.getElem?_cons_zero, List.getElem?_cons_succ] at c0 c1
    have hbb := bt hb2 hB0
    clear k1 hb2 hB0 k3
    go_wp2
    go_ret2
    exact ⟨none, 0, rfl, Nat.le_refl _, RdFs.nil, hbb⟩
end Go.Proofs.Ytpcklbmhblmjpaa
