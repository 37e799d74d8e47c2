/- Arguments opened: slices of slices of bytes. -/
import Derived.Test.YtpcklbmhblmjpaaOpen
import Derived.Test.YtpcklbmhblmjpaaJMem
import Derived.Deep.Slices
import Derived.Deep.Fields
import Derived.ChangeSame
set_option maxRecDepth 100000
set_option linter.unusedVariables false
set_option linter.unusedSimpArgs false
namespace Go.Proofs.Ytpcklbmhblmjpaa
open Go.ChangeShapes Go.WideShapes Go.ChangeAt Go.RowKit Go.Joins Go.Deep

theorem open_bytess {H : Type} {enc : TypeId × Value → H} {w : World} {r : Reach} {b0 : Nat} {v : Value} {d : DataW H} {p : List MemPlace} (hv : Value.okWide Try.prog w r b0 25 v) (h : DataW.Trod enc Try.prog w 0 (fun _ => true) true 25 v d p) :
    ∃ (A : Option Addr) (l : List Rec) (c : Nat), v = .slice A l.length c ∧ l.length ≤ c ∧ c ≤ maxLen ∧ RdBs w w.heap.size A l ∧ ∀ d ∈ l, d.length ≤ maxLen := by
  obtain ⟨a, len, cap, rfl⟩ := okWide_slice (P := Try.prog) Try.underlying25 hv
  obtain ⟨fuel, hf⟩ := h
  have hC : Try.prog.cellsOf 22 = 1 := by kernel_rfl
  rcases open_slice Try.underlying25 (by simpa [Value.cells] using hf) with ⟨hcs, _⟩ | ⟨a', len', cap', m, n, D, Pl, hcs, _, hl, hm, hmm, _, hi⟩
  · obtain ⟨rfl, rfl, rfl⟩ : a = none ∧ len = 0 ∧ cap = 0 := by simpa using hcs
    exact ⟨none, [], 0, rfl, Nat.le_refl _, by simp [maxLen], RdBs.nil, by simp⟩
  · obtain ⟨rfl, rfl, rfl⟩ : a = some a' ∧ len = len' ∧ cap = cap' := by simpa using hcs
    simp only [if_true] at hmm
    subst hmm
    rw [hC] at hi
    have hy : ∀ i, i < len → ∃ y : Option Addr × Nat × Rec, w.cell? (a'.add i) = some (.slice y.1 y.2.2.length y.2.1) ∧ y.2.2.length ≤ y.2.1 ∧ y.2.1 ≤ maxLen ∧ RdB w w.heap.size y.1 y.2.2 := by
      intro i hil
      obtain ⟨cs', hc, ht⟩ := hi i (by omega)
      obtain ⟨_, hcl, hat⟩ := World.cells?_some hc
      obtain ⟨u, rfl⟩ : ∃ u, cs' = [u] := by
        match cs', hcl with
        | [u], _ => exact ⟨u, rfl⟩
      obtain ⟨A, bs, c, rfl, hbc, hcm, hrd⟩ := open_bytes ht
      refine ⟨(A, c, bs), ?_, hbc, hcm, hrd⟩
      have := hat 0 (by omega)
      rw [Go.Deep.add_add] at this
      simpa using this
    have key : ∀ k, k ≤ len → ∃ ys : List (Option Addr × Nat × Rec), ys.length = k ∧ ∀ i y, ys[i]? = some y → w.cell? (a'.add i) = some (.slice y.1 y.2.2.length y.2.1) ∧ y.2.2.length ≤ y.2.1 ∧ y.2.1 ≤ maxLen ∧ RdB w w.heap.size y.1 y.2.2 := by
      intro k
      induction k with
      | zero => intro _; exact ⟨[], rfl, by simp⟩
      | succ k ih =>
        intro hk
        obtain ⟨ys, hyl, hys⟩ := ih (by omega)
        obtain ⟨y, hy⟩ := hy k (by omega)
        refine ⟨ys ++ [y], by simp [hyl], fun i z hz => ?_⟩
        by_cases h0 : i < ys.length
        · exact hys i z (by rwa [List.getElem?_append_left h0] at hz)
        · rw [List.getElem?_append_right (by omega)] at hz
          have h1 : i - ys.length = 0 := by
            by_cases h2 : i - ys.length = 0
            · exact h2
            · rw [List.getElem?_eq_none (by simp; omega)] at hz; cases hz
          rw [h1] at hz
          obtain rfl : y = z := by simpa using hz
          rw [show i = k by omega]
          exact hy
    obtain ⟨ys, hyl, hys⟩ := key len (Nat.le_refl _)
    refine ⟨some a', ys.map (·.2.2), _, by simp [hyl], by simp [hyl]; omega, hm, fun hn => ?_, ?_⟩
    · have hn' : 0 < ys.length := by simpa using hn
      obtain ⟨c0, _⟩ := hys 0 ys[0] (List.getElem?_eq_getElem hn')
      obtain ⟨b, o, q⟩ := a'
      have hq : q = none := by
        have := World.cell?_spot c0
        simpa [Addr.add] using this
      subst hq
      refine ⟨b, o, rfl, World.block_lt_of_cell? w _ c0, fun i d hd => ?_⟩
      rw [List.getElem?_map, Option.map_eq_some_iff] at hd
      obtain ⟨y, hyi, rfl⟩ := hd
      obtain ⟨k1, k2, k3, k4⟩ := hys i y hyi
      exact ⟨y.1, y.2.1, by rw [← add_mk]; exact k1, k2, k4⟩
    · intro d hd
      obtain ⟨y, hyi, rfl⟩ := List.mem_map.1 hd
      obtain ⟨i, hi'⟩ := List.mem_iff_getElem?.1 hyi
      obtain ⟨k1, k2, k3, k4⟩ := hys i y hi'
      omega
end Go.Proofs.Ytpcklbmhblmjpaa
