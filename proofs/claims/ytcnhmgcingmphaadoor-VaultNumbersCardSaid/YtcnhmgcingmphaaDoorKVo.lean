/- Arguments opened: slices of numbers of 16 bits. -/
import Derived.Test.YtcnhmgcingmphaaDoorKOP
import Derived.Test.YtcnhmgcingmphaaDoorKVwd
set_option maxRecDepth 100000
set_option linter.unusedVariables false
set_option linter.unusedSimpArgs false
namespace Go.Proofs.YtcnhmgcingmphaaDoor
open Go.ChangeShapes Go.WideShapes Go.ChangeAt Go.RowKit Go.Joins

theorem open_halves {H : Type} {enc : TypeId × Value → H} {w : World} {r : Reach} {b0 : Nat} {v : Value} {d : DataW H} {p : List MemPlace} (hv : Value.okWide Tryd.prog w r b0 37 v) (h : DataW.Trod enc Tryd.prog w 0 (fun _ => true) true 37 v d p) :
    ∃ (A : Option Addr) (ns : List Nat) (c : Nat), v = .slice A ns.length c ∧ ns.length ≤ c ∧ c ≤ maxLen ∧ RdH w w.heap.size A ns ∧ ∀ z ∈ ns, z ≤ 65535 := by
  obtain ⟨a0, len0, cap0, rfl⟩ := okWide_slice (P := Tryd.prog) Tryd.underlying37 hv
  obtain ⟨fuel, hf⟩ := h
  rcases open_ints (P := Tryd.prog) Tryd.underlying37 Tryd.underlying40 (by kernel_rfl) (by simpa [Value.cells] using hf) with ⟨hcs, _⟩ | ⟨a, len, cap, zs, hcs, _, hl, hm, hz, _, hcell, hwf⟩
  · obtain ⟨rfl, rfl, rfl⟩ : a0 = none ∧ len0 = 0 ∧ cap0 = 0 := by simpa using hcs
    exact ⟨none, [], 0, rfl, Nat.le_refl _, by simp [maxLen], RdS.nil, by simp⟩
  · obtain ⟨rfl, rfl, rfl⟩ : a0 = some a ∧ len0 = len ∧ cap0 = cap := by simpa using hcs
    simp only [if_true] at hz
    let ns : List Nat := (zs.take len0).map Int.toNat
    have hbl : ns.length = len0 := by simp [ns]; omega
    have hb : ∀ j, j < zs.length → 0 ≤ zs.getD j 0 ∧ zs.getD j 0 ≤ 65535 := fun j hj => by
      have hw := hwf (zs.getD j 0) (by rw [List.getD_eq_getElem?_getD, List.getElem?_eq_getElem hj]; simp)
      exact bounds_u16 hw
    refine ⟨some a, ns, _, by rw [hbl], by omega, hm, ⟨by simp, fun hn => ?_⟩, fun z hz' => ?_⟩
    · obtain ⟨b, off, rfl, hc⟩ := ints_at hcell (by omega)
      refine ⟨b, off, rfl, World.block_lt_of_cell? w _ (hc 0 (by omega)), fun j u hu => ?_⟩
      have hj : j < ns.length := by
        rcases Nat.lt_or_ge j ns.length with h | h
        · exact h
        · rw [List.getElem?_eq_none (by simpa using h)] at hu; cases hu
      rw [List.getElem?_map, List.getElem?_eq_getElem hj, Option.map_some] at hu
      injection hu with hu
      rw [hc j (by omega), ← hu]
      have h9 := hb j (by omega)
      congr 2
      simp only [ns, List.getElem_map, List.getElem_take]
      rw [List.getD_eq_getElem?_getD, List.getElem?_eq_getElem (by omega)] at h9 ⊢
      simp only [Option.getD_some] at h9 ⊢
      omega
    · obtain ⟨j, hj, rfl⟩ := List.getElem_of_mem hz'
      have h9 := hb j (by omega)
      simp only [ns, List.getElem_map, List.getElem_take]
      rw [List.getD_eq_getElem?_getD, List.getElem?_eq_getElem (by omega)] at h9
      simp only [Option.getD_some] at h9
      omega
end Go.Proofs.YtcnhmgcingmphaaDoor
