/- Arguments opened: bytes, as the contracts take them. -/
import Derived.Test.YthihhmlgpokomaaLaw
import Derived.Test.YthihhmlgpokomaaMem
import Derived.Lib.SmallJoins
set_option linter.unusedVariables false
set_option linter.unusedSimpArgs false
namespace Go.Proofs.Ythihhmlgpokomaa
open Go.ChangeShapes Go.WideShapes Go.ChangeAt Go.RowKit Go.Joins

section
variable {H : Type} {enc : TypeId × Value → H} {w : World}

/-- a slice of bytes -/
theorem open_bytes {fuel : Nat} {v : Value} {x : DataW H × List MemPlace} (h : DataW.trod enc Try.prog w 0 (fun _ => true) true fuel 24 [v] = some x) :
    ∃ (A : Option Addr) (bs : List UInt8) (c : Nat), v = .slice A bs.length c ∧ bs.length ≤ c ∧ c ≤ maxLen ∧ RdB w w.heap.size A bs := by
  rcases open_ints (P := Try.prog) Try.underlying24 Try.underlying5 (by kernel_rfl) h with ⟨hcs, _⟩ | ⟨a, len, cap, zs, hcs, _, hl, hm, hz, _, hcell, hwf⟩
  · obtain rfl : v = .slice none 0 0 := by simpa using hcs
    exact ⟨none, [], 0, rfl, Nat.le_refl _, by simp [maxLen], RdS.nil⟩
  · obtain rfl : v = .slice (some a) len cap := by simpa using hcs
    simp only [if_true] at hz
    let bs : List UInt8 := (zs.take len).map fun z => UInt8.ofNat z.toNat
    have hbl : bs.length = len := by simp [bs]; omega
    refine ⟨some a, bs, cap, by rw [hbl], by omega, hm, by simp, fun hn => ?_⟩
    obtain ⟨b, off, rfl, hc⟩ := ints_at hcell (by omega)
    refine ⟨b, off, rfl, World.block_lt_of_cell? w _ (hc 0 (by omega)), fun j u hu => ?_⟩
    have hj : j < bs.length := by
      rcases Nat.lt_or_ge j bs.length with h | h
      · exact h
      · rw [List.getElem?_eq_none (by simpa using h)] at hu; cases hu
    rw [u8s_get bs j hj] at hu
    injection hu with hu
    rw [hc j (by omega), ← hu]
    have hw := hwf (zs.getD j 0) (by rw [List.getD_eq_getElem?_getD, List.getElem?_eq_getElem (by omega)]; simp)
    have hb := bounds_u8 hw
    congr 2
    simp only [bs, List.getElem_map, List.getElem_take]
    rw [List.getD_eq_getElem?_getD, List.getElem?_eq_getElem (by omega)] at hb ⊢
    simp only [Option.getD_some] at hb ⊢
    rw [UInt8.toNat_ofNat']
    omega

end
theorem open_slice_bytes {H : Type} {enc : TypeId × Value → H} {w : World} {r : Reach} {b0 : Nat} {v : Value} {d : DataW H} {p : List MemPlace} (hv : Value.okWide Try.prog w r b0 24 v) (h : DataW.Trod enc Try.prog w 0 (fun _ => true) true 24 v d p) :
    ∃ (A : Option Addr) (bs : List UInt8) (c : Nat), v = .slice A bs.length c ∧ bs.length ≤ c ∧ c ≤ maxLen ∧ RdB w w.heap.size A bs := by
  obtain ⟨a, len, cap, rfl⟩ := okWide_slice (P := Try.prog) Try.underlying24 hv
  obtain ⟨fuel, hf⟩ := h
  exact open_bytes (by simpa [Value.cells] using hf)
end Go.Proofs.Ythihhmlgpokomaa
