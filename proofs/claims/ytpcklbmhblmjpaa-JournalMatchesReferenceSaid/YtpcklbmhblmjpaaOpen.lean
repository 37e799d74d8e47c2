/- Arguments opened: bytes, memories, numbers, as the contracts take them. -/
import Derived.Test.YtpcklbmhblmjpaaLaw
import Derived.Test.YtpcklbmhblmjpaaMem
import Derived.Lib.SmallJoins
set_option maxRecDepth 100000
set_option linter.unusedVariables false
set_option linter.unusedSimpArgs false
namespace Go.Proofs.Ytpcklbmhblmjpaa
open Go.ChangeShapes Go.WideShapes Go.ChangeAt Go.RowKit Go.Joins

section
variable {H : Type} {enc : TypeId × Value → H} {w : World}

/-- a slice of bytes -/
theorem open_bytes {fuel : Nat} {v : Value} {x : DataW H × List MemPlace} (h : DataW.trod enc Try.prog w 0 (fun _ => true) true fuel 22 [v] = some x) :
    ∃ (A : Option Addr) (bs : List UInt8) (c : Nat), v = .slice A bs.length c ∧ bs.length ≤ c ∧ c ≤ maxLen ∧ RdB w w.heap.size A bs := by
  rcases open_ints (P := Try.prog) Try.underlying22 Try.underlying5 (by kernel_rfl) h with ⟨hcs, _⟩ | ⟨a, len, cap, zs, hcs, _, hl, hm, hz, _, hcell, hwf⟩
  · obtain rfl : v = .slice none 0 0 := by simpa using hcs
    exact ⟨none, [], 0, rfl, Nat.le_refl _, by simp [maxLen], RdS.nil⟩
  · obtain rfl : v = .slice (some a) len cap := by simpa using hcs
    simp only [if_true] at hz
    let bs : List UInt8 := (zs.take len).map fun z => UInt8.ofNat z.toNat
    have hbl : bs.length = len := by simp [bs]; omega
    refine ⟨some a, bs, cap, by rw [hbl], by omega, hm, by simp, fun hn => ?_⟩
    obtain ⟨b, off, rfl, hc⟩ := ints_at hcell (by omega)
    refine ⟨b, off, rfl, World.block_lt_of_cell? w _ (hc 0 (by omega)), fun j u hu => ?_⟩
    have hj : j < bs.length := by
      rcases Nat.lt_or_ge j bs.length with h | h
      · exact h
      · rw [List.getElem?_eq_none (by simpa using h)] at hu; cases hu
    rw [u8s_get bs j hj] at hu
    injection hu with hu
    rw [hc j (by omega), ← hu]
    have hw := hwf (zs.getD j 0) (by rw [List.getD_eq_getElem?_getD, List.getElem?_eq_getElem (by omega)]; simp)
    have hb := bounds_u8 hw
    congr 2
    simp only [bs, List.getElem_map, List.getElem_take]
    rw [List.getD_eq_getElem?_getD, List.getElem?_eq_getElem (by omega)] at hb ⊢
    simp only [Option.getD_some] at hb ⊢
    rw [UInt8.toNat_ofNat']
    omega

/-- a memory -/
theorem open_flash {r : Reach} {b0 : Nat} {v : Value} {d : DataW H} {p : List MemPlace} (hv : Value.okWide Try.prog w r b0 24 v) (h : DataW.Trod enc Try.prog w 0 (fun _ => true) true 24 v d p) :
    ∃ (m : Mem) (A : Option Addr) (c : Nat), v = .agg #[.int .i64 m.1, .slice A m.2.length c] ∧ m.2.length ≤ c ∧ c ≤ maxLen ∧ RdB w w.heap.size A m.2 ∧ -9223372036854775808 ≤ m.1 ∧ m.1 ≤ 9223372036854775807 := by
  obtain ⟨v0, v1, y0, y1, n, rfl, _, _, h0, h1⟩ := open_agg2 (P := Try.prog) Try.underlying24 (by kernel_rfl) (by kernel_rfl) hv h
  obtain ⟨s, e0, _, ws⟩ := DataW.trod_int (P := Try.prog) Try.underlying3 h0
  obtain rfl : v0 = .int .i64 s := by simpa using e0
  obtain ⟨A, bs, c, rfl, hc, hm, hr⟩ := open_bytes h1
  obtain ⟨lo, hi⟩ := bounds_i64 ws
  exact ⟨(s, bs), A, c, rfl, hc, hm, hr, lo, hi⟩
end
theorem open_slice_bytes {H : Type} {enc : TypeId × Value → H} {w : World} {r : Reach} {b0 : Nat} {v : Value} {d : DataW H} {p : List MemPlace} (hv : Value.okWide Try.prog w r b0 22 v) (h : DataW.Trod enc Try.prog w 0 (fun _ => true) true 22 v d p) :
    ∃ (A : Option Addr) (bs : List UInt8) (c : Nat), v = .slice A bs.length c ∧ bs.length ≤ c ∧ c ≤ maxLen ∧ RdB w w.heap.size A bs := by
  obtain ⟨a, len, cap, rfl⟩ := okWide_slice (P := Try.prog) Try.underlying22 hv
  obtain ⟨fuel, hf⟩ := h
  exact open_bytes (by simpa [Value.cells] using hf)
end Go.Proofs.Ytpcklbmhblmjpaa
