/- Arguments opened: slices of cards, of revocations. -/
import Derived.Test.YthihhmlgpokomaaLaw
import Derived.Test.YthihhmlgpokomaaWb
import Derived.Lib.SmallJoins
import Derived.Deep.Slices
import Derived.Deep.Fields
import Derived.ChangeSame
set_option maxRecDepth 100000
set_option linter.unusedVariables false
set_option linter.unusedSimpArgs false
namespace Go.Proofs.Ythihhmlgpokomaa
open Go.ChangeShapes Go.WideShapes Go.ChangeAt Go.RowKit Go.Joins Go.Deep

section
variable {H : Type} {enc : TypeId × Value → H} {w : World}
theorem trod_void {fuel : Nat} {cs : List Value} {x : DataW H × List MemPlace} (h : DataW.trod enc Try.prog w 0 (fun _ => true) true fuel 42 cs = some x) : ∃ y : Vd, cs = vdE y := by
  obtain ⟨xs, n, hn, hx, hlen, hxl, hg⟩ := DataW.trod_struct Try.underlying42 h
  have hC : Try.prog.cellsOf 42 = 2 := by kernel_rfl
  have hone := hone_of (P := Try.prog) (fs := Try.prog.fieldsOf 42) (by kernel_rfl)
  simp only [Program.fieldsOf, Try.underlying42] at hone
  match cs, hlen.trans hC with
  | [c0, c1], _ =>
    match xs, hxl with
    | [y0, y1], _ =>
      obtain ⟨o0, k0⟩ := hone 0 _ rfl
      have g0 := hg 0 _ rfl
      rw [o0, k0] at g0
      obtain ⟨s0, e0, _, _⟩ := DataW.trod_int (P := Try.prog) Try.underlying3 (by simpa using g0 : DataW.trod enc Try.prog w 0 (fun _ => true) true n 3 [c0] = some y0)
      obtain rfl : c0 = .int .i64 s0 := by simpa using e0
      obtain ⟨o1, k1⟩ := hone 1 _ rfl
      have g1 := hg 1 _ rfl
      rw [o1, k1] at g1
      obtain ⟨s1, e1, _, _⟩ := DataW.trod_int (P := Try.prog) Try.underlying3 (by simpa using g1 : DataW.trod enc Try.prog w 0 (fun _ => true) true n 3 [c1] = some y1)
      obtain rfl : c1 = .int .i64 s1 := by simpa using e1
      exact ⟨⟨s0, s1⟩, rfl⟩
theorem open_voids {r : Reach} {b0 : Nat} {v : Value} {d : DataW H} {p : List MemPlace} (hv : Value.okWide Try.prog w r b0 23 v) (h : DataW.Trod enc Try.prog w 0 (fun _ => true) true 23 v d p) :
    ∃ (A : Option Addr) (l : List Vd) (c : Nat), v = .slice A l.length c ∧ l.length ≤ c ∧ c ≤ maxLen ∧ RdV w w.heap.size A l := by
  obtain ⟨a, len, cap, rfl⟩ := okWide_slice (P := Try.prog) Try.underlying23 hv
  obtain ⟨fuel, hf⟩ := h
  have hC : Try.prog.cellsOf 42 = 2 := by kernel_rfl
  rcases open_slice Try.underlying23 (by simpa [Value.cells] using hf) with ⟨hcs, _⟩ | ⟨a', len', cap', m, n, D, Pl, hcs, _, hl, hm, hmm, _, hi⟩
  · obtain ⟨rfl, rfl, rfl⟩ : a = none ∧ len = 0 ∧ cap = 0 := by simpa using hcs
    exact ⟨none, [], 0, rfl, Nat.le_refl _, by simp [maxLen], RdX.nil⟩
  · obtain ⟨rfl, rfl, rfl⟩ : a = some a' ∧ len = len' ∧ cap = cap' := by simpa using hcs
    simp only [if_true] at hmm
    subst hmm
    rw [hC] at hi
    have hy : ∀ i, i < len → ∃ y : Vd, ∀ j, j < 2 → w.cell? (a'.add (i * 2 + j)) = (vdE y)[j]? := by
      intro i hil
      obtain ⟨cs', hc, ht⟩ := hi i (by omega)
      obtain ⟨y, rfl⟩ := trod_void ht
      obtain ⟨_, hcl, hat⟩ := World.cells?_some hc
      exact ⟨y, fun j hj => by rw [← Go.Deep.add_add]; exact hat j hj⟩
    let l : List Vd := (List.range len).map fun i => if h : i < len then Classical.choose (hy i h) else ⟨0, 0⟩
    have hll : l.length = len := by simp [l]
    have hget : ∀ i (h : i < len), l[i]? = some (Classical.choose (hy i h)) := by
      intro i h
      simp [l, h]
    refine ⟨some a', l, m, by rw [hll], by omega, hm, encs_length vdE_len l, fun hn => ?_⟩
    rw [hll] at hn
    obtain ⟨b, off, spot⟩ := a'
    have h00 := (Classical.choose_spec (hy 0 hn)) 0 (by omega)
    have hspot : spot = none := by
      have := World.cell?_spot (h00.trans (rfl : (vdE _)[0]? = some (.int .i64 _)))
      simpa [Addr.add] using this
    subst hspot
    refine ⟨b, off, rfl, World.block_lt_of_cell? w ⟨b, off, none⟩ (by have := h00; rw [add_mk] at this; simpa [vdE] using this : w.cell? ⟨b, off, none⟩ = some (.int .i64 (Classical.choose (hy 0 hn)).n)), fun j u hu => ?_⟩
    have hj : j < len * 2 := by
      rcases Nat.lt_or_ge j (len * 2) with h | h
      · exact h
      · rw [List.getElem?_eq_none (by rw [encs_length vdE_len, hll]; exact h)] at hu; cases hu
    have e := Nat.div_add_mod j 2
    have hr : j % 2 < 2 := Nat.mod_lt _ (by omega)
    have hq : j / 2 < len := Nat.div_lt_of_lt_mul (by omega)
    rw [show j = j / 2 * 2 + j % 2 by omega] at hu ⊢
    rw [encs_get vdE_len l (j / 2) _ (j % 2) (hget _ hq) hr] at hu
    have := (Classical.choose_spec (hy (j / 2) hq)) (j % 2) hr
    rw [add_mk] at this
    rw [this, hu]
theorem trod_card {fuel : Nat} {cs : List Value} {x : DataW H × List MemPlace} (h : DataW.trod enc Try.prog w 0 (fun _ => true) true fuel 44 cs = some x) : ∃ y : Cd, cs = cdE y := by
  obtain ⟨xs, n, hn, hx, hlen, hxl, hg⟩ := DataW.trod_struct Try.underlying44 h
  have hC : Try.prog.cellsOf 44 = 4 := by kernel_rfl
  have hone := hone_of (P := Try.prog) (fs := Try.prog.fieldsOf 44) (by kernel_rfl)
  simp only [Program.fieldsOf, Try.underlying44] at hone
  match cs, hlen.trans hC with
  | [c0, c1, c2, c3], _ =>
    match xs, hxl with
    | [y0, y1, y2, y3], _ =>
      obtain ⟨o0, k0⟩ := hone 0 _ rfl
      have g0 := hg 0 _ rfl
      rw [o0, k0] at g0
      obtain ⟨s0, e0, _, _⟩ := DataW.trod_int (P := Try.prog) Try.underlying3 (by simpa using g0 : DataW.trod enc Try.prog w 0 (fun _ => true) true n 3 [c0] = some y0)
      obtain rfl : c0 = .int .i64 s0 := by simpa using e0
      obtain ⟨o1, k1⟩ := hone 1 _ rfl
      have g1 := hg 1 _ rfl
      rw [o1, k1] at g1
      obtain ⟨s1, e1, _, _⟩ := DataW.trod_int (P := Try.prog) Try.underlying3 (by simpa using g1 : DataW.trod enc Try.prog w 0 (fun _ => true) true n 3 [c1] = some y1)
      obtain rfl : c1 = .int .i64 s1 := by simpa using e1
      obtain ⟨o2, k2⟩ := hone 2 _ rfl
      have g2 := hg 2 _ rfl
      rw [o2, k2] at g2
      obtain ⟨s2, e2, _, _⟩ := DataW.trod_int (P := Try.prog) Try.underlying3 (by simpa using g2 : DataW.trod enc Try.prog w 0 (fun _ => true) true n 3 [c2] = some y2)
      obtain rfl : c2 = .int .i64 s2 := by simpa using e2
      obtain ⟨o3, k3⟩ := hone 3 _ rfl
      have g3 := hg 3 _ rfl
      rw [o3, k3] at g3
      obtain ⟨s3, e3, _, _⟩ := DataW.trod_int (P := Try.prog) Try.underlying3 (by simpa using g3 : DataW.trod enc Try.prog w 0 (fun _ => true) true n 3 [c3] = some y3)
      obtain rfl : c3 = .int .i64 s3 := by simpa using e3
      exact ⟨⟨s0, s1, s2, s3⟩, rfl⟩
theorem open_cards {r : Reach} {b0 : Nat} {v : Value} {d : DataW H} {p : List MemPlace} (hv : Value.okWide Try.prog w r b0 22 v) (h : DataW.Trod enc Try.prog w 0 (fun _ => true) true 22 v d p) :
    ∃ (A : Option Addr) (l : List Cd) (c : Nat), v = .slice A l.length c ∧ l.length ≤ c ∧ c ≤ maxLen ∧ RdC w w.heap.size A l := by
  obtain ⟨a, len, cap, rfl⟩ := okWide_slice (P := Try.prog) Try.underlying22 hv
  obtain ⟨fuel, hf⟩ := h
  have hC : Try.prog.cellsOf 44 = 4 := by kernel_rfl
  rcases open_slice Try.underlying22 (by simpa [Value.cells] using hf) with ⟨hcs, _⟩ | ⟨a', len', cap', m, n, D, Pl, hcs, _, hl, hm, hmm, _, hi⟩
  · obtain ⟨rfl, rfl, rfl⟩ : a = none ∧ len = 0 ∧ cap = 0 := by simpa using hcs
    exact ⟨none, [], 0, rfl, Nat.le_refl _, by simp [maxLen], RdX.nil⟩
  · obtain ⟨rfl, rfl, rfl⟩ : a = some a' ∧ len = len' ∧ cap = cap' := by simpa using hcs
    simp only [if_true] at hmm
    subst hmm
    rw [hC] at hi
    have hy : ∀ i, i < len → ∃ y : Cd, ∀ j, j < 4 → w.cell? (a'.add (i * 4 + j)) = (cdE y)[j]? := by
      intro i hil
      obtain ⟨cs', hc, ht⟩ := hi i (by omega)
      obtain ⟨y, rfl⟩ := trod_card ht
      obtain ⟨_, hcl, hat⟩ := World.cells?_some hc
      exact ⟨y, fun j hj => by rw [← Go.Deep.add_add]; exact hat j hj⟩
    let l : List Cd := (List.range len).map fun i => if h : i < len then Classical.choose (hy i h) else ⟨0, 0, 0, 0⟩
    have hll : l.length = len := by simp [l]
    have hget : ∀ i (h : i < len), l[i]? = some (Classical.choose (hy i h)) := by
      intro i h
      simp [l, h]
    refine ⟨some a', l, m, by rw [hll], by omega, hm, encs_length cdE_len l, fun hn => ?_⟩
    rw [hll] at hn
    obtain ⟨b, off, spot⟩ := a'
    have h00 := (Classical.choose_spec (hy 0 hn)) 0 (by omega)
    have hspot : spot = none := by
      have := World.cell?_spot (h00.trans (rfl : (cdE _)[0]? = some (.int .i64 _)))
      simpa [Addr.add] using this
    subst hspot
    refine ⟨b, off, rfl, World.block_lt_of_cell? w ⟨b, off, none⟩ (by have := h00; rw [add_mk] at this; simpa [cdE] using this : w.cell? ⟨b, off, none⟩ = some (.int .i64 (Classical.choose (hy 0 hn)).n)), fun j u hu => ?_⟩
    have hj : j < len * 4 := by
      rcases Nat.lt_or_ge j (len * 4) with h | h
      · exact h
      · rw [List.getElem?_eq_none (by rw [encs_length cdE_len, hll]; exact h)] at hu; cases hu
    have e := Nat.div_add_mod j 4
    have hr : j % 4 < 4 := Nat.mod_lt _ (by omega)
    have hq : j / 4 < len := Nat.div_lt_of_lt_mul (by omega)
    rw [show j = j / 4 * 4 + j % 4 by omega] at hu ⊢
    rw [encs_get cdE_len l (j / 4) _ (j % 4) (hget _ hq) hr] at hu
    have := (Classical.choose_spec (hy (j / 4) hq)) (j % 4) hr
    rw [add_mk] at this
    rw [this, hu]
end
end Go.Proofs.Ythihhmlgpokomaa
