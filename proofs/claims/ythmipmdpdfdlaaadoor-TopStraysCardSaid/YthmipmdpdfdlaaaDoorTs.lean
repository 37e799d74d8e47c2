/- Arguments opened: a slice of cars, and how long it may be. -/
import Derived.Test.YthmipmdpdfdlaaaDoorTr
import Derived.Test.YthmipmdpdfdlaaaDoorTq
import Derived.SizedLaws
set_option maxRecDepth 100000
set_option linter.unusedVariables false
set_option linter.unusedSimpArgs false
namespace Go.Proofs.YthmipmdpdfdlaaaDoor
open Go.ChangeShapes Go.WideShapes Go.ChangeAt Go.RowKit Go.Joins Go.Deep

section
variable {H : Type} {enc : TypeId × Value → H} {w : World}
theorem trod_car {fuel : Nat} {cs : List Value} {x : DataW H × List MemPlace} (h : DataW.trod enc Tryd.prog w 0 (fun _ => true) true fuel 30 cs = some x) : ∃ y : Car, cs = carC y ∧ y.p.size ≤ maxLen ∧ y.r.size ≤ maxLen := by
  obtain ⟨xs, n, hn, hx, hlen, hxl, hg⟩ := DataW.trod_struct Tryd.underlying30 h
  have hC : Tryd.prog.cellsOf 30 = 4 := by kernel_rfl
  have hone := hone_of (P := Tryd.prog) (fs := Tryd.prog.fieldsOf 30) (by kernel_rfl)
  simp only [Program.fieldsOf, Tryd.underlying30] at hone
  match cs, hlen.trans hC with
  | [c0, c1, c2, c3], _ =>
    match xs, hxl with
    | [y0, y1, y2, y3], _ =>
      obtain ⟨o0, k0⟩ := hone 0 _ rfl
      have g0 := hg 0 _ rfl
      rw [o0, k0] at g0
      obtain ⟨s0, e0, _, b0⟩ := DataW.trod_string (P := Tryd.prog) Tryd.underlying9 (by simpa using g0 : DataW.trod enc Tryd.prog w 0 (fun _ => true) true n 9 [c0] = some y0)
      obtain rfl : c0 = .string s0 := by simpa using e0
      obtain ⟨o1, k1⟩ := hone 1 _ rfl
      have g1 := hg 1 _ rfl
      rw [o1, k1] at g1
      obtain ⟨s1, e1, _, b1⟩ := DataW.trod_string (P := Tryd.prog) Tryd.underlying9 (by simpa using g1 : DataW.trod enc Tryd.prog w 0 (fun _ => true) true n 9 [c1] = some y1)
      obtain rfl : c1 = .string s1 := by simpa using e1
      obtain ⟨o2, k2⟩ := hone 2 _ rfl
      have g2 := hg 2 _ rfl
      rw [o2, k2] at g2
      obtain ⟨s2, e2, _, w2⟩ := DataW.trod_int (P := Tryd.prog) Tryd.underlying5 (by simpa using g2 : DataW.trod enc Tryd.prog w 0 (fun _ => true) true n 5 [c2] = some y2)
      obtain rfl : c2 = .int .u8 s2 := by simpa using e2
      have b2 := bounds_u8 w2
      obtain ⟨o3, k3⟩ := hone 3 _ rfl
      have g3 := hg 3 _ rfl
      rw [o3, k3] at g3
      obtain ⟨s3, e3, _, w3⟩ := DataW.trod_int (P := Tryd.prog) Tryd.underlying5 (by simpa using g3 : DataW.trod enc Tryd.prog w 0 (fun _ => true) true n 5 [c3] = some y3)
      obtain rfl : c3 = .int .u8 s3 := by simpa using e3
      have b3 := bounds_u8 w3
      refine ⟨⟨s0, s1, UInt8.ofNat s2.toNat, UInt8.ofNat s3.toNat⟩, ?_, b0, b1⟩
      simp only [carC, UInt8.toNat_ofNat']
      rw [show ((s2.toNat % 2 ^ 8 : Nat) : Int) = s2 by omega, show ((s3.toNat % 2 ^ 8 : Nat) : Int) = s3 by omega]
/-- a slice of cars -/
theorem open_cars {r : Reach} {b0 : Nat} {v : Value} {d : DataW H} {p : List MemPlace} (hv : Value.okWide Tryd.prog w r b0 22 v) (h : DataW.Trod enc Tryd.prog w 0 (fun _ => true) true 22 v d p) :
    ∃ (A : Option Addr) (l : List Car) (c : Nat), v = .slice A l.length c ∧ (l.length = 0 ∨ ∃ es sp, d = .slice es sp ∧ l.length ≤ es.length + sp.length) ∧ (∀ x ∈ l, x.p.size ≤ maxLen ∧ x.r.size ≤ maxLen) ∧ RdC w w.heap.size A l := by
  obtain ⟨a, len, cap, rfl⟩ := okWide_slice (P := Tryd.prog) Tryd.underlying22 hv
  obtain ⟨fuel, hf⟩ := h
  have hC : Tryd.prog.cellsOf 30 = 4 := by kernel_rfl
  rcases open_slice Tryd.underlying22 (by simpa [Value.cells] using hf) with ⟨hcs, _⟩ | ⟨a', len', cap', m, n, D, Pl, hcs, _, hl, hm, hmm, hd, hi⟩
  · obtain ⟨rfl, rfl, rfl⟩ : a = none ∧ len = 0 ∧ cap = 0 := by simpa using hcs
    exact ⟨none, [], 0, rfl, Or.inl rfl, (fun x hx => by cases hx), RdS.nil⟩
  · obtain ⟨rfl, rfl, rfl⟩ : a = some a' ∧ len = len' ∧ cap = cap' := by simpa using hcs
    simp only [if_true] at hmm
    subst hmm
    rw [hC] at hi
    have hy : ∀ i, i < len → ∃ y : Car, (y.p.size ≤ maxLen ∧ y.r.size ≤ maxLen) ∧ ∀ j, j < 4 → w.cell? (a'.add (i * 4 + j)) = (carC y)[j]? := by
      intro i hil
      obtain ⟨cs', hc, ht⟩ := hi i (by omega)
      obtain ⟨y, rfl, hb⟩ := trod_car ht
      obtain ⟨_, hcl, hat⟩ := World.cells?_some hc
      exact ⟨y, hb, fun j hj => by rw [← Go.Deep.add_add]; exact hat j hj⟩
    let l : List Car := (List.range len).map fun i => if h : i < len then Classical.choose (hy i h) else car0
    have hll : l.length = len := by simp [l]
    have hget : ∀ i (h : i < len), l[i]? = some (Classical.choose (hy i h)) := by
      intro i h
      simp [l, h]
    refine ⟨some a', l, m, by rw [hll], Or.inr ⟨_, _, (Prod.ext_iff.1 hd).1, by simp; omega⟩, fun x hx => ?_, clC_length l, fun hn => ?_⟩
    · simp only [l, List.mem_map, List.mem_range] at hx
      obtain ⟨i, hi9, rfl⟩ := hx
      rw [dif_pos hi9]
      exact (Classical.choose_spec (hy i hi9)).1
    rw [hll] at hn
    obtain ⟨b, off, spot⟩ := a'
    have h00 := (Classical.choose_spec (hy 0 hn)).2 0 (by omega)
    have hspot : spot = none := by
      have := World.cell?_spot (h00.trans (rfl : (carC _)[0]? = some (.string _)))
      simpa [Addr.add] using this
    subst hspot
    refine ⟨b, off, rfl, World.block_lt_of_cell? w ⟨b, off, none⟩ (by have := h00; rw [add_mk] at this; simpa [carC] using this : w.cell? ⟨b, off, none⟩ = some (.string (Classical.choose (hy 0 hn)).p)), fun j u hu => ?_⟩
    have hj : j < len * 4 := by
      rcases Nat.lt_or_ge j (len * 4) with h | h
      · exact h
      · rw [List.getElem?_eq_none (by rw [clC_length, hll]; exact h)] at hu; cases hu
    have e := Nat.div_add_mod j 4
    have hr : j % 4 < 4 := Nat.mod_lt _ (by omega)
    have hq : j / 4 < len := Nat.div_lt_of_lt_mul (by omega)
    rw [show j = j / 4 * 4 + j % 4 by omega] at hu ⊢
    rw [clC_get l (j / 4) _ (j % 4) (hget _ hq) hr] at hu
    have := (Classical.choose_spec (hy (j / 4) hq)).2 (j % 4) hr
    rw [add_mk] at this
    rw [this, hu]
theorem bytes_car : Tryd.prog.bytesOf 30 = 40 := by kernel_rfl
theorem cars_len {ts : List TypeId} {ds : List (DataW H)} {d : DataW H} {l : List Car} (hsz : (DataW.weightsEach Tryd.prog ts ds).all (· ≤ reachBytes) = true) (ht : ts[0]? = some 22) (hd : ds[0]? = some d) (h : l.length = 0 ∨ ∃ es sp, d = .slice es sp ∧ l.length ≤ es.length + sp.length) : l.length ≤ 3600000000000 := by
  rcases h with h | ⟨es, sp, rfl, h⟩
  · omega
  · have := sized_slice hsz (j := 0) (t := 22) (e := 30) ht hd Tryd.underlying22
    rw [bytes_car] at this
    unfold reachBytes at this
    omega
end
end Go.Proofs.YthmipmdpdfdlaaaDoor
