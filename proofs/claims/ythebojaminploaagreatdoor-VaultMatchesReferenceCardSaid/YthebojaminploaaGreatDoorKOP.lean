/- Arguments opened: bytes, memories, numbers, as the contracts take them. -/
import Derived.Test.YthebojaminploaaGreatDoorKLaw
import Derived.Test.YthebojaminploaaGreatDoorKMem
import Derived.Lib.SmallJoins
import Derived.Test.YthebojaminploaaGreatDoorKLMem
import Derived.Deep.Slices
import Derived.Deep.Fields
import Derived.ChangeSame
set_option maxRecDepth 100000
set_option linter.unusedVariables false
set_option linter.unusedSimpArgs false
namespace Go.Proofs.YthebojaminploaaGreatDoor
open Go.ChangeShapes Go.WideShapes Go.ChangeAt Go.RowKit Go.Joins

section
variable {H : Type} {enc : TypeId × Value → H} {w : World}

/-- a slice of bytes -/
theorem open_bytes {fuel : Nat} {v : Value} {x : DataW H × List MemPlace} (h : DataW.trod enc Tryz.prog w 0 (fun _ => true) true fuel 22 [v] = some x) :
    ∃ (A : Option Addr) (bs : List UInt8) (c : Nat), v = .slice A bs.length c ∧ bs.length ≤ c ∧ c ≤ maxLen ∧ RdB w w.heap.size A bs := by
  rcases open_ints (P := Tryz.prog) Tryz.underlying22 Tryz.underlying5 (by kernel_rfl) h with ⟨hcs, _⟩ | ⟨a, len, cap, zs, hcs, _, hl, hm, hz, _, hcell, hwf⟩
  · obtain rfl : v = .slice none 0 0 := by simpa using hcs
    exact ⟨none, [], 0, rfl, Nat.le_refl _, by simp [maxLen], RdS.nil⟩
  · obtain rfl : v = .slice (some a) len cap := by simpa using hcs
    simp only [if_true] at hz
    let bs : List UInt8 := (zs.take len).map fun z => UInt8.ofNat z.toNat
    have hbl : bs.length = len := by simp [bs]; omega
    refine ⟨some a, bs, cap, by rw [hbl], by omega, hm, by simp, fun hn => ?_⟩
    obtain ⟨b, off, rfl, hc⟩ := ints_at hcell (by omega)
    refine ⟨b, off, rfl, World.block_lt_of_cell? w _ (hc 0 (by omega)), fun j u hu => ?_⟩
    have hj : j < bs.length := by
      rcases Nat.lt_or_ge j bs.length with h | h
      · exact h
      · rw [List.getElem?_eq_none (by simpa using h)] at hu; cases hu
    rw [u8s_get bs j hj] at hu
    injection hu with hu
    rw [hc j (by omega), ← hu]
    have hw := hwf (zs.getD j 0) (by rw [List.getD_eq_getElem?_getD, List.getElem?_eq_getElem (by omega)]; simp)
    have hb := bounds_u8 hw
    congr 2
    simp only [bs, List.getElem_map, List.getElem_take]
    rw [List.getD_eq_getElem?_getD, List.getElem?_eq_getElem (by omega)] at hb ⊢
    simp only [Option.getD_some] at hb ⊢
    rw [UInt8.toNat_ofNat']
    omega

/-- a memory -/
theorem open_flash {r : Reach} {b0 : Nat} {v : Value} {d : DataW H} {p : List MemPlace} (hv : Value.okWide Tryz.prog w r b0 24 v) (h : DataW.Trod enc Tryz.prog w 0 (fun _ => true) true 24 v d p) :
    ∃ (m : Mem) (A : Option Addr) (c : Nat), v = .agg #[.int .i64 m.1, .slice A m.2.length c] ∧ m.2.length ≤ c ∧ c ≤ maxLen ∧ RdB w w.heap.size A m.2 ∧ -9223372036854775808 ≤ m.1 ∧ m.1 ≤ 9223372036854775807 := by
  obtain ⟨v0, v1, y0, y1, n, rfl, _, _, h0, h1⟩ := open_agg2 (P := Tryz.prog) Tryz.underlying24 (by kernel_rfl) (by kernel_rfl) hv h
  obtain ⟨s, e0, _, ws⟩ := DataW.trod_int (P := Tryz.prog) Tryz.underlying3 h0
  obtain rfl : v0 = .int .i64 s := by simpa using e0
  obtain ⟨A, bs, c, rfl, hc, hm, hr⟩ := open_bytes h1
  obtain ⟨lo, hi⟩ := bounds_i64 ws
  exact ⟨(s, bs), A, c, rfl, hc, hm, hr, lo, hi⟩
end
theorem open_slice_bytes {H : Type} {enc : TypeId × Value → H} {w : World} {r : Reach} {b0 : Nat} {v : Value} {d : DataW H} {p : List MemPlace} (hv : Value.okWide Tryz.prog w r b0 22 v) (h : DataW.Trod enc Tryz.prog w 0 (fun _ => true) true 22 v d p) :
    ∃ (A : Option Addr) (bs : List UInt8) (c : Nat), v = .slice A bs.length c ∧ bs.length ≤ c ∧ c ≤ maxLen ∧ RdB w w.heap.size A bs := by
  obtain ⟨a, len, cap, rfl⟩ := okWide_slice (P := Tryz.prog) Tryz.underlying22 hv
  obtain ⟨fuel, hf⟩ := h
  exact open_bytes (by simpa [Value.cells] using hf)
end Go.Proofs.YthebojaminploaaGreatDoor

/- Arguments opened: leases, slices of leases. -/
set_option maxRecDepth 100000
set_option linter.unusedVariables false
set_option linter.unusedSimpArgs false
namespace Go.Proofs.YthebojaminploaaGreatDoor
open Go.ChangeShapes Go.WideShapes Go.ChangeAt Go.RowKit Go.Joins Go.Deep

section
variable {H : Type} {enc : TypeId × Value → H} {w : World}

/-- the five numbers of a lease that is read -/
theorem trod_lease {fuel : Nat} {cs : List Value} {x : DataW H × List MemPlace} (h : DataW.trod enc Tryz.prog w 0 (fun _ => true) true fuel 26 cs = some x) : ∃ y : Lea, cs = lcells y := by
  obtain ⟨xs, n, hn, hx, hlen, hxl, hg⟩ := DataW.trod_struct Tryz.underlying26 h
  have hC : Tryz.prog.cellsOf 26 = 5 := by kernel_rfl
  have hone := hone_of (P := Tryz.prog) (fs := Tryz.prog.fieldsOf 26) (by kernel_rfl)
  simp only [Program.fieldsOf, Tryz.underlying26] at hone
  match cs, hlen.trans hC with
  | [c0, c1, c2, c3, c4], _ =>
    match xs, hxl with
    | [y0, y1, y2, y3, y4], _ =>
      obtain ⟨o0, k0⟩ := hone 0 _ rfl
      have g0 := hg 0 _ rfl
      rw [o0, k0] at g0
      obtain ⟨s0, e0, _, _⟩ := DataW.trod_int (P := Tryz.prog) Tryz.underlying3 (by simpa using g0 : DataW.trod enc Tryz.prog w 0 (fun _ => true) true n 3 [c0] = some y0)
      obtain rfl : c0 = .int .i64 s0 := by simpa using e0
      obtain ⟨o1, k1⟩ := hone 1 _ rfl
      have g1 := hg 1 _ rfl
      rw [o1, k1] at g1
      obtain ⟨s1, e1, _, _⟩ := DataW.trod_int (P := Tryz.prog) Tryz.underlying3 (by simpa using g1 : DataW.trod enc Tryz.prog w 0 (fun _ => true) true n 3 [c1] = some y1)
      obtain rfl : c1 = .int .i64 s1 := by simpa using e1
      obtain ⟨o2, k2⟩ := hone 2 _ rfl
      have g2 := hg 2 _ rfl
      rw [o2, k2] at g2
      obtain ⟨s2, e2, _, _⟩ := DataW.trod_int (P := Tryz.prog) Tryz.underlying3 (by simpa using g2 : DataW.trod enc Tryz.prog w 0 (fun _ => true) true n 3 [c2] = some y2)
      obtain rfl : c2 = .int .i64 s2 := by simpa using e2
      obtain ⟨o3, k3⟩ := hone 3 _ rfl
      have g3 := hg 3 _ rfl
      rw [o3, k3] at g3
      obtain ⟨s3, e3, _, _⟩ := DataW.trod_int (P := Tryz.prog) Tryz.underlying3 (by simpa using g3 : DataW.trod enc Tryz.prog w 0 (fun _ => true) true n 3 [c3] = some y3)
      obtain rfl : c3 = .int .i64 s3 := by simpa using e3
      obtain ⟨o4, k4⟩ := hone 4 _ rfl
      have g4 := hg 4 _ rfl
      rw [o4, k4] at g4
      obtain ⟨s4, e4, _, _⟩ := DataW.trod_int (P := Tryz.prog) Tryz.underlying3 (by simpa using g4 : DataW.trod enc Tryz.prog w 0 (fun _ => true) true n 3 [c4] = some y4)
      obtain rfl : c4 = .int .i64 s4 := by simpa using e4
      exact ⟨⟨s0, s1, s2, s3, s4⟩, rfl⟩
/-- a slice of leases -/
theorem open_leases {r : Reach} {b0 : Nat} {v : Value} {d : DataW H} {p : List MemPlace} (hv : Value.okWide Tryz.prog w r b0 32 v) (h : DataW.Trod enc Tryz.prog w 0 (fun _ => true) true 32 v d p) :
    ∃ (A : Option Addr) (l : List Lea) (c : Nat), v = .slice A l.length c ∧ l.length ≤ c ∧ c ≤ maxLen ∧ RdL w w.heap.size A l := by
  obtain ⟨a, len, cap, rfl⟩ := okWide_slice (P := Tryz.prog) Tryz.underlying32 hv
  obtain ⟨fuel, hf⟩ := h
  have hC : Tryz.prog.cellsOf 26 = 5 := by kernel_rfl
  rcases open_slice Tryz.underlying32 (by simpa [Value.cells] using hf) with ⟨hcs, _⟩ | ⟨a', len', cap', m, n, D, Pl, hcs, _, hl, hm, hmm, _, hi⟩
  · obtain ⟨rfl, rfl, rfl⟩ : a = none ∧ len = 0 ∧ cap = 0 := by simpa using hcs
    exact ⟨none, [], 0, rfl, Nat.le_refl _, by simp [maxLen], RdL.nil⟩
  · obtain ⟨rfl, rfl, rfl⟩ : a = some a' ∧ len = len' ∧ cap = cap' := by simpa using hcs
    simp only [if_true] at hmm
    subst hmm
    rw [hC] at hi
    have hy : ∀ i, i < len → ∃ y : Lea, ∀ j, j < 5 → w.cell? (a'.add (i * 5 + j)) = (lcells y)[j]? := by
      intro i hil
      obtain ⟨cs', hc, ht⟩ := hi i (by omega)
      obtain ⟨y, rfl⟩ := trod_lease ht
      obtain ⟨_, hcl, hat⟩ := World.cells?_some hc
      exact ⟨y, fun j hj => by rw [← Go.Deep.add_add]; exact hat j hj⟩
    let l : List Lea := (List.range len).map fun i => if h : i < len then Classical.choose (hy i h) else l0
    have hll : l.length = len := by simp [l]
    have hget : ∀ i (h : i < len), l[i]? = some (Classical.choose (hy i h)) := by
      intro i h
      simp [l, h]
    refine ⟨some a', l, m, by rw [hll], by omega, hm, lsc_length l, fun hn => ?_⟩
    rw [hll] at hn
    obtain ⟨b, off, spot⟩ := a'
    have h00 := (Classical.choose_spec (hy 0 hn)) 0 (by omega)
    have hspot : spot = none := by
      have := World.cell?_spot (h00.trans (rfl : (lcells _)[0]? = some (.int .i64 _)))
      simpa [Addr.add] using this
    subst hspot
    refine ⟨b, off, rfl, World.block_lt_of_cell? w ⟨b, off, none⟩ (by have := h00; rw [add_mk] at this; simpa [lcells] using this : w.cell? ⟨b, off, none⟩ = some (.int .i64 (Classical.choose (hy 0 hn)).n)), fun j u hu => ?_⟩
    have hj : j < len * 5 := by
      rcases Nat.lt_or_ge j (len * 5) with h | h
      · exact h
      · rw [List.getElem?_eq_none (by rw [lsc_length, hll]; exact h)] at hu; cases hu
    have e := Nat.div_add_mod j 5
    have hr : j % 5 < 5 := Nat.mod_lt _ (by omega)
    have hq : j / 5 < len := Nat.div_lt_of_lt_mul (by omega)
    rw [show j = j / 5 * 5 + j % 5 by omega] at hu ⊢
    rw [lsc_get l (j / 5) _ (j % 5) (hget _ hq) hr] at hu
    have := (Classical.choose_spec (hy (j / 5) hq)) (j % 5) hr
    rw [add_mk] at this
    rw [this, hu]
/-- a lease by value -/
theorem open_lease {r : Reach} {b0 : Nat} {v : Value} {d : DataW H} {p : List MemPlace} (hv : Value.okWide Tryz.prog w r b0 26 v) (h : DataW.Trod enc Tryz.prog w 0 (fun _ => true) true 26 v d p) :
    ∃ x : Lea, v = .agg #[.int .i64 x.n, .int .i64 x.c, .int .i64 x.a, .int .i64 x.f, .int .i64 x.t] := by
  obtain ⟨cs, rfl, hsz⟩ := okWide_struct (P := Tryz.prog) Tryz.underlying26 hv
  obtain ⟨fuel, hf⟩ := h
  obtain ⟨l⟩ := cs
  obtain ⟨y, hy⟩ := trod_lease hf
  exact ⟨y, by rw [show l = lcells y from by simpa [Value.cells] using hy]; rfl⟩
end
end Go.Proofs.YthebojaminploaaGreatDoor
