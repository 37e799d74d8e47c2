/- What the match laws' cards take: the variable confusable out of the card's condition; the door's own heap meets it; arguments opened. -/
import Derived.Test.YthmipmdpdfdlaaaDoorLaw
import Derived.Test.YthmipmdpdfdlaaaDoorTw
import Derived.ProofKit
import Derived.LaidMore
import Derived.OpenShut
import Derived.Stop.Joined
import Derived.Lib.LaidTab
import Derived.MakeChecks
import Derived.Lib.SmallJoins
import Derived.Deep.Slices
import Derived.Deep.Fields
import Derived.ChangeSame
import Derived.ChangeMaps5
set_option maxRecDepth 100000
set_option linter.unusedVariables false
set_option linter.unusedSimpArgs false
namespace Go.Proofs.YthmipmdpdfdlaaaDoor
open Go.ChangeShapes Go.WideShapes Go.ChangeAt Go.RowKit Go.Joins Go.Deep

theorem gCf : Tryd.prog.globalNamed "chargepark/plate.confusable" = some 0 := by kernel_rfl
theorem tCf : (Tryd.prog.globals[0]?).map (·.type) = some 62 := by kernel_rfl
theorem cf_cells {H : Type} {enc : TypeId × Value → H} {W : World} {base : Nat} {sp : Nat → Bool} {held : Bool} {fuel : Nat} {cs : List Value} {q : List MemPlace}
    (h : DataW.trod enc Tryd.prog W base sp held fuel 62 cs = some (Rows.laid_chargepark_plate_confusable, q)) :
    cs = [.int .i32 79, .int .i32 48, .int .i32 73, .int .i32 49, .int .i32 66, .int .i32 56, .int .i32 83, .int .i32 53, .int .i32 90, .int .i32 50] := by
  obtain ⟨xs, m, _, hx, hl, hxl, hg⟩ := DataW.trod_array Tryd.underlying62 h
  have hC : Tryd.prog.cellsOf 62 = 10 := by kernel_rfl
  have hC2 : Tryd.prog.cellsOf 61 = 2 := by kernel_rfl
  rw [hC2] at hg
  rw [hC] at hl
  have hd : xs.map (·.1) = [.agg [.lit (.int .i32 79), .lit (.int .i32 48)], .agg [.lit (.int .i32 73), .lit (.int .i32 49)], .agg [.lit (.int .i32 66), .lit (.int .i32 56)], .agg [.lit (.int .i32 83), .lit (.int .i32 53)], .agg [.lit (.int .i32 90), .lit (.int .i32 50)]] := by
    have := congrArg Prod.fst hx
    simp only [Rows.laid_chargepark_plate_confusable, DataW.agg.injEq] at this
    exact this.symm
  have pair : ∀ i, i < 5 → ∀ a b : Int, (xs.map (·.1))[i]? = some (.agg [.lit (.int .i32 a), .lit (.int .i32 b)]) → (cs.drop (i * 2)).take 2 = [.int .i32 a, .int .i32 b] := by
    intro i hi a b hab
    have h1 := hg i hi
    rw [List.getElem?_map] at hab
    cases hxi : xs[i]? with
    | none => rw [hxi] at hab; cases hab
    | some y =>
      rw [hxi] at hab h1
      simp only [Option.map_some, Option.some.injEq] at hab
      obtain ⟨d, p⟩ := y
      simp only at hab
      subst hab
      exact Lib.cells_of_tab (zs := [a, b]) Tryd.underlying61 Tryd.underlying21 (by kernel_rfl) (by kernel_rfl) h1
  have p0 := pair 0 (by omega) 79 48 (by rw [hd]; rfl)
  have p1 := pair 1 (by omega) 73 49 (by rw [hd]; rfl)
  have p2 := pair 2 (by omega) 66 56 (by rw [hd]; rfl)
  have p3 := pair 3 (by omega) 83 53 (by rw [hd]; rfl)
  have p4 := pair 4 (by omega) 90 50 (by rw [hd]; rfl)
  clear pair hd hg hx h hxl
  match cs, hl with
  | [c0, c1, c2, c3, c4, c5, c6, c7, c8, c9], _ =>
    simp at p0 p1 p2 p3 p4
    obtain ⟨rfl, rfl⟩ := p0
    obtain ⟨rfl, rfl⟩ := p1
    obtain ⟨rfl, rfl⟩ := p2
    obtain ⟨rfl, rfl⟩ := p3
    obtain ⟨rfl, rfl⟩ := p4
    rfl
theorem cf_of {W : World} (h : laidMetH Tryd.prog [("chargepark/plate.confusable", Rows.laid_chargepark_plate_confusable)] W) : Cf W := by
  rw [MakeChecks.laidMetH_plain _ _ _ (by kernel_rfl)] at h
  obtain ⟨ps, ⟨g', t', cs, fuel, p, q, hg', ht', hvar, hd, _, _⟩, _⟩ := h
  obtain rfl := Option.some.inj (gCf.symm.trans hg')
  obtain rfl := Option.some.inj (tCf.symm.trans ht')
  have e : cs = ([.int .i32 79, .int .i32 48, .int .i32 73, .int .i32 49, .int .i32 66, .int .i32 56, .int .i32 83, .int .i32 53, .int .i32 90, .int .i32 50] : List Value).toArray := by
    rw [← cf_cells hd]
  rw [e] at hvar
  have hc : ∀ (i : Nat) (u : Value), ([.int .i32 79, .int .i32 48, .int .i32 73, .int .i32 49, .int .i32 66, .int .i32 56, .int .i32 83, .int .i32 53, .int .i32 90, .int .i32 50] : List Value)[i]? = some u → W.cell? ⟨0, i, none⟩ = some u := fun i u hu => by
    have := World.var?_cell gCf hvar i
    rw [this]; simpa using hu
  have c0 := hc 0 _ rfl
  exact ⟨World.block_lt_of_cell? W _ c0, c0, hc 1 _ rfl, hc 2 _ rfl, hc 3 _ rfl, hc 4 _ rfl, hc 5 _ rfl, hc 6 _ rfl, hc 7 _ rfl, hc 8 _ rfl, hc 9 _ rfl⟩
theorem door_met (os : Os) (args : Array Value) : laidMetH Tryd.prog [("chargepark/plate.confusable", Rows.laid_chargepark_plate_confusable)] ((World.doorLaid Tryd.prog 14 os).forCall (fun _ _ => 0) ⟨#[], args, []⟩).memory :=
  laidMetH_of_parts3 (fuel := 8) (laidMet_of_run' 8 (by kernel_rfl) (by kernel_rfl)) (by kernel_rfl) (by kernel_rfl)

section
variable {H : Type} {enc : TypeId × Value → H} {w : World}
theorem trod_stay {fuel : Nat} {cs : List Value} {x : DataW H × List MemPlace} (h : DataW.trod enc Tryd.prog w 0 (fun _ => true) true fuel 46 cs = some x) : ∃ y : UInt8 × UInt8, cs = [s2F y, s2G y] := by
  obtain ⟨xs, m, _, hx, hl, hxl, hg⟩ := DataW.trod_array Tryd.underlying46 h
  have hC : Tryd.prog.cellsOf 46 = 2 := by kernel_rfl
  have hC1 : Tryd.prog.cellsOf 5 = 1 := by kernel_rfl
  rw [hC1] at hg
  rw [hC] at hl
  match cs, hl with
  | [c0, c1], _ =>
    match xs, hxl with
    | [y0, y1], _ =>
      have g0 := hg 0 (by omega)
      have g1 := hg 1 (by omega)
      obtain ⟨z0, e0, _, w0⟩ := DataW.trod_int (P := Tryd.prog) Tryd.underlying5 (by simpa using g0 : DataW.trod enc Tryd.prog w 0 (fun _ => true) true m 5 [c0] = some y0)
      obtain ⟨z1, e1, _, w1⟩ := DataW.trod_int (P := Tryd.prog) Tryd.underlying5 (by simpa using g1 : DataW.trod enc Tryd.prog w 0 (fun _ => true) true m 5 [c1] = some y1)
      obtain rfl : c0 = .int .u8 z0 := by simpa using e0
      obtain rfl : c1 = .int .u8 z1 := by simpa using e1
      have b0 := bounds_u8 w0
      have b1 := bounds_u8 w1
      refine ⟨(UInt8.ofNat z0.toNat, UInt8.ofNat z1.toNat), ?_⟩
      simp only [s2F, s2G, UInt8.toNat_ofNat']
      rw [show ((z0.toNat % 2 ^ 8 : Nat) : Int) = z0 by omega, show ((z1.toNat % 2 ^ 8 : Nat) : Int) = z1 by omega]
/-- a slice of pairs of bytes -/
theorem open_stays {r : Reach} {b0 : Nat} {v : Value} {d : DataW H} {p : List MemPlace} (hv : Value.okWide Tryd.prog w r b0 44 v) (h : DataW.Trod enc Tryd.prog w 0 (fun _ => true) true 44 v d p) :
    ∃ (A : Option Addr) (l : List (UInt8 × UInt8)) (c : Nat), v = .slice A l.length c ∧ l.length ≤ c ∧ c ≤ maxLen ∧ Rd2 s2F s2G w w.heap.size A l := by
  obtain ⟨a, len, cap, rfl⟩ := okWide_slice (P := Tryd.prog) Tryd.underlying44 hv
  obtain ⟨fuel, hf⟩ := h
  have hC : Tryd.prog.cellsOf 46 = 2 := by kernel_rfl
  rcases open_slice Tryd.underlying44 (by simpa [Value.cells] using hf) with ⟨hcs, _⟩ | ⟨a', len', cap', m, n, D, Pl, hcs, _, hl, hm, hmm, _, hi⟩
  · obtain ⟨rfl, rfl, rfl⟩ : a = none ∧ len = 0 ∧ cap = 0 := by simpa using hcs
    exact ⟨none, [], 0, rfl, Nat.le_refl _, by simp [maxLen], Rd2.nil⟩
  · obtain ⟨rfl, rfl, rfl⟩ : a = some a' ∧ len = len' ∧ cap = cap' := by simpa using hcs
    simp only [if_true] at hmm
    subst hmm
    rw [hC] at hi
    have hy : ∀ i, i < len → ∃ y : UInt8 × UInt8, ∀ j, j < 2 → w.cell? (a'.add (i * 2 + j)) = [s2F y, s2G y][j]? := by
      intro i hil
      obtain ⟨cs', hc, ht⟩ := hi i (by omega)
      obtain ⟨y, rfl⟩ := trod_stay ht
      obtain ⟨_, hcl, hat⟩ := World.cells?_some hc
      exact ⟨y, fun j hj => by rw [← Go.Deep.add_add]; exact hat j hj⟩
    let l : List (UInt8 × UInt8) := (List.range len).map fun i => if h : i < len then Classical.choose (hy i h) else (0, 0)
    have hll : l.length = len := by simp [l]
    have hget : ∀ i (h : i < len), l[i]? = some (Classical.choose (hy i h)) := by
      intro i h
      simp [l, h]
    refine ⟨some a', l, m, by rw [hll], by omega, hm, cl2_length _ _ l, fun hn => ?_⟩
    rw [hll] at hn
    obtain ⟨b, off, spot⟩ := a'
    have h00 := (Classical.choose_spec (hy 0 hn)) 0 (by omega)
    have hspot : spot = none := by
      have := World.cell?_spot (h00.trans (rfl : [s2F (Classical.choose (hy 0 hn)), s2G (Classical.choose (hy 0 hn))][0]? = some (s2F (Classical.choose (hy 0 hn)))))
      simpa [Addr.add] using this
    subst hspot
    refine ⟨b, off, rfl, World.block_lt_of_cell? w ⟨b, off, none⟩ (by have := h00; rw [add_mk] at this; simpa using this : w.cell? ⟨b, off, none⟩ = some (s2F (Classical.choose (hy 0 hn)))), fun j u hu => ?_⟩
    have hj : j < len * 2 := by
      rcases Nat.lt_or_ge j (len * 2) with h | h
      · exact h
      · rw [List.getElem?_eq_none (by rw [cl2_length, hll]; exact h)] at hu; cases hu
    have e := Nat.div_add_mod j 2
    have hr : j % 2 < 2 := Nat.mod_lt _ (by omega)
    have hq : j / 2 < len := Nat.div_lt_of_lt_mul (by omega)
    rw [show j = j / 2 * 2 + j % 2 by omega] at hu ⊢
    rw [cl2_get _ _ l (j / 2) _ (j % 2) (hget _ hq) hr] at hu
    have := (Classical.choose_spec (hy (j / 2) hq)) (j % 2) hr
    rw [add_mk] at this
    rw [this, hu]
end
end Go.Proofs.YthmipmdpdfdlaaaDoor
