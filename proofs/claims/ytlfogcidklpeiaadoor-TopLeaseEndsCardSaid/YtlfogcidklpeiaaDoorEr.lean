/- What the card takes: the variable afterwards out of the card's condition; the door's own heap meets it; arguments opened. -/
import Derived.Test.YtlfogcidklpeiaaDoorLaw
import Derived.Test.YtlfogcidklpeiaaDoorEd
import Derived.ProofKit
import Derived.LaidMore
import Derived.OpenShut
import Derived.Stop.Joined
import Derived.Lib.LaidTab
import Derived.MakeChecks
import Derived.Lib.SmallJoins
import Derived.Deep.Slices
import Derived.Deep.Fields
import Derived.ChangeSame
set_option maxRecDepth 100000
set_option linter.unusedVariables false
set_option linter.unusedSimpArgs false
namespace Go.Proofs.YtlfogcidklpeiaaDoor
open Go.ChangeShapes Go.WideShapes Go.ChangeAt Go.RowKit Go.Joins Go.Deep

theorem gAf : Tryd.prog.globalNamed "chargepark/charger.afterwards" = some 0 := by kernel_rfl
theorem tAf : (Tryd.prog.globals[0]?).map (·.type) = some 57 := by kernel_rfl
def rowsL : List (List Int) := [[-1, -1, -1, -1, -1, -1], [1, -1, -1, -1, -1, -1], [-1, 0, -1, -1, -1, -3], [-1, 2, -1, -1, -1, -1], [-1, -1, -3, -1, -1, -1], [-1, -1, -1, 4, -1, -1], [-1, -1, -1, -1, -3, -1], [-2, -2, -2, -2, -2, -2], [-2, -2, -2, -2, -2, -2], [0, 1, 1, 1, 1, -3]]
theorem rows_tab : ∀ q, q < 10 → ∀ r, r < 6 → (rowsL.getD q [])[r]? = some (tabL.getD (q * 6 + r) 0) := by decide
theorem af_cells {H : Type} {enc : TypeId × Value → H} {W : World} {base : Nat} {sp : Nat → Bool} {held : Bool} {fuel : Nat} {cs : List Value} {q : List MemPlace}
    (h : DataW.trod enc Tryd.prog W base sp held fuel 57 cs = some (Rows.laid_chargepark_charger_afterwards, q)) (i : Nat) (hi : i < 60) : cs[i]? = some (.int .i64 (tabL.getD i 0)) := by
  obtain ⟨xs, m, _, hx, hl, hxl, hg⟩ := DataW.trod_array Tryd.underlying57 h
  have hC : Tryd.prog.cellsOf 56 = 6 := by kernel_rfl
  rw [hC] at hg
  have hd : xs.map (·.1) = rowsL.map (Lib.tabData .i64) := by
    have := congrArg Prod.fst hx
    simp only [Rows.laid_chargepark_charger_afterwards, DataW.agg.injEq] at this
    exact this.symm
  have hq : i / 6 < 10 := by omega
  have hr : i % 6 < 6 := Nat.mod_lt _ (by omega)
  have h1 := hg (i / 6) hq
  have hrow : (cs.drop (i / 6 * 6)).take 6 = (rowsL.getD (i / 6) []).map fun z => Value.int .i64 z := by
    have hab : (xs.map (·.1))[i / 6]? = some (Lib.tabData .i64 (rowsL.getD (i / 6) [])) := by
      rw [hd, List.getElem?_map, List.getD_eq_getElem?_getD, List.getElem?_eq_getElem (show i / 6 < rowsL.length from hq)]; rfl
    rw [List.getElem?_map] at hab
    cases hxi : xs[i / 6]? with
    | none => rw [hxi] at hab; cases hab
    | some y =>
      rw [hxi] at hab h1
      simp only [Option.map_some, Option.some.injEq] at hab
      obtain ⟨d, p⟩ := y
      simp only at hab
      subst hab
      exact Lib.cells_of_tab Tryd.underlying56 Tryd.underlying3 (by kernel_rfl) (by kernel_rfl) h1
  have h2 : ((cs.drop (i / 6 * 6)).take 6)[i % 6]? = some (.int .i64 (tabL.getD (i / 6 * 6 + i % 6) 0)) := by
    rw [hrow, List.getElem?_map, rows_tab (i / 6) hq (i % 6) hr]; rfl
  rw [List.getElem?_take, if_pos hr, List.getElem?_drop] at h2
  rwa [show i / 6 * 6 + i % 6 = i by omega] at h2
theorem af_of {W : World} (h : laidMetH Tryd.prog [("chargepark/charger.afterwards", Rows.laid_chargepark_charger_afterwards)] W) : Af W := by
  rw [MakeChecks.laidMetH_plain _ _ _ (by kernel_rfl)] at h
  obtain ⟨ps, ⟨g', t', cs, fuel, p, q, hg', ht', hvar, hd, _, _⟩, _⟩ := h
  obtain rfl := Option.some.inj (gAf.symm.trans hg')
  obtain rfl := Option.some.inj (tAf.symm.trans ht')
  have hc : ∀ i, i < 60 → W.cell? ⟨0, i, none⟩ = some (.int .i64 (tabL.getD i 0)) := fun i hi => by
    have := World.var?_cell gAf hvar i
    rw [this]
    have := af_cells hd i hi
    simpa using this
  exact ⟨World.block_lt_of_cell? W _ (hc 0 (by omega)), hc⟩
theorem door_met (os : Os) (args : Array Value) : laidMetH Tryd.prog [("chargepark/charger.afterwards", Rows.laid_chargepark_charger_afterwards)] ((World.doorLaid Tryd.prog 14 os).forCall (fun _ _ => 0) ⟨#[], args, []⟩).memory :=
  laidMetH_of_parts3 (fuel := 8) (laidMet_of_run' 8 (by kernel_rfl) (by kernel_rfl)) (by kernel_rfl) (by kernel_rfl)

section
variable {H : Type} {enc : TypeId × Value → H} {w : World}
theorem trod_charger {fuel : Nat} {cs : List Value} {x : DataW H × List MemPlace} (h : DataW.trod enc Tryd.prog w 0 (fun _ => true) true fuel 23 cs = some x) : ∃ c : Chg, cs = [.string c.nm, .int .i64 c.no, .int .i64 c.ph, .int .i64 c.mn, .int .i64 c.mx, .int .i64 c.st, .int .i64 c.fb, .int .i64 c.ow] := by
  obtain ⟨xs, n, hn, hx, hlen, hxl, hg⟩ := DataW.trod_struct Tryd.underlying23 h
  have hC : Tryd.prog.cellsOf 23 = 8 := by kernel_rfl
  have hone := hone_of (P := Tryd.prog) (fs := Tryd.prog.fieldsOf 23) (by kernel_rfl)
  simp only [Program.fieldsOf, Tryd.underlying23] at hone
  match cs, hlen.trans hC with
  | [c0, c1, c2, c3, c4, c5, c6, c7], _ =>
    match xs, hxl with
    | [y0, y1, y2, y3, y4, y5, y6, y7], _ =>
      obtain ⟨o0, k0⟩ := hone 0 _ rfl
      have g0 := hg 0 _ rfl
      rw [o0, k0] at g0
      obtain ⟨s0, e0, _, _⟩ := DataW.trod_string (P := Tryd.prog) Tryd.underlying9 (by simpa using g0 : DataW.trod enc Tryd.prog w 0 (fun _ => true) true n 9 [c0] = some y0)
      obtain rfl : c0 = .string s0 := by simpa using e0
      obtain ⟨o1, k1⟩ := hone 1 _ rfl
      have g1 := hg 1 _ rfl
      rw [o1, k1] at g1
      obtain ⟨s1, e1, _, _⟩ := DataW.trod_int (P := Tryd.prog) Tryd.underlying3 (by simpa using g1 : DataW.trod enc Tryd.prog w 0 (fun _ => true) true n 3 [c1] = some y1)
      obtain rfl : c1 = .int .i64 s1 := by simpa using e1
      obtain ⟨o2, k2⟩ := hone 2 _ rfl
      have g2 := hg 2 _ rfl
      rw [o2, k2] at g2
      obtain ⟨s2, e2, _, _⟩ := DataW.trod_int (P := Tryd.prog) Tryd.underlying3 (by simpa using g2 : DataW.trod enc Tryd.prog w 0 (fun _ => true) true n 3 [c2] = some y2)
      obtain rfl : c2 = .int .i64 s2 := by simpa using e2
      obtain ⟨o3, k3⟩ := hone 3 _ rfl
      have g3 := hg 3 _ rfl
      rw [o3, k3] at g3
      obtain ⟨s3, e3, _, _⟩ := DataW.trod_int (P := Tryd.prog) Tryd.underlying3 (by simpa using g3 : DataW.trod enc Tryd.prog w 0 (fun _ => true) true n 3 [c3] = some y3)
      obtain rfl : c3 = .int .i64 s3 := by simpa using e3
      obtain ⟨o4, k4⟩ := hone 4 _ rfl
      have g4 := hg 4 _ rfl
      rw [o4, k4] at g4
      obtain ⟨s4, e4, _, _⟩ := DataW.trod_int (P := Tryd.prog) Tryd.underlying3 (by simpa using g4 : DataW.trod enc Tryd.prog w 0 (fun _ => true) true n 3 [c4] = some y4)
      obtain rfl : c4 = .int .i64 s4 := by simpa using e4
      obtain ⟨o5, k5⟩ := hone 5 _ rfl
      have g5 := hg 5 _ rfl
      rw [o5, k5] at g5
      obtain ⟨s5, e5, _, _⟩ := DataW.trod_int (P := Tryd.prog) Tryd.underlying3 (by simpa using g5 : DataW.trod enc Tryd.prog w 0 (fun _ => true) true n 3 [c5] = some y5)
      obtain rfl : c5 = .int .i64 s5 := by simpa using e5
      obtain ⟨o6, k6⟩ := hone 6 _ rfl
      have g6 := hg 6 _ rfl
      rw [o6, k6] at g6
      obtain ⟨s6, e6, _, _⟩ := DataW.trod_int (P := Tryd.prog) Tryd.underlying3 (by simpa using g6 : DataW.trod enc Tryd.prog w 0 (fun _ => true) true n 3 [c6] = some y6)
      obtain rfl : c6 = .int .i64 s6 := by simpa using e6
      obtain ⟨o7, k7⟩ := hone 7 _ rfl
      have g7 := hg 7 _ rfl
      rw [o7, k7] at g7
      obtain ⟨s7, e7, _, _⟩ := DataW.trod_int (P := Tryd.prog) Tryd.underlying3 (by simpa using g7 : DataW.trod enc Tryd.prog w 0 (fun _ => true) true n 3 [c7] = some y7)
      obtain rfl : c7 = .int .i64 s7 := by simpa using e7
      exact ⟨⟨s0, s1, s2, s3, s4, s5, s6, s7⟩, rfl⟩
theorem trod_cstate {fuel : Nat} {cs : List Value} {x : DataW H × List MemPlace} (h : DataW.trod enc Tryd.prog w 0 (fun _ => true) true fuel 25 cs = some x) : ∃ (p a l : Int) (wd : Bool), cs = [.int .i64 p, .int .i64 a, .int .i64 l, .bool wd] := by
  obtain ⟨xs, n, hn, hx, hlen, hxl, hg⟩ := DataW.trod_struct Tryd.underlying25 h
  have hC : Tryd.prog.cellsOf 25 = 4 := by kernel_rfl
  have hone := hone_of (P := Tryd.prog) (fs := Tryd.prog.fieldsOf 25) (by kernel_rfl)
  simp only [Program.fieldsOf, Tryd.underlying25] at hone
  match cs, hlen.trans hC with
  | [c0, c1, c2, c3], _ =>
    match xs, hxl with
    | [y0, y1, y2, y3], _ =>
      obtain ⟨o0, k0⟩ := hone 0 _ rfl
      have g0 := hg 0 _ rfl
      rw [o0, k0] at g0
      obtain ⟨s0, e0, _, _⟩ := DataW.trod_int (P := Tryd.prog) Tryd.underlying3 (by simpa using g0 : DataW.trod enc Tryd.prog w 0 (fun _ => true) true n 3 [c0] = some y0)
      obtain rfl : c0 = .int .i64 s0 := by simpa using e0
      obtain ⟨o1, k1⟩ := hone 1 _ rfl
      have g1 := hg 1 _ rfl
      rw [o1, k1] at g1
      obtain ⟨s1, e1, _, _⟩ := DataW.trod_int (P := Tryd.prog) Tryd.underlying3 (by simpa using g1 : DataW.trod enc Tryd.prog w 0 (fun _ => true) true n 3 [c1] = some y1)
      obtain rfl : c1 = .int .i64 s1 := by simpa using e1
      obtain ⟨o2, k2⟩ := hone 2 _ rfl
      have g2 := hg 2 _ rfl
      rw [o2, k2] at g2
      obtain ⟨s2, e2, _, _⟩ := DataW.trod_int (P := Tryd.prog) Tryd.underlying3 (by simpa using g2 : DataW.trod enc Tryd.prog w 0 (fun _ => true) true n 3 [c2] = some y2)
      obtain rfl : c2 = .int .i64 s2 := by simpa using e2
      obtain ⟨o3, k3⟩ := hone 3 _ rfl
      have g3 := hg 3 _ rfl
      rw [o3, k3] at g3
      obtain ⟨s3, e3, _⟩ := DataW.trod_bool (P := Tryd.prog) Tryd.underlying4 (by simpa using g3 : DataW.trod enc Tryd.prog w 0 (fun _ => true) true n 4 [c3] = some y3)
      obtain rfl : c3 = .bool s3 := by simpa using e3
      exact ⟨s0, s1, s2, s3, rfl⟩
theorem open_charger {r : Reach} {b0 : Nat} {v : Value} {d : DataW H} {p : List MemPlace} (hv : Value.okWide Tryd.prog w r b0 23 v) (h : DataW.Trod enc Tryd.prog w 0 (fun _ => true) true 23 v d p) :
    ∃ c : Chg, v = .agg #[.string c.nm, .int .i64 c.no, .int .i64 c.ph, .int .i64 c.mn, .int .i64 c.mx, .int .i64 c.st, .int .i64 c.fb, .int .i64 c.ow] := by
  obtain ⟨cs, rfl, hsz⟩ := okWide_struct (P := Tryd.prog) Tryd.underlying23 hv
  obtain ⟨fuel, hf⟩ := h
  obtain ⟨l⟩ := cs
  obtain ⟨c, hc⟩ := trod_charger hf
  exact ⟨c, by rw [show l = _ from by simpa [Value.cells] using hc]⟩
theorem open_cstate {r : Reach} {b0 : Nat} {v : Value} {d : DataW H} {q : List MemPlace} (hv : Value.okWide Tryd.prog w r b0 25 v) (h : DataW.Trod enc Tryd.prog w 0 (fun _ => true) true 25 v d q) :
    ∃ (p a l : Int) (wd : Bool), v = .agg #[.int .i64 p, .int .i64 a, .int .i64 l, .bool wd] := by
  obtain ⟨cs, rfl, hsz⟩ := okWide_struct (P := Tryd.prog) Tryd.underlying25 hv
  obtain ⟨fuel, hf⟩ := h
  obtain ⟨k⟩ := cs
  obtain ⟨p, a, l, wd, hc⟩ := trod_cstate hf
  exact ⟨p, a, l, wd, by rw [show k = _ from by simpa [Value.cells] using hc]⟩
end
end Go.Proofs.YtlfogcidklpeiaaDoor
