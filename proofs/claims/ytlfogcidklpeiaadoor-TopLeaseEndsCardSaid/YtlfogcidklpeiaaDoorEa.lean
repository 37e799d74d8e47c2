/- A charger: what is valid, what an event does to its state. -/
import Derived.Test.YtlfogcidklpeiaaDoorLaw
import Derived.Test.YtlfogcidklpeiaaDoorReg
import Derived.Test.YtlfogcidklpeiaaDoorLg
import Derived.Test.YtlfogcidklpeiaaDoorTLMath
import Derived.Laws.StructEq
import Derived.Lib.QuietBelow
import Derived.RegionTactic
import Derived.BigRegion
set_option maxRecDepth 100000
set_option linter.unusedVariables false
set_option linter.unusedSimpArgs false
namespace Go.Proofs.YtlfogcidklpeiaaDoor
open Go.RowKit Go.Sort

structure Chg where
  nm : ByteArray
  no : Int
  ph : Int
  mn : Int
  mx : Int
  st : Int
  fb : Int
  ow : Int
structure Cst where
  p : Int
  a : Int
  l : Int
  wd : Bool
/-- a valid charger; a valid state that is not welded -/
def Chg.Ok (c : Chg) : Prop := 1 ≤ c.ph ∧ c.ph ≤ 7 ∧ 1 ≤ c.mn ∧ c.mx ≤ 80 ∧ c.mn ≤ c.mx ∧ 1 ≤ c.st ∧ c.st ≤ 80 ∧ (c.fb = 0 ∨ (c.mn ≤ c.fb ∧ c.fb ≤ c.mx))
def Cst.Ok (c : Chg) (s : Cst) : Prop := 0 ≤ s.p ∧ s.p ≤ 5 ∧ 0 ≤ s.l ∧ s.l ≤ 1000000 ∧ 0 ≤ s.a ∧ s.a ≤ c.mx ∧ (s.l = 0 → s.a = 0) ∧ s.wd = false
theorem bx4 {w : World} {k : Nat} {t : TypeId} {a b c d : Value} (h : Bk w k t #[a, b, c, d]) : w.cell? ⟨k, 0, none⟩ = some a ∧ w.cell? ⟨k, 1, none⟩ = some b ∧ w.cell? ⟨k, 2, none⟩ = some c ∧ w.cell? ⟨k, 3, none⟩ = some d := ⟨h.cell 0, h.cell 1, h.cell 2, h.cell 3⟩
theorem bx3 {w : World} {k : Nat} {t : TypeId} {a b c : Value} (h : Bk w k t #[a, b, c]) : w.cell? ⟨k, 0, none⟩ = some a ∧ w.cell? ⟨k, 1, none⟩ = some b ∧ w.cell? ⟨k, 2, none⟩ = some c := ⟨h.cell 0, h.cell 1, h.cell 2⟩
theorem bx8 {w : World} {k : Nat} {t : TypeId} {a b c d e f g h : Value} (x : Bk w k t #[a, b, c, d, e, f, g, h]) : w.cell? ⟨k, 0, none⟩ = some a ∧ w.cell? ⟨k, 1, none⟩ = some b ∧ w.cell? ⟨k, 2, none⟩ = some c ∧ w.cell? ⟨k, 3, none⟩ = some d ∧ w.cell? ⟨k, 4, none⟩ = some e ∧ w.cell? ⟨k, 5, none⟩ = some f ∧ w.cell? ⟨k, 6, none⟩ = some g ∧ w.cell? ⟨k, 7, none⟩ = some h :=
  ⟨x.cell 0, x.cell 1, x.cell 2, x.cell 3, x.cell 4, x.cell 5, x.cell 6, x.cell 7⟩

set_option maxHeartbeats 1000000 in
theorem vCharger_yes (c : Chg) (w : World) (h : c.Ok) : Calls Tryd.prog 26 #[.agg #[.string c.nm, .int .i64 c.no, .int .i64 c.ph, .int .i64 c.mn, .int .i64 c.mx, .int .i64 c.st, .int .i64 c.fb, .int .i64 c.ow]] w fun e w' => e = .returned (.bool true) ∧ Below w.heap.size w w' := by
  obtain ⟨h1, h2, h3, h4, h5, h6, h7, h8⟩ := h
  obtain ⟨nm, no, ph, mn, mx, st, fb, ow⟩ := c
  dsimp only at *
  have HB := Lib.hid (al1 w)
  by_cases h0 : fb = 0
  · subst h0
    clear h8
    go_enter Tryd.func26, Tryd.ntmps26
    go_wp2
    go_ret
    exact ⟨rfl, HB.out _⟩
  · have h9 : mn ≤ fb := by omega
    have h10 : fb ≤ mx := by omega
    have h11 : (fb == 0) = false := by rw [beq_eq_false_iff_ne]; exact h0
    clear h8
    go_enter Tryd.func26, Tryd.ntmps26
    go_wp2
    go_ret
    exact ⟨rfl, HB.out _⟩
theorem Start_any (w : World) : Calls Tryd.prog 27 #[] w fun e w' => e = .returned (.agg #[.int .i64 0, .int .i64 0, .int .i64 0, .bool false]) ∧ Below w.heap.size w w' := by
  have HB := Lib.hid (al1 w)
  go_enter Tryd.func27, Tryd.ntmps27
  go_wp2
  exact bodyPost_ret (v := .agg #[.int .i64 0, .int .i64 0, .int .i64 0, .bool false]) (by simp [results, Tryd.results27, go_sem]) rfl ⟨rfl, HB.out _⟩
theorem eql_cst (p a l : Int) (W : World) : (binOp .eql 25 (.agg #[.int .i64 p, .int .i64 a, .int .i64 l, .bool false]) (.agg #[.int .i64 0, .int .i64 0, .int .i64 0, .bool false])).run Tryd.prog W = .ok (.bool (decide (p = 0 ∧ a = 0 ∧ l = 0))) W := by
  have hs : Tryd.prog.stoodInHeld 25 = false := by kernel_rfl
  rw [run_eql_struct, show (10000 : Nat) = 9999 + 1 from rfl, run_equalIn_struct W 9999 25 _ _ Tryd.underlying25 hs]
  simp only [Program.fieldsOf, Tryd.underlying25]
  have hi : Tryd.prog.underlying 3 = some (.int .i64) := Tryd.underlying3
  have hb : Tryd.prog.underlying 4 = some .bool := Tryd.underlying4
  by_cases h1 : p = 0 <;> by_cases h2 : a = 0 <;> by_cases h3 : l = 0 <;> simp [go_sem, h1, h2, h3, hi, hb]
theorem eql_lit (p a l : Int) (q : Bool) (h : decide (p = 0 ∧ a = 0 ∧ l = 0) = q) (W : World) : (binOp .eql 25 (.agg #[.int .i64 p, .int .i64 a, .int .i64 l, .bool false]) (.agg #[.int .i64 0, .int .i64 0, .int .i64 0, .bool false])).run Tryd.prog W = .ok (.bool q) W := h ▸ eql_cst p a l W
set_option maxHeartbeats 2000000 in
theorem CValid_yes (c : Chg) (s : Cst) (w : World) (hc : c.Ok) (hs : s.Ok c) : Calls Tryd.prog 17 #[.agg #[.string c.nm, .int .i64 c.no, .int .i64 c.ph, .int .i64 c.mn, .int .i64 c.mx, .int .i64 c.st, .int .i64 c.fb, .int .i64 c.ow], .agg #[.int .i64 s.p, .int .i64 s.a, .int .i64 s.l, .bool s.wd]] w fun e w' => e = .returned (.bool true) ∧ Below w.heap.size w w' := by
  have HC := Lib.hid hc
  obtain ⟨h1, h2, h3, h4, h5, h6, h7, h8⟩ := hs
  obtain ⟨p, a, l, wd⟩ := s
  dsimp only at *
  subst h8
  clear hc
  obtain ⟨q, hq⟩ : ∃ q, decide (p = 0 ∧ a = 0 ∧ l = 0) = q := ⟨_, rfl⟩
  have HQ := eql_lit p a l q hq
  clear hq
  go_enter Tryd.func17, Tryd.ntmps17
  go_wp2_with fail
  obtain ⟨K, hK⟩ : ∃ K, K = w.heap.size := ⟨_, rfl⟩
  rw [← hK]
  obtain ⟨V0, hV0⟩ : ∃ Zz, Zz = (w.alloc (.cells #[.string c.nm, .int .i64 c.no, .int .i64 c.ph, .int .i64 c.mn, .int .i64 c.mx, .int .i64 c.st, .int .i64 c.fb, .int .i64 c.ow] 23)).alloc (.cells #[.int .i64 p, .int .i64 a, .int .i64 l, .bool false] 25) := ⟨_, rfl⟩
  have k0 : Bk V0 K 23 #[.string c.nm, .int .i64 c.no, .int .i64 c.ph, .int .i64 c.mn, .int .i64 c.mx, .int .i64 c.st, .int .i64 c.fb, .int .i64 c.ow] := by rw [hV0, hK]; exact bkOf (by simp [at?_alloc])
  have k1 : Bk V0 (K + 1) 25 #[.int .i64 p, .int .i64 a, .int .i64 l, .bool false] := by rw [hV0, hK]; exact bkOf (by simp [at?_alloc])
  have hbV : Below w.heap.size w V0 := by rw [hV0]; exact al2 _ _ _
  rw [← hV0]
  clear hV0
  clear hK
  refine (vCharger_yes c V0 HC.out).mono ?_
  rintro e W1 ⟨rfl, hb1⟩
  have K0 := Lib.hid (k0.next hb1)
  have K1 := Lib.hid (k1.next hb1)
  have HB1 := Lib.hid (bt hb1 hbV)
  clear k0 k1 hb1 hbV
  have r0 := K0.out.cell 4
  obtain ⟨r1, r2, r3, r4⟩ := bx4 K1.out
  go_wp2
  obtain ⟨U, hU⟩ : ∃ Zz, Zz = W1 := ⟨_, rfl⟩
  rw [← hU] at r0 r1 r2 r3 r4 HB1 K0 K1 ⊢
  clear hU
  have Rr0 := cell_regrown r0
  have Rr1 := cell_regrown r1
  have Rr2 := cell_regrown r2
  have Rr3 := cell_regrown r3
  have Rr4 := cell_regrown r4
  have CS := fun (d : Nat) (os : Array Obj) => Calls.regrown_of (Start_any (grow (redrawn U d) os))
  refine wp_region_quiet_below (by kernel_rfl) (by kernel_rfl) ?_
  repeat (first | go_big_quiet_step (first | (with_reducible exact CS _ _)) | quiet_step (first | (with_reducible exact CS _ _)))
  refine wpQuiet_nil ?_
  intro _ hw'
  obtain ⟨⟨dq, osq⟩, hw''⟩ := hw'
  subst hw''
  obtain ⟨W2, hW2⟩ : ∃ V, V = grow (redrawn U dq) osq := ⟨_, rfl⟩
  have hbW2 : Below U.heap.size U W2 := by rw [hW2]; exact below_regrown _ _ _
  rw [← hW2]
  clear hW2
  clear Rr0
  clear Rr1
  clear Rr2
  clear Rr3
  clear Rr4
  clear CS
  have r0 := (K0.out.next hbW2).cell 4
  obtain ⟨r1, r2, r3, r4⟩ := bx4 (K1.out.next hbW2)
  have HB2 := Lib.hid (bt hbW2 HB1.out)
  clear hbW2 HQ
  cases q
  · by_cases hl : l = 0
    · obtain rfl : a = 0 := h7 hl
      subst hl
      clear h7
      go_wp2
      go_ret
      exact ⟨rfl, HB2.out⟩
    · have hl1 : (l != 0) = true := by simpa [bne_iff_ne] using hl
      clear h7
      go_wp2
      go_ret
      exact ⟨rfl, HB2.out⟩
  · go_wp2
    go_ret
    exact ⟨rfl, HB2.out⟩
end Go.Proofs.YtlfogcidklpeiaaDoor
