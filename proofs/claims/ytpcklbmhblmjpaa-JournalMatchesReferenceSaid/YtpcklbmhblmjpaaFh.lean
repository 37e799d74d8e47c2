/- The reference's With: a memory in which one byte is another one. -/
import Derived.Test.YtpcklbmhblmjpaaFg
import Derived.Deep.AppendLies
import Derived.Deep.RegionLaw
set_option maxRecDepth 100000
set_option linter.unusedVariables false
set_option linter.unusedSimpArgs false
namespace Go.Proofs.Ytpcklbmhblmjpaa
open Go.RowKit

theorem en2 (n : Nat) : (n = n + 1 + 1) = False := by simp only [eq_iff_iff, iff_false]; omega
theorem en3 (n : Nat) : (n = n + 1 + 1 + 1) = False := by simp only [eq_iff_iff, iff_false]; omega
theorem en4 (n : Nat) : (n = n + 1 + 1 + 1 + 1) = False := by simp only [eq_iff_iff, iff_false]; omega
theorem own_empty {W : World} {g base : Nat} (h : at? W g = some (.cells #[] 5 (0, 0))) (hb : base ≤ g) : W.ownsRow base 5 1 (.slice (some ⟨g, 0, none⟩) 0 0) 0 [] :=
  ⟨rfl, .inr ⟨g, 0, #[], rfl, hb, h, Nat.le_refl _, by simp [maxLen], rfl, rfl⟩⟩

theorem boxFacts {w : World} {k : Nat} {t : TypeId} {a b : Value} (h : Bk w k t #[a, b]) : w.cell? ⟨k, 0, none⟩ = some a ∧ w.cell? ⟨k, 1, none⟩ = some b ∧ w.frozen? ⟨k, 0, none⟩ = false ∧ w.frozen? ⟨k, 1, none⟩ = false :=
  ⟨by simpa using h.cell 0, by simpa using h.cell 1, h.frozen 0, h.frozen 1⟩
/-- what a slice owns: its room, that it may be written, what it owns behind a store of one byte -/
theorem own_parts {W : World} {base g cap : Nat} {bs : List UInt8} (h : W.ownsRow base 5 1 (.slice (some ⟨g, 0, none⟩) bs.length cap) bs.length (u8s bs)) {q : Nat} (hq : q < bs.length) (x : UInt8) :
    bs.length ≤ cap ∧ base ≤ g ∧ W.frozen? ⟨g, q, none⟩ = false ∧ (W.setCell ⟨g, q, none⟩ (.int .u8 (x.toNat : Int))).ownsRow base 5 1 (.slice (some ⟨g, 0, none⟩) bs.length cap) bs.length (u8s (bs.set q x)) := by
  rcases h.2 with ⟨h, _⟩ | ⟨g', cap', cur, hv, hb, hh, hc, hm, hs, ht⟩
  · cases h
  · obtain ⟨rfl, rfl⟩ : g = g' ∧ cap = cap' := by injection hv with a _ b; injection a with a; injection a with a; exact ⟨a, b⟩
    have hk : Bk W g 5 cur := hh
    refine ⟨hc, hb, hk.frozen q, by simp, .inr ⟨g, cap, _, rfl, hb, hk.set q _, hc, hm, by simpa using hs, ?_⟩⟩
    have e : u8s (bs.set q x) = (u8s bs).set q (.int .u8 (x.toNat : Int)) := by simp [u8s, u8, List.map_set]
    rw [e, ← ht, Array.toList_setIfInBounds, List.take_set]
theorem keepF {w : World} {k : Nat} {t : TypeId} {a b : Value} (h : Bk w k t #[a, b]) : w.cell? ⟨k, 0, none⟩ = some a ∧ w.cell? ⟨k, 1, none⟩ = some b := ⟨(boxFacts h).1, (boxFacts h).2.1⟩
theorem boxAfter {W w1 : World} {row : Option Nat} (k : Nat) (a b : Value) (hg : W.grownBy w1 row) (h : at? W k = some (.cells #[a, b] 24 (0, 0))) (hne : some k ≠ row) :
    w1.cell? ⟨k, 0, none⟩ = some a ∧ w1.cell? ⟨k, 1, none⟩ = some b ∧ w1.frozen? ⟨k, 0, none⟩ = false ∧ w1.frozen? ⟨k, 1, none⟩ = false := boxFacts (Bk.grown (bkOf h) hg hne)

set_option maxHeartbeats 2000000 in
theorem With_any (s : Int) (bs : List UInt8) (A : Option Addr) (c q : Nat) (x : UInt8) (w : World) (hA : RdB w w.heap.size A bs) (hq : q < bs.length) (hn : bs.length ≤ 1000000) :
    Calls Try.prog 57 #[.agg #[.int .i64 s, .slice A bs.length c], .int .i64 (q : Int), .int .u8 (x.toNat : Int)] w fun e w' => ∃ g cap, e = .returned (.agg #[.int .i64 s, .slice (some ⟨g, 0, none⟩) bs.length cap]) ∧ bs.length ≤ cap ∧ w.heap.size ≤ g ∧ RdB w' w'.heap.size (some ⟨g, 0, none⟩) (bs.set q x) ∧ Below w.heap.size w w' := by
  obtain ⟨i0, hi, hz0, hz1, hz2⟩ := info_parts info_u8
  obtain ⟨b, o, rfl, hb, hcell⟩ := hA.2 (by omega)
  have HC := Lib.hid hcell
  clear hcell hA
  go_enter Try.func57, Try.ntmps57
  go_wp2
  go_region_held3 (fun w' => w'.cell? ⟨w.heap.size, 0, none⟩ = some (.int .i64 s) ∧ w'.cell? ⟨w.heap.size, 1, none⟩ = some (.slice (some ⟨b, o, none⟩) bs.length c))
    (first
      | (simp [go_sem, World.cell?_alloc_past]; done)
      | exact keepF yB
      | exact keepF (yB.alloc _)
      | exact keepF ((yB.far (p := ⟨w.heap.size + 1 + 1, 0, none⟩) (by simp [en2]) _).far (p := ⟨w.heap.size + 1 + 1, 1, none⟩) (by simp [en2]) _)
      | exact keepF ((yB.far (p := ⟨w.heap.size + 1 + 1 + 1, 0, none⟩) (by simp [en3]) _).far (p := ⟨w.heap.size + 1 + 1 + 1, 1, none⟩) (by simp [en3]) _)
      | fail)
    ((refine step_append_lies _ (by rfl) _ _ _ (by rfl) w.heap.size 5 i0 _ 1 1 Try.underlying22 hi hz0 hz1 hz2 rfl (by omega) _ 0 [] (by rfl) (own_empty (by simp [at?_alloc, at?_drew]) (by omega)) ⟨b, o, none⟩ bs.length c (u8s bs) (by rfl) (by simp) (fun j u hj => by rw [add_mk]; refine Eq.trans (Below.cell (B := w.heap.size) (w := w) ?_ hb) (HC.out j u hj); repeat (first | exact Below.refl _ _ | refine Below.drew ?_ | refine Below.alloc ?_ (by simp <;> omega) _)) (u8s_one bs) (by omega) (by simp only [maxLen]; omega) (by omega) (by simp; omega) _ rfl ?_; intro g cap w1 hown hgrow hat hlt; have yB : Bk w1 w.heap.size 24 #[.int .i64 s, .slice (some ⟨b, o, none⟩) bs.length c] := Bk.grown (bkOf (by simp [at?_alloc, at?_drew, en2, en3])) hgrow (by simp [Value.ownBlock, en2, en3]); have ya := boxAfter (w.heap.size + 1 + 1) (.int .i64 0) (.slice none 0 0) hgrow; have yb := boxAfter (w.heap.size + 1 + 1 + 1) (.int .i64 0) (.slice none 0 0) hgrow; simp [at?_alloc, at?_drew, Value.ownBlock, ne2, ne3, en2, en3] at ya yb))
  · obtain ⟨W, hW⟩ : ∃ W, (w1.alloc (.cells #[.int .i64 s, .slice (some ⟨g, 0, none⟩) bs.length cap] 24)) = W := ⟨_, rfl⟩
    rw [hW]
    obtain ⟨p, hp⟩ : ∃ p, p = w1.heap.size := ⟨_, rfl⟩
    have h1 : Bk W p 24 #[.int .i64 s, .slice (some ⟨g, 0, none⟩) bs.length cap] := by rw [← hW, hp]; exact Bk.new _ _ _
    have h2 : W.ownsRow w.heap.size 5 1 (.slice (some ⟨g, 0, none⟩) bs.length cap) bs.length (u8s bs) := by rw [← hW]; exact (by simpa using hown.alloc _)
    have h3 : Bk W (w.heap.size + 1) 24 #[.int .i64 0, .slice none 0 0] := by rw [← hW]; exact (Bk.grown (t := 24) (cs := #[.int .i64 0, .slice none 0 0]) (bkOf (by simp [at?_alloc, at?_drew, en2, en3])) hgrow (by simp [Value.ownBlock])).alloc _
    have h4 : Below w.heap.size w W := by rw [← hW]; exact Below.alloc (((by repeat (first | exact Below.refl _ _ | refine Below.drew ?_ | refine Below.alloc ?_ (by simp <;> omega) _)) : Below w.heap.size w _).grown hgrow (by simp; omega) (by simp [Value.ownBlock]; omega)) (by have := hgrow.size; simp at this; omega) _
    have hp1 : p ≠ w.heap.size + 1 := by have := hgrow.size; simp at this; omega
    rw [← hp]
    clear hW hp hown hgrow hat hlt yB ya yb
    obtain ⟨c0, c1, c2, c3⟩ := boxFacts h1
    obtain ⟨t0, t1, t2, t3⟩ := boxFacts h3
    have hgne1 : some (w.heap.size + 1) ≠ (Value.slice (some ⟨g, 0, none⟩) bs.length cap).ownBlock := own_ne h2 h3 (by decide)
    have e0 : W.cell? ⟨g, q, none⟩ = some (.int .u8 (bs[q].toNat : Int)) := by have := h2.cells (g := g) rfl q _ (u8s_get bs q hq); rwa [add_mk, Nat.zero_add] at this
    obtain ⟨hcap, hgw, hgfz, hst⟩ := own_parts h2 hq x
    have HST := Lib.hid hst
    have HNE := Lib.hid hgne1
    have HP1 := Lib.hid hp1
    clear hst hgne1 hp1
    have d0 : (W.setCell ⟨g, q, none⟩ (.int .u8 (x.toNat : Int))).cell? ⟨p, 0, none⟩ = some (.int .i64 s) := (World.cell?_setCell_other _ _ _ _ (fun e => own_ne h2 h1 (by decide) (by injection e with e; rw [e]; rfl))).trans c0
    have d1 : (W.setCell ⟨g, q, none⟩ (.int .u8 (x.toNat : Int))).cell? ⟨p, 1, none⟩ = some (.slice (some ⟨g, 0, none⟩) bs.length cap) := (World.cell?_setCell_other _ _ _ _ (fun e => own_ne h2 h1 (by decide) (by injection e with e; rw [e]; rfl))).trans c1
    have d2 : (W.setCell ⟨g, q, none⟩ (.int .u8 (x.toNat : Int))).cell? ⟨w.heap.size + 1, 0, none⟩ = some (.int .i64 0) := (World.cell?_setCell_other _ _ _ _ (fun e => HNE.out (by injection e with e; rw [e]; rfl))).trans t0
    have d3 : (W.setCell ⟨g, q, none⟩ (.int .u8 (x.toNat : Int))).cell? ⟨w.heap.size + 1, 1, none⟩ = some (.slice none 0 0) := (World.cell?_setCell_other _ _ _ _ (fun e => HNE.out (by injection e with e; rw [e]; rfl))).trans t1
    go_wp2
    refine bodyPost_ret (v := .agg #[.int .i64 s, .slice (some ⟨g, 0, none⟩) bs.length cap]) (by simp [results, Try.results57, go_sem, d2, d3]) rfl ⟨g, cap, rfl, hcap, hgw, ?_, ?_⟩
    · have r := own_set_far (own_set_far HST.out (p := ⟨w.heap.size + 1, 0, none⟩) (by exact HNE.out) (.int .i64 s)) (p := ⟨w.heap.size + 1, 1, none⟩) (by exact HNE.out) (.slice (some ⟨g, 0, none⟩) bs.length cap)
      have := RdS.of_own r
      simpa [RdB] using this
    · exact ((h4.setCell (p := ⟨g, q, none⟩) hgw _).setCell (p := ⟨w.heap.size + 1, 0, none⟩) (by show _ ≤ w.heap.size + 1; omega) _).setCell (p := ⟨w.heap.size + 1, 1, none⟩) (by show _ ≤ w.heap.size + 1; omega) _
  · obtain ⟨W, hW⟩ : ∃ W, (w1.setCell ⟨w.heap.size + 1 + 1 + 1, 0, none⟩ (.int .i64 s)).setCell ⟨w.heap.size + 1 + 1 + 1, 1, none⟩ (.slice (some ⟨g, 0, none⟩) bs.length cap) = W := ⟨_, rfl⟩
    rw [hW]
    obtain ⟨p, hp⟩ : ∃ p, p = w.heap.size + 1 + 1 + 1 := ⟨_, rfl⟩
    have h1 : Bk W p 24 #[.int .i64 s, .slice (some ⟨g, 0, none⟩) bs.length cap] := by rw [← hW, hp]; exact by simpa using ((Bk.grown (g := w.heap.size + 1 + 1 + 1) (t := 24) (cs := #[.int .i64 0, .slice none 0 0]) (bkOf (by simp [at?_alloc, at?_drew, ne2, ne3])) hgrow (by simp [Value.ownBlock])).set 0 (.int .i64 s)).set 1 (.slice (some ⟨g, 0, none⟩) bs.length cap)
    have h2 : W.ownsRow w.heap.size 5 1 (.slice (some ⟨g, 0, none⟩) bs.length cap) bs.length (u8s bs) := by rw [← hW]; exact (by have hB : Bk w1 (w.heap.size + 1 + 1 + 1) 24 #[.int .i64 0, .slice none 0 0] := Bk.grown (bkOf (by simp [at?_alloc, at?_drew, ne2, ne3])) hgrow (by simp [Value.ownBlock]); have h0 := own_ne hown hB (by decide); simpa using own_set_far (own_set_far hown (p := ⟨w.heap.size + 1 + 1 + 1, 0, none⟩) (by exact h0) (.int .i64 s)) (p := ⟨w.heap.size + 1 + 1 + 1, 1, none⟩) (by exact h0) (.slice (some ⟨g, 0, none⟩) bs.length cap))
    have h3 : Bk W (w.heap.size + 1) 24 #[.int .i64 0, .slice none 0 0] := by rw [← hW]; exact ((Bk.grown (t := 24) (cs := #[.int .i64 0, .slice none 0 0]) (bkOf (by simp [at?_alloc, at?_drew, en2, en3])) hgrow (by simp [Value.ownBlock])).far (p := ⟨w.heap.size + 1 + 1 + 1, 0, none⟩) (by simp) _).far (p := ⟨w.heap.size + 1 + 1 + 1, 1, none⟩) (by simp) _
    have h4 : Below w.heap.size w W := by rw [← hW]; exact ((((by repeat (first | exact Below.refl _ _ | refine Below.drew ?_ | refine Below.alloc ?_ (by simp <;> omega) _)) : Below w.heap.size w _).grown hgrow (by simp; omega) (by simp [Value.ownBlock]; omega)).setCell (p := ⟨w.heap.size + 1 + 1 + 1, 0, none⟩) (by simp; omega) _).setCell (p := ⟨w.heap.size + 1 + 1 + 1, 1, none⟩) (by simp; omega) _
    have hp1 : p ≠ w.heap.size + 1 := by have := hgrow.size; simp at this; omega
    rw [← hp]
    clear hW hp hown hgrow hat hlt yB ya yb
    obtain ⟨c0, c1, c2, c3⟩ := boxFacts h1
    obtain ⟨t0, t1, t2, t3⟩ := boxFacts h3
    have hgne1 : some (w.heap.size + 1) ≠ (Value.slice (some ⟨g, 0, none⟩) bs.length cap).ownBlock := own_ne h2 h3 (by decide)
    have e0 : W.cell? ⟨g, q, none⟩ = some (.int .u8 (bs[q].toNat : Int)) := by have := h2.cells (g := g) rfl q _ (u8s_get bs q hq); rwa [add_mk, Nat.zero_add] at this
    obtain ⟨hcap, hgw, hgfz, hst⟩ := own_parts h2 hq x
    have HST := Lib.hid hst
    have HNE := Lib.hid hgne1
    have HP1 := Lib.hid hp1
    clear hst hgne1 hp1
    have d0 : (W.setCell ⟨g, q, none⟩ (.int .u8 (x.toNat : Int))).cell? ⟨p, 0, none⟩ = some (.int .i64 s) := (World.cell?_setCell_other _ _ _ _ (fun e => own_ne h2 h1 (by decide) (by injection e with e; rw [e]; rfl))).trans c0
    have d1 : (W.setCell ⟨g, q, none⟩ (.int .u8 (x.toNat : Int))).cell? ⟨p, 1, none⟩ = some (.slice (some ⟨g, 0, none⟩) bs.length cap) := (World.cell?_setCell_other _ _ _ _ (fun e => own_ne h2 h1 (by decide) (by injection e with e; rw [e]; rfl))).trans c1
    have d2 : (W.setCell ⟨g, q, none⟩ (.int .u8 (x.toNat : Int))).cell? ⟨w.heap.size + 1, 0, none⟩ = some (.int .i64 0) := (World.cell?_setCell_other _ _ _ _ (fun e => HNE.out (by injection e with e; rw [e]; rfl))).trans t0
    have d3 : (W.setCell ⟨g, q, none⟩ (.int .u8 (x.toNat : Int))).cell? ⟨w.heap.size + 1, 1, none⟩ = some (.slice none 0 0) := (World.cell?_setCell_other _ _ _ _ (fun e => HNE.out (by injection e with e; rw [e]; rfl))).trans t1
    go_wp2
    refine bodyPost_ret (v := .agg #[.int .i64 s, .slice (some ⟨g, 0, none⟩) bs.length cap]) (by simp [results, Try.results57, go_sem, d2, d3]) rfl ⟨g, cap, rfl, hcap, hgw, ?_, ?_⟩
    · have r := own_set_far (own_set_far HST.out (p := ⟨w.heap.size + 1, 0, none⟩) (by exact HNE.out) (.int .i64 s)) (p := ⟨w.heap.size + 1, 1, none⟩) (by exact HNE.out) (.slice (some ⟨g, 0, none⟩) bs.length cap)
      have := RdS.of_own r
      simpa [RdB] using this
    · exact ((h4.setCell (p := ⟨g, q, none⟩) hgw _).setCell (p := ⟨w.heap.size + 1, 0, none⟩) (by show _ ≤ w.heap.size + 1; omega) _).setCell (p := ⟨w.heap.size + 1, 1, none⟩) (by show _ ≤ w.heap.size + 1; omega) _
  · obtain ⟨W, hW⟩ : ∃ W, (w1.setCell ⟨w.heap.size + 1 + 1, 0, none⟩ (.int .i64 s)).setCell ⟨w.heap.size + 1 + 1, 1, none⟩ (.slice (some ⟨g, 0, none⟩) bs.length cap) = W := ⟨_, rfl⟩
    rw [hW]
    obtain ⟨p, hp⟩ : ∃ p, p = w.heap.size + 1 + 1 := ⟨_, rfl⟩
    have h1 : Bk W p 24 #[.int .i64 s, .slice (some ⟨g, 0, none⟩) bs.length cap] := by rw [← hW, hp]; exact by simpa using ((Bk.grown (g := w.heap.size + 1 + 1) (t := 24) (cs := #[.int .i64 0, .slice none 0 0]) (bkOf (by simp [at?_alloc, at?_drew, ne2, ne3])) hgrow (by simp [Value.ownBlock])).set 0 (.int .i64 s)).set 1 (.slice (some ⟨g, 0, none⟩) bs.length cap)
    have h2 : W.ownsRow w.heap.size 5 1 (.slice (some ⟨g, 0, none⟩) bs.length cap) bs.length (u8s bs) := by rw [← hW]; exact (by have hB : Bk w1 (w.heap.size + 1 + 1) 24 #[.int .i64 0, .slice none 0 0] := Bk.grown (bkOf (by simp [at?_alloc, at?_drew, ne2, ne3])) hgrow (by simp [Value.ownBlock]); have h0 := own_ne hown hB (by decide); simpa using own_set_far (own_set_far hown (p := ⟨w.heap.size + 1 + 1, 0, none⟩) (by exact h0) (.int .i64 s)) (p := ⟨w.heap.size + 1 + 1, 1, none⟩) (by exact h0) (.slice (some ⟨g, 0, none⟩) bs.length cap))
    have h3 : Bk W (w.heap.size + 1) 24 #[.int .i64 0, .slice none 0 0] := by rw [← hW]; exact ((Bk.grown (t := 24) (cs := #[.int .i64 0, .slice none 0 0]) (bkOf (by simp [at?_alloc, at?_drew, en2, en3])) hgrow (by simp [Value.ownBlock])).far (p := ⟨w.heap.size + 1 + 1, 0, none⟩) (by simp) _).far (p := ⟨w.heap.size + 1 + 1, 1, none⟩) (by simp) _
    have h4 : Below w.heap.size w W := by rw [← hW]; exact ((((by repeat (first | exact Below.refl _ _ | refine Below.drew ?_ | refine Below.alloc ?_ (by simp <;> omega) _)) : Below w.heap.size w _).grown hgrow (by simp; omega) (by simp [Value.ownBlock]; omega)).setCell (p := ⟨w.heap.size + 1 + 1, 0, none⟩) (by simp; omega) _).setCell (p := ⟨w.heap.size + 1 + 1, 1, none⟩) (by simp; omega) _
    have hp1 : p ≠ w.heap.size + 1 := by have := hgrow.size; simp at this; omega
    rw [← hp]
    clear hW hp hown hgrow hat hlt yB ya yb
    obtain ⟨c0, c1, c2, c3⟩ := boxFacts h1
    obtain ⟨t0, t1, t2, t3⟩ := boxFacts h3
    have hgne1 : some (w.heap.size + 1) ≠ (Value.slice (some ⟨g, 0, none⟩) bs.length cap).ownBlock := own_ne h2 h3 (by decide)
    have e0 : W.cell? ⟨g, q, none⟩ = some (.int .u8 (bs[q].toNat : Int)) := by have := h2.cells (g := g) rfl q _ (u8s_get bs q hq); rwa [add_mk, Nat.zero_add] at this
    obtain ⟨hcap, hgw, hgfz, hst⟩ := own_parts h2 hq x
    have HST := Lib.hid hst
    have HNE := Lib.hid hgne1
    have HP1 := Lib.hid hp1
    clear hst hgne1 hp1
    have d0 : (W.setCell ⟨g, q, none⟩ (.int .u8 (x.toNat : Int))).cell? ⟨p, 0, none⟩ = some (.int .i64 s) := (World.cell?_setCell_other _ _ _ _ (fun e => own_ne h2 h1 (by decide) (by injection e with e; rw [e]; rfl))).trans c0
    have d1 : (W.setCell ⟨g, q, none⟩ (.int .u8 (x.toNat : Int))).cell? ⟨p, 1, none⟩ = some (.slice (some ⟨g, 0, none⟩) bs.length cap) := (World.cell?_setCell_other _ _ _ _ (fun e => own_ne h2 h1 (by decide) (by injection e with e; rw [e]; rfl))).trans c1
    have d2 : (W.setCell ⟨g, q, none⟩ (.int .u8 (x.toNat : Int))).cell? ⟨w.heap.size + 1, 0, none⟩ = some (.int .i64 0) := (World.cell?_setCell_other _ _ _ _ (fun e => HNE.out (by injection e with e; rw [e]; rfl))).trans t0
    have d3 : (W.setCell ⟨g, q, none⟩ (.int .u8 (x.toNat : Int))).cell? ⟨w.heap.size + 1, 1, none⟩ = some (.slice none 0 0) := (World.cell?_setCell_other _ _ _ _ (fun e => HNE.out (by injection e with e; rw [e]; rfl))).trans t1
    go_wp2
    refine bodyPost_ret (v := .agg #[.int .i64 s, .slice (some ⟨g, 0, none⟩) bs.length cap]) (by simp [results, Try.results57, go_sem, d2, d3]) rfl ⟨g, cap, rfl, hcap, hgw, ?_, ?_⟩
    · have r := own_set_far (own_set_far HST.out (p := ⟨w.heap.size + 1, 0, none⟩) (by exact HNE.out) (.int .i64 s)) (p := ⟨w.heap.size + 1, 1, none⟩) (by exact HNE.out) (.slice (some ⟨g, 0, none⟩) bs.length cap)
      have := RdS.of_own r
      simpa [RdB] using this
    · exact ((h4.setCell (p := ⟨g, q, none⟩) hgw _).setCell (p := ⟨w.heap.size + 1, 0, none⟩) (by show _ ≤ w.heap.size + 1; omega) _).setCell (p := ⟨w.heap.size + 1, 1, none⟩) (by show _ ≤ w.heap.size + 1; omega) _
end Go.Proofs.Ytpcklbmhblmjpaa
