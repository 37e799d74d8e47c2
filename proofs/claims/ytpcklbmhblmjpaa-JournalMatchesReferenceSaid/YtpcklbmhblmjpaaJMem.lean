/- Slices of slices of bytes that are read. No program. -/
import Derived.Test.YtpcklbmhblmjpaaMem
import Derived.Test.YtpcklbmhblmjpaaJMath
set_option linter.unusedVariables false
namespace Go.Proofs.Ytpcklbmhblmjpaa
open Go.RowKit

/-- a slice of slices of bytes -/
def RdBs (w : World) (B : Nat) (A : Option Addr) (ds : List Rec) : Prop :=
  0 < ds.length → ∃ b o, A = some ⟨b, o, none⟩ ∧ b < B ∧ ∀ i d, ds[i]? = some d → ∃ A' c', w.cell? ⟨b, o + i, none⟩ = some (.slice A' d.length c') ∧ d.length ≤ c' ∧ RdB w B A' d
section
variable {w w' : World} {B B' : Nat} {A : Option Addr} {ds : List Rec}
theorem RdBs.below (h : RdBs w B A ds) (hb : Below B w w') : RdBs w' B A ds := fun hn => by
  obtain ⟨b, o, e, hl, hc⟩ := h hn
  refine ⟨b, o, e, hl, fun i d hd => ?_⟩
  obtain ⟨A', c', h1, h2, h3⟩ := hc i d hd
  exact ⟨A', c', (hb.cell (p := ⟨b, o + i, none⟩) hl).trans h1, h2, h3.below hb⟩
theorem RdBs.more (h : RdBs w B A ds) (hb : B ≤ B') : RdBs w B' A ds := fun hn => by
  obtain ⟨b, o, e, hl, hc⟩ := h hn
  refine ⟨b, o, e, by omega, fun i d hd => ?_⟩
  obtain ⟨A', c', h1, h2, h3⟩ := hc i d hd
  exact ⟨A', c', h1, h2, h3.more hb⟩
theorem RdBs.next (h : RdBs w w.heap.size A ds) (hb : Below w.heap.size w w') : RdBs w' w'.heap.size A ds := (h.below hb).more hb.size
theorem RdBs.at_ (h : RdBs w B A ds) {i : Nat} (hi : i < ds.length) : ∃ b o A' c', A = some ⟨b, o, none⟩ ∧ b < B ∧ w.cell? ⟨b, o + i, none⟩ = some (.slice A' ds[i].length c') ∧ ds[i].length ≤ c' ∧ RdB w B A' ds[i] := by
  obtain ⟨b, o, e, hl, hc⟩ := h (by omega)
  obtain ⟨A', c', h1, h2, h3⟩ := hc i ds[i] (List.getElem?_eq_getElem hi)
  exact ⟨b, o, A', c', e, hl, h1, h2, h3⟩
theorem RdBs.nil : RdBs w B A [] := fun h => absurd h (by simp)
end
theorem al1 (w : World) (o : Obj) : Below w.heap.size w (w.alloc o) := (Below.refl _ _).alloc (Nat.le_refl _) _
theorem al2 (w : World) (o o' : Obj) : Below w.heap.size w ((w.alloc o).alloc o') := (al1 w o).alloc (by simp) _
theorem al3 (w : World) (o o' o'' : Obj) : Below w.heap.size w (((w.alloc o).alloc o').alloc o'') := (al2 w o o').alloc (by simp; omega) _
theorem box1 {w : World} {k : Nat} {t : TypeId} {a : Value} (h : Bk w k t #[a]) : w.cell? ⟨k, 0, none⟩ = some a := h.cell 0
theorem box2 {w : World} {k : Nat} {t : TypeId} {a b : Value} (h : Bk w k t #[a, b]) : w.cell? ⟨k, 0, none⟩ = some a ∧ w.cell? ⟨k, 1, none⟩ = some b := ⟨h.cell 0, h.cell 1⟩
theorem own_read {w : World} {base n sz : Nat} {e : TypeId} {v : Value} {xs : List Value} (h : w.ownsRow base e sz v n xs) : ∃ A c, v = .slice A n c ∧ n ≤ c ∧ RdS w w.heap.size sz A n xs := by
  have h' := h
  obtain ⟨h1, h2⟩ := h
  rcases h2 with ⟨rfl, rfl⟩ | ⟨g, cap, cur, rfl, _, _, hc, _⟩
  · have : xs = [] := List.eq_nil_of_length_eq_zero (by omega)
    subst this
    exact ⟨none, 0, rfl, Nat.le_refl _, RdS.nil⟩
  · exact ⟨some ⟨g, 0, none⟩, cap, rfl, hc, RdS.of_own h'⟩
theorem own_on {w w' : World} {base n sz : Nat} {e : TypeId} {v : Value} {xs : List Value} (h : w.ownsRow base e sz v n xs) (hb : Below w.heap.size w w') : w'.ownsRow base e sz v n xs := by
  obtain ⟨h1, h2⟩ := h
  refine ⟨h1, ?_⟩
  rcases h2 with h2 | ⟨g, cap, cur, rfl, hg, hh, r⟩
  · exact .inl h2
  · exact .inr ⟨g, cap, cur, rfl, hg, (hb.block g (Array.getElem?_eq_some_iff.1 hh).1).trans hh, r⟩
end Go.Proofs.Ytpcklbmhblmjpaa
