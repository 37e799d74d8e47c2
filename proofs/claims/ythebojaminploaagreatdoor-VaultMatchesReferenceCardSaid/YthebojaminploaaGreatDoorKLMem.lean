/- Slices of leases and of numbers that are read. No program. -/
import Derived.Test.YthebojaminploaaGreatDoorKMem
import Derived.Test.YthebojaminploaaGreatDoorKLM
set_option linter.unusedVariables false
namespace Go.Proofs.YthebojaminploaaGreatDoor
open Go.RowKit

def lcells (x : Lea) : List Value := [.int .i64 x.n, .int .i64 x.c, .int .i64 x.a, .int .i64 x.f, .int .i64 x.t]
def lsc (l : List Lea) : List Value := l.flatMap lcells
@[simp] theorem lsc_nil : lsc [] = [] := rfl
theorem lsc_snoc (l : List Lea) (x : Lea) : lsc (l ++ [x]) = lsc l ++ [.int .i64 x.n, .int .i64 x.c, .int .i64 x.a, .int .i64 x.f, .int .i64 x.t] := by simp [lsc, lcells]
theorem lsc_append (l m : List Lea) : lsc (l ++ m) = lsc l ++ lsc m := by simp [lsc]
theorem lsc_length (l : List Lea) : (lsc l).length = l.length * 5 := by
  induction l with
  | nil => rfl
  | cons x l ih => simp only [lsc, List.flatMap_cons, List.length_append] at ih ⊢; rw [ih]; simp [lcells]; omega
theorem lsc_get : ∀ (l : List Lea) (i : Nat) (x : Lea) (j : Nat), l[i]? = some x → j < 5 → (lsc l)[i * 5 + j]? = (lcells x)[j]?
  | [], i, x, j, h, _ => by simp at h
  | y :: l, 0, x, j, h, hj => by
    simp at h; subst h
    simp only [lsc, List.flatMap_cons]
    rw [List.getElem?_append_left (by simp [lcells]; omega), Nat.zero_mul, Nat.zero_add]
  | y :: l, i + 1, x, j, h, hj => by
    have := lsc_get l i x j (by simpa using h) hj
    simp only [lsc, List.flatMap_cons] at this ⊢
    rw [List.getElem?_append_right (by simp [lcells]; omega), ← this]
    congr 1
    simp [lcells]; omega
theorem lsc_take (l : List Lea) (k : Nat) : (lsc l).take (k * 5) = lsc (l.take k) := by
  induction l generalizing k with
  | nil => simp [lsc]
  | cons x l ih =>
    cases k with
    | zero => simp [lsc]
    | succ k =>
      have := ih k
      simp only [lsc, List.flatMap_cons, List.take_succ_cons] at this ⊢
      rw [List.take_append, ← this, List.take_of_length_le (by simp [lcells]; omega)]
      congr 2
      simp [lcells]; omega
theorem lsc_drop (l : List Lea) (k : Nat) : (lsc l).drop (k * 5) = lsc (l.drop k) := by
  induction l generalizing k with
  | nil => simp [lsc]
  | cons x l ih =>
    cases k with
    | zero => simp [lsc]
    | succ k =>
      have := ih k
      simp only [lsc, List.flatMap_cons, List.drop_succ_cons] at this ⊢
      rw [List.drop_append, ← this, List.drop_of_length_le (by simp [lcells]; omega), List.nil_append]
      congr 1
      simp [lcells]; omega

/-- the slice reads as these leases -/
def RdL (w : World) (B : Nat) (A : Option Addr) (l : List Lea) : Prop := RdS w B 5 A l.length (lsc l)
section
variable {w w' : World} {B B' : Nat} {A : Option Addr} {l : List Lea}
theorem RdL.nil : RdL w B A [] := RdS.nil
theorem RdL.below (h : RdL w B A l) (hb : Below B w w') : RdL w' B A l := RdS.below h hb
theorem RdL.more (h : RdL w B A l) (hb : B ≤ B') : RdL w B' A l := RdS.more h hb
theorem RdL.next (h : RdL w w.heap.size A l) (hb : Below w.heap.size w w') : RdL w' w'.heap.size A l := RdS.next h hb
theorem RdL.at_ (h : RdL w B A l) {i : Nat} (hi : i < l.length) : ∃ b o, A = some ⟨b, o, none⟩ ∧ b < B ∧
    w.cell? ⟨b, o + i * 5, none⟩ = some (.int .i64 l[i].n) ∧ w.cell? ⟨b, o + i * 5 + 1, none⟩ = some (.int .i64 l[i].c) ∧ w.cell? ⟨b, o + i * 5 + 2, none⟩ = some (.int .i64 l[i].a) ∧
    w.cell? ⟨b, o + i * 5 + 3, none⟩ = some (.int .i64 l[i].f) ∧ w.cell? ⟨b, o + i * 5 + 4, none⟩ = some (.int .i64 l[i].t) := by
  obtain ⟨b, o, e, hb, hc⟩ := h.2 (by omega)
  have hx : l[i]? = some l[i] := List.getElem?_eq_getElem hi
  refine ⟨b, o, e, hb, ?_, ?_, ?_, ?_, ?_⟩
  · have := hc (i * 5 + 0) _ ((lsc_get l i _ 0 hx (by omega)).trans rfl); rwa [← Nat.add_assoc] at this
  · have := hc (i * 5 + 1) _ ((lsc_get l i _ 1 hx (by omega)).trans rfl); rwa [← Nat.add_assoc] at this
  · have := hc (i * 5 + 2) _ ((lsc_get l i _ 2 hx (by omega)).trans rfl); rwa [← Nat.add_assoc] at this
  · have := hc (i * 5 + 3) _ ((lsc_get l i _ 3 hx (by omega)).trans rfl); rwa [← Nat.add_assoc] at this
  · have := hc (i * 5 + 4) _ ((lsc_get l i _ 4 hx (by omega)).trans rfl); rwa [← Nat.add_assoc] at this
theorem RdL.take (h : RdL w B A l) {k : Nat} (hk : k ≤ l.length) : RdL w B A (l.take k) := by
  have := RdS.head_ h hk
  rw [lsc_take] at this
  unfold RdL
  rwa [List.length_take, Nat.min_eq_left hk]
theorem RdL.drop (h : RdL w B A l) {k c : Nat} (hk : k ≤ l.length) (hc : l.length ≤ c) : RdL w B (if c = k then A else A.map (·.add (k * 5))) (l.drop k) := by
  have := RdS.cut h hk hc
  rw [lsc_drop] at this
  unfold RdL
  rwa [List.length_drop]
end

/-! ### numbers -/
def i64s (zs : List Int) : List Value := zs.map (Value.int .i64)
@[simp] theorem i64s_length (zs : List Int) : (i64s zs).length = zs.length := by simp [i64s]
theorem i64s_get (zs : List Int) (k : Nat) (hk : k < zs.length) : (i64s zs)[k]? = some (.int .i64 zs[k]) := by simp [i64s, hk]
def RdI (w : World) (B : Nat) (A : Option Addr) (zs : List Int) : Prop := RdS w B 1 A zs.length (i64s zs)
section
variable {w w' : World} {B B' : Nat} {A : Option Addr} {zs : List Int}
theorem RdI.nil : RdI w B A [] := RdS.nil
theorem RdI.below (h : RdI w B A zs) (hb : Below B w w') : RdI w' B A zs := RdS.below h hb
theorem RdI.more (h : RdI w B A zs) (hb : B ≤ B') : RdI w B' A zs := RdS.more h hb
theorem RdI.next (h : RdI w w.heap.size A zs) (hb : Below w.heap.size w w') : RdI w' w'.heap.size A zs := RdS.next h hb
theorem RdI.at_ (h : RdI w B A zs) {k : Nat} (hk : k < zs.length) : ∃ b o, A = some ⟨b, o, none⟩ ∧ b < B ∧ w.cell? ⟨b, o + k, none⟩ = some (.int .i64 zs[k]) := by
  obtain ⟨b, o, e, hb, hc⟩ := h.2 (by omega)
  exact ⟨b, o, e, hb, hc k _ (i64s_get zs k hk)⟩
theorem RdI.of_bk {g : Nat} {t : TypeId} (h : Bk w g t (i64s zs).toArray) (hg : g < B) : RdI w B (some ⟨g, 0, none⟩) zs := by
  refine ⟨by simp, fun hn => ⟨g, 0, rfl, hg, fun j u hu => ?_⟩⟩
  rw [Nat.zero_add, h.cell j, ← hu]; simp
theorem i64s_set (zs : List Int) (i : Nat) (z : Int) : (i64s zs).toArray.setIfInBounds i (.int .i64 z) = (i64s (zs.set i z)).toArray := by
  apply Array.ext'
  simp [i64s, List.map_set]
end
theorem RdL.of_bk {w : World} {B g : Nat} {l : List Lea} {t : TypeId} (h : Bk w g t (lsc l).toArray) (hg : g < B) : RdL w B (some ⟨g, 0, none⟩) l := by
  refine ⟨lsc_length l, fun hn => ⟨g, 0, rfl, hg, fun j u hu => ?_⟩⟩
  rw [Nat.zero_add, h.cell j, ← hu]; simp
end Go.Proofs.YthebojaminploaaGreatDoor
