/- Words for memory in the match laws: slices of passes and of pairs, numbers, owned rows. No program. -/
import Derived.Test.YthmipmdpdfdlaaaDoorMem
import Derived.Test.YthmipmdpdfdlaaaDoorApp
import Derived.Test.YthmipmdpdfdlaaaDoorTb
set_option linter.unusedVariables false
set_option linter.unusedSimpArgs false
namespace Go.Proofs.YthmipmdpdfdlaaaDoor
open Go.RowKit

theorem al1 (w : World) (o : Obj) : Below w.heap.size w (w.alloc o) := (Below.refl _ _).alloc (Nat.le_refl _) _
theorem al2 (w : World) (o o' : Obj) : Below w.heap.size w ((w.alloc o).alloc o') := (al1 w o).alloc (by simp) _
theorem al3 (w : World) (o o' o'' : Obj) : Below w.heap.size w (((w.alloc o).alloc o').alloc o'') := (al2 w o o').alloc (by simp; omega) _
theorem box1 {w : World} {k : Nat} {t : TypeId} {a : Value} (h : Bk w k t #[a]) : w.cell? ⟨k, 0, none⟩ = some a := h.cell 0
theorem box2 {w : World} {k : Nat} {t : TypeId} {a b : Value} (h : Bk w k t #[a, b]) : w.cell? ⟨k, 0, none⟩ = some a ∧ w.cell? ⟨k, 1, none⟩ = some b := ⟨h.cell 0, h.cell 1⟩
theorem own_read {w : World} {base n sz : Nat} {e : TypeId} {v : Value} {xs : List Value} (h : w.ownsRow base e sz v n xs) : ∃ A c, v = .slice A n c ∧ n ≤ c ∧ RdS w w.heap.size sz A n xs := by
  have h' := h
  obtain ⟨h1, h2⟩ := h
  rcases h2 with ⟨rfl, rfl⟩ | ⟨g, cap, cur, rfl, _, _, hc, _⟩
  · have : xs = [] := List.eq_nil_of_length_eq_zero (by omega)
    subst this
    exact ⟨none, 0, rfl, Nat.le_refl _, RdS.nil⟩
  · exact ⟨some ⟨g, 0, none⟩, cap, rfl, hc, RdS.of_own h'⟩
theorem own_on {w w' : World} {base n sz : Nat} {e : TypeId} {v : Value} {xs : List Value} (h : w.ownsRow base e sz v n xs) (hb : Below w.heap.size w w') : w'.ownsRow base e sz v n xs := by
  obtain ⟨h1, h2⟩ := h
  refine ⟨h1, ?_⟩
  rcases h2 with h2 | ⟨g, cap, cur, rfl, hg, hh, r⟩
  · exact .inl h2
  · exact .inr ⟨g, cap, cur, rfl, hg, (hb.block g (Array.getElem?_eq_some_iff.1 hh).1).trans hh, r⟩
theorem own_empty {W : World} {g base : Nat} {e : TypeId} {sz : Nat} (h : at? W g = some (.cells #[] e (0, 0))) (hb : base ≤ g) : W.ownsRow base e sz (.slice (some ⟨g, 0, none⟩) 0 0) 0 [] :=
  ⟨by simp, .inr ⟨g, 0, #[], rfl, hb, h, Nat.le_refl _, by simp [maxLen], by simp, by simp⟩⟩

/-! ### slices of two cells an element -/
section
variable {α : Type} (f g : α → Value)
def cl2 (l : List α) : List Value := l.flatMap fun x => [f x, g x]
theorem cl2_append (l m : List α) : cl2 f g (l ++ m) = cl2 f g l ++ cl2 f g m := by simp [cl2]
theorem cl2_length (l : List α) : (cl2 f g l).length = l.length * 2 := by
  induction l with
  | nil => rfl
  | cons x l ih => simp only [cl2, List.flatMap_cons, List.length_append] at ih ⊢; rw [ih]; simp; omega
theorem cl2_get : ∀ (l : List α) (i : Nat) (x : α) (j : Nat), l[i]? = some x → j < 2 → (cl2 f g l)[i * 2 + j]? = [f x, g x][j]?
  | [], i, x, j, h, _ => by simp at h
  | y :: l, 0, x, j, h, hj => by
    simp at h; subst h
    simp only [cl2, List.flatMap_cons]
    rw [List.getElem?_append_left (by simp; omega), Nat.zero_mul, Nat.zero_add]
  | y :: l, i + 1, x, j, h, hj => by
    have := cl2_get l i x j (by simpa using h) hj
    simp only [cl2, List.flatMap_cons] at this ⊢
    rw [List.getElem?_append_right (by simp; omega), ← this]
    congr 1
    simp; omega
theorem cl2_one (h1 : ∀ x, (f x).oneCell' = true) (h2 : ∀ x, (g x).oneCell' = true) (l : List α) : ∀ u ∈ cl2 f g l, u.oneCell' = true := by
  intro u hu
  simp only [cl2, List.mem_flatMap] at hu
  obtain ⟨x, _, hx⟩ := hu
  simp at hx
  rcases hx with rfl | rfl
  · exact h1 _
  · exact h2 _
def Rd2 (w : World) (B : Nat) (A : Option Addr) (l : List α) : Prop := RdS w B 2 A l.length (cl2 f g l)
variable {f g} {w w' : World} {B B' : Nat} {A : Option Addr} {l : List α}
theorem Rd2.nil : Rd2 f g w B A [] := RdS.nil
theorem Rd2.below (h : Rd2 f g w B A l) (hb : Below B w w') : Rd2 f g w' B A l := RdS.below h hb
theorem Rd2.more (h : Rd2 f g w B A l) (hb : B ≤ B') : Rd2 f g w B' A l := RdS.more h hb
theorem Rd2.next (h : Rd2 f g w w.heap.size A l) (hb : Below w.heap.size w w') : Rd2 f g w' w'.heap.size A l := RdS.next h hb
theorem Rd2.at_ (h : Rd2 f g w B A l) {i : Nat} (hi : i < l.length) : ∃ b o, A = some ⟨b, o, none⟩ ∧ b < B ∧ w.cell? ⟨b, o + i * 2, none⟩ = some (f l[i]) ∧ w.cell? ⟨b, o + i * 2 + 1, none⟩ = some (g l[i]) := by
  obtain ⟨b, o, e, hb, hc⟩ := h.2 (by omega)
  have hx : l[i]? = some l[i] := List.getElem?_eq_getElem hi
  refine ⟨b, o, e, hb, ?_, ?_⟩
  · have := hc (i * 2 + 0) _ ((cl2_get f g l i _ 0 hx (by omega)).trans rfl); rwa [← Nat.add_assoc] at this
  · have := hc (i * 2 + 1) _ ((cl2_get f g l i _ 1 hx (by omega)).trans rfl); rwa [← Nat.add_assoc] at this
/-- a slice keeps what it holds while one block that holds no cells turns -/
theorem RdS.grown {n sz : Nat} {xs : List Value} {M : Nat} (h : RdS w w.heap.size sz A n xs) (hb : w.grownBy w' (some M)) (hM : ∀ o, w.cell? ⟨M, o, none⟩ = none) (hx : 0 < sz) : RdS w' w'.heap.size sz A n xs := by
  refine ⟨h.1, fun hn => ?_⟩
  obtain ⟨b, o, e, hlt, hc⟩ := h.2 hn
  have h0 : 0 < xs.length := by rw [h.1]; exact Nat.mul_pos hn hx
  have hne : b ≠ M := fun e9 => by
    have := hc 0 xs[0] (List.getElem?_eq_getElem h0)
    rw [e9, hM] at this; cases this
  refine ⟨b, o, e, Nat.lt_of_lt_of_le hlt hb.size, fun j u hu => ?_⟩
  rw [← hc j u hu]
  simp only [World.cell?]
  rw [hb.block b hlt (fun e9 => by injection e9 with e9; exact hne e9)]
theorem Rd2.grown {M : Nat} (h : Rd2 f g w w.heap.size A l) (hb : w.grownBy w' (some M)) (hM : ∀ o, w.cell? ⟨M, o, none⟩ = none) : Rd2 f g w' w'.heap.size A l := RdS.grown h hb hM (by omega)
end
/-- passes: the plate, the minute -/
abbrev Pas := ByteArray × Int
def paF (p : Pas) : Value := .string p.1
def paG (p : Pas) : Value := .int .i64 p.2
abbrev RdP := Rd2 paF paG
def prF (p : Nat × Nat) : Value := .int .i64 (p.1 : Int)
def prG (p : Nat × Nat) : Value := .int .i64 (p.2 : Int)
abbrev RdQ := Rd2 prF prG
end Go.Proofs.YthmipmdpdfdlaaaDoor
