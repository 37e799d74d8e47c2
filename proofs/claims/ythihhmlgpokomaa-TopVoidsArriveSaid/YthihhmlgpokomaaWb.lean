/- Slices whose elements have some cells each: revocations, cards, messages, boxes. No program. -/
import Derived.Test.YthihhmlgpokomaaMem
import Derived.Test.YthihhmlgpokomaaWa
set_option linter.unusedVariables false
set_option linter.unusedSimpArgs false
namespace Go.Proofs.Ythihhmlgpokomaa
open Go.RowKit

def vdE (v : Vd) : List Value := [.int .i64 v.n, .int .i64 v.e]
def cdE (c : Cd) : List Value := [.int .i64 c.n, .int .i64 c.k, .int .i64 c.f, .int .i64 c.l]
def msE (k : Nat) : List Value := [.int .i64 7, .int .i64 ((k : Int) + 1), .int .i64 (k : Int)]
theorem vdE_len (v : Vd) : (vdE v).length = 2 := rfl
theorem cdE_len (c : Cd) : (cdE c).length = 4 := rfl
theorem msE_len (k : Nat) : (msE k).length = 3 := rfl
def encs {α : Type} (f : α → List Value) (l : List α) : List Value := l.flatMap f
section
variable {α : Type} {f : α → List Value} {sz : Nat}
@[simp] theorem encs_nil : encs f [] = [] := rfl
theorem encs_snoc (l : List α) (x : α) : encs f (l ++ [x]) = encs f l ++ f x := by simp [encs]
theorem encs_one (x : α) : encs f [x] = f x := by simp [encs]
theorem encs_append (l m : List α) : encs f (l ++ m) = encs f l ++ encs f m := by simp [encs]
theorem encs_length (hf : ∀ x, (f x).length = sz) (l : List α) : (encs f l).length = l.length * sz := by
  induction l with
  | nil => simp
  | cons x l ih => simp only [encs, List.flatMap_cons, List.length_append, List.length_cons] at ih ⊢; rw [ih, hf, Nat.succ_mul, Nat.add_comm]
theorem encs_get (hf : ∀ x, (f x).length = sz) : ∀ (l : List α) (i : Nat) (x : α) (j : Nat), l[i]? = some x → j < sz → (encs f l)[i * sz + j]? = (f x)[j]?
  | [], i, x, j, h, _ => by simp at h
  | y :: l, 0, x, j, h, hj => by
    simp at h; subst h
    simp only [encs, List.flatMap_cons]
    rw [List.getElem?_append_left (by rw [hf]; omega), Nat.zero_mul, Nat.zero_add]
  | y :: l, i + 1, x, j, h, hj => by
    have := encs_get hf l i x j (by simpa using h) hj
    simp only [encs, List.flatMap_cons] at this ⊢
    rw [Nat.succ_mul, List.getElem?_append_right (by rw [hf]; omega), ← this, hf]
    congr 1
    omega
theorem encs_take (hf : ∀ x, (f x).length = sz) (l : List α) (k : Nat) : (encs f l).take (k * sz) = encs f (l.take k) := by
  induction l generalizing k with
  | nil => simp
  | cons x l ih =>
    cases k with
    | zero => simp
    | succ k =>
      have := ih k
      simp only [encs, List.flatMap_cons, List.take_succ_cons] at this ⊢
      rw [List.take_append, ← this, List.take_of_length_le (by rw [hf, Nat.succ_mul]; omega), hf]
      congr 2
      rw [Nat.succ_mul]; omega
theorem encs_drop (hf : ∀ x, (f x).length = sz) (l : List α) (k : Nat) : (encs f l).drop (k * sz) = encs f (l.drop k) := by
  induction l generalizing k with
  | nil => simp
  | cons x l ih =>
    cases k with
    | zero => simp
    | succ k =>
      have := ih k
      simp only [encs, List.flatMap_cons, List.drop_succ_cons] at this ⊢
      rw [List.drop_append, ← this, List.drop_of_length_le (by rw [hf, Nat.succ_mul]; omega), List.nil_append, hf]
      congr 1
      rw [Nat.succ_mul]; omega

/-- the slice reads as these elements -/
def RdX (f : α → List Value) (sz : Nat) (w : World) (B : Nat) (A : Option Addr) (l : List α) : Prop := RdS w B sz A l.length (encs f l)
variable {w w' : World} {B B' : Nat} {A : Option Addr} {l : List α}
theorem RdX.nil : RdX f sz w B A [] := RdS.nil
theorem RdX.below (h : RdX f sz w B A l) (hb : Below B w w') : RdX f sz w' B A l := RdS.below h hb
theorem RdX.more (h : RdX f sz w B A l) (hb : B ≤ B') : RdX f sz w B' A l := RdS.more h hb
theorem RdX.next (h : RdX f sz w w.heap.size A l) (hb : Below w.heap.size w w') : RdX f sz w' w'.heap.size A l := RdS.next h hb
theorem RdX.at_ (hf : ∀ x, (f x).length = sz) (h : RdX f sz w B A l) {i : Nat} (hi : i < l.length) : ∃ b o, A = some ⟨b, o, none⟩ ∧ b < B ∧ ∀ j u, (f l[i])[j]? = some u → w.cell? ⟨b, o + i * sz + j, none⟩ = some u := by
  obtain ⟨b, o, e, hb, hc⟩ := h.2 (by omega)
  have hx : l[i]? = some l[i] := List.getElem?_eq_getElem hi
  refine ⟨b, o, e, hb, fun j u hu => ?_⟩
  have hj : j < sz := by
    rw [← hf l[i]]
    exact (List.getElem?_eq_some_iff.1 hu).1
  have := hc (i * sz + j) u ((encs_get hf l i _ j hx hj).trans hu)
  rwa [← Nat.add_assoc] at this
theorem RdX.take (hf : ∀ x, (f x).length = sz) (h : RdX f sz w B A l) {k : Nat} (hk : k ≤ l.length) : RdX f sz w B A (l.take k) := by
  have := RdS.head_ h hk
  rw [encs_take hf] at this
  unfold RdX
  rwa [List.length_take, Nat.min_eq_left hk]
theorem RdX.drop (hf : ∀ x, (f x).length = sz) (h : RdX f sz w B A l) {k c : Nat} (hk : k ≤ l.length) (hc : l.length ≤ c) : RdX f sz w B (if c = k then A else A.map (·.add (k * sz))) (l.drop k) := by
  have := RdS.cut h hk hc
  rw [encs_drop hf] at this
  unfold RdX
  rwa [List.length_drop]
theorem RdX.of_bk (hf : ∀ x, (f x).length = sz) {g : Nat} {t : TypeId} (h : Bk w g t (encs f l).toArray) (hg : g < B) : RdX f sz w B (some ⟨g, 0, none⟩) l := by
  refine ⟨encs_length hf l, fun hn => ⟨g, 0, rfl, hg, fun j u hu => ?_⟩⟩
  rw [Nat.zero_add, h.cell j, ← hu]; simp
end
abbrev RdV (w : World) (B : Nat) (A : Option Addr) (l : List Vd) : Prop := RdX vdE 2 w B A l
abbrev RdC (w : World) (B : Nat) (A : Option Addr) (l : List Cd) : Prop := RdX cdE 4 w B A l
abbrev RdM (w : World) (B : Nat) (A : Option Addr) (l : List Nat) : Prop := RdX msE 3 w B A l
section
variable {w : World} {B : Nat} {A : Option Addr}
theorem rdV_at {l : List Vd} (h : RdV w B A l) {i : Nat} (hi : i < l.length) : ∃ b o, A = some ⟨b, o, none⟩ ∧ b < B ∧ w.cell? ⟨b, o + i * 2, none⟩ = some (.int .i64 l[i].n) ∧ w.cell? ⟨b, o + i * 2 + 1, none⟩ = some (.int .i64 l[i].e) := by
  obtain ⟨b, o, e, hb, hc⟩ := RdX.at_ vdE_len h hi
  exact ⟨b, o, e, hb, hc 0 _ rfl, hc 1 _ rfl⟩
theorem rdC_at {l : List Cd} (h : RdC w B A l) {i : Nat} (hi : i < l.length) : ∃ b o, A = some ⟨b, o, none⟩ ∧ b < B ∧ w.cell? ⟨b, o + i * 4, none⟩ = some (.int .i64 l[i].n) ∧ w.cell? ⟨b, o + i * 4 + 1, none⟩ = some (.int .i64 l[i].k) ∧ w.cell? ⟨b, o + i * 4 + 2, none⟩ = some (.int .i64 l[i].f) ∧ w.cell? ⟨b, o + i * 4 + 3, none⟩ = some (.int .i64 l[i].l) := by
  obtain ⟨b, o, e, hb, hc⟩ := RdX.at_ cdE_len h hi
  exact ⟨b, o, e, hb, hc 0 _ rfl, hc 1 _ rfl, hc 2 _ rfl, hc 3 _ rfl⟩
theorem rdM_at {l : List Nat} (h : RdM w B A l) {i : Nat} (hi : i < l.length) : ∃ b o, A = some ⟨b, o, none⟩ ∧ b < B ∧ w.cell? ⟨b, o + i * 3, none⟩ = some (.int .i64 7) ∧ w.cell? ⟨b, o + i * 3 + 1, none⟩ = some (.int .i64 ((l[i] : Int) + 1)) ∧ w.cell? ⟨b, o + i * 3 + 2, none⟩ = some (.int .i64 (l[i] : Int)) := by
  obtain ⟨b, o, e, hb, hc⟩ := RdX.at_ msE_len h hi
  exact ⟨b, o, e, hb, hc 0 _ rfl, hc 1 _ rfl, hc 2 _ rfl⟩
end

section
variable {w w' : World} {base base' n sz : Nat} {e : TypeId} {v : Value} {xs : List Value}
theorem own_read (h : w.ownsRow base e sz v n xs) : ∃ A c, v = .slice A n c ∧ n ≤ c ∧ RdS w w.heap.size sz A n xs := by
  have h' := h
  obtain ⟨h1, h2⟩ := h
  rcases h2 with ⟨rfl, rfl⟩ | ⟨g, cap, cur, rfl, _, _, hc, _⟩
  · have : xs = [] := List.eq_nil_of_length_eq_zero (by omega)
    subst this
    exact ⟨none, 0, rfl, Nat.le_refl _, RdS.nil⟩
  · exact ⟨some ⟨g, 0, none⟩, cap, rfl, hc, RdS.of_own h'⟩
theorem own_on (h : w.ownsRow base e sz v n xs) (hb : Below w.heap.size w w') : w'.ownsRow base e sz v n xs := by
  obtain ⟨h1, h2⟩ := h
  refine ⟨h1, ?_⟩
  rcases h2 with h2 | ⟨g, cap, cur, rfl, hg, hh, r⟩
  · exact .inl h2
  · exact .inr ⟨g, cap, cur, rfl, hg, (hb.block g (Array.getElem?_eq_some_iff.1 hh).1).trans hh, r⟩
theorem own_mono (h : w.ownsRow base e sz v n xs) (hb : base' ≤ base) : w.ownsRow base' e sz v n xs := by
  obtain ⟨hl, h | ⟨g, cap, cur, rfl, hg, hh⟩⟩ := h
  · exact ⟨hl, .inl h⟩
  · exact ⟨hl, .inr ⟨g, cap, cur, rfl, by omega, hh⟩⟩
theorem own_lt (h : w.ownsRow base e sz v n xs) {g : Nat} (hg : v.ownBlock = some g) : base ≤ g ∧ g < w.heap.size := h.lt g hg
/-- what grows in a row of the call's own keeps what lies below -/
theorem own_grow {w0 w1 w2 : World} (hb : Below base' w0 w1) (h : w1.ownsRow base e sz v n xs) (hg : w1.grownBy w2 v.ownBlock) (h0 : base' ≤ w1.heap.size) (h1 : base' ≤ base) : Below base' w0 w2 :=
  hb.grown hg h0 (fun k hk => Nat.le_trans h1 (h.lt k hk).1)
end
theorem own_rdx {α : Type} {f : α → List Value} {w : World} {base sz : Nat} {e : TypeId} {v : Value} {l : List α} (h : w.ownsRow base e sz v l.length (encs f l)) : ∃ A c, v = .slice A l.length c ∧ l.length ≤ c ∧ RdX f sz w w.heap.size A l := own_read h
theorem al1 (w : World) (o : Obj) : Below w.heap.size w (w.alloc o) := (Below.refl _ _).alloc (Nat.le_refl _) _
theorem al2 (w : World) (o o' : Obj) : Below w.heap.size w ((w.alloc o).alloc o') := (al1 w o).alloc (by simp) _
theorem al3 (w : World) (o o' o'' : Obj) : Below w.heap.size w (((w.alloc o).alloc o').alloc o'') := (al2 w o o').alloc (by simp; omega) _
section
variable {w : World} {k : Nat} {t : TypeId} {a b c d : Value}
theorem box1 (h : Bk w k t #[a]) : w.cell? ⟨k, 0, none⟩ = some a := h.cell 0
theorem box2 (h : Bk w k t #[a, b]) : w.cell? ⟨k, 0, none⟩ = some a ∧ w.cell? ⟨k, 1, none⟩ = some b := ⟨h.cell 0, h.cell 1⟩
theorem box3 (h : Bk w k t #[a, b, c]) : w.cell? ⟨k, 0, none⟩ = some a ∧ w.cell? ⟨k, 1, none⟩ = some b ∧ w.cell? ⟨k, 2, none⟩ = some c := ⟨h.cell 0, h.cell 1, h.cell 2⟩
theorem box4 (h : Bk w k t #[a, b, c, d]) : w.cell? ⟨k, 0, none⟩ = some a ∧ w.cell? ⟨k, 1, none⟩ = some b ∧ w.cell? ⟨k, 2, none⟩ = some c ∧ w.cell? ⟨k, 3, none⟩ = some d := ⟨h.cell 0, h.cell 1, h.cell 2, h.cell 3⟩
end
/-- the cells of a new block -/
theorem news_at (W : World) (t : TypeId) (cs : List Value) : ∀ j u, cs[j]? = some u → (W.alloc (.cells cs.toArray t)).cell? ((⟨W.heap.size, 0, none⟩ : Addr).add j) = some u := by
  intro j u h
  rw [add_mk, Nat.zero_add, (Bk.new W t cs.toArray).cell j, ← h]
  simp
end Go.Proofs.Ythihhmlgpokomaa
