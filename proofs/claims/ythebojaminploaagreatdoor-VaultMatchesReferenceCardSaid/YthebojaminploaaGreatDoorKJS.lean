/- What journal.look returns, as plain functions, and rows of slices of bytes. -/
import Derived.Test.YthebojaminploaaGreatDoorKJM
import Derived.Test.YthebojaminploaaGreatDoorKJb
import Derived.Test.YthebojaminploaaGreatDoorKSQ
set_option linter.unusedVariables false
namespace Go.Proofs.YthebojaminploaaGreatDoor
open Go.RowKit Go.Sort Go.Shelf

structure Con where
  area : Nat
  gen : Nat
  recs : List Rec
  fin : Nat
  clean : Bool
def restB (b : List UInt8) (e : Nat) : Bool := (b.drop e).all (· == 255)
def lookE (m : Mem) : Int :=
  if jvB m.1 m.2.length = true then
    match curO m with
    | none => 4
    | some a => match scanA (areaB m a) with
      | none => 11
      | some _ => 0
  else 1
def lookC (m : Mem) : Con :=
  if jvB m.1 m.2.length = true then
    match curO m with
    | none => ⟨0, 0, [], 0, false⟩
    | some a => match scanA (areaB m a) with
      | none => ⟨0, 0, [], 0, false⟩
      | some r => ⟨a, genB (areaB m a), r.1, r.2, restB (areaB m a) r.2⟩
  else ⟨0, 0, [], 0, false⟩
theorem look_inv {m : Mem} (h : jvB m.1 m.2.length = false) : lookE m = 1 ∧ lookC m = ⟨0, 0, [], 0, false⟩ := by unfold lookE lookC; simp [h]
theorem look_none {m : Mem} (h : jvB m.1 m.2.length = true) (h1 : curO m = none) : lookE m = 4 ∧ lookC m = ⟨0, 0, [], 0, false⟩ := by unfold lookE lookC; simp [h, h1]
theorem look_sum {m : Mem} {a : Nat} (h : jvB m.1 m.2.length = true) (h1 : curO m = some a) (h2 : scanA (areaB m a) = none) : lookE m = 11 ∧ lookC m = ⟨0, 0, [], 0, false⟩ := by unfold lookE lookC; simp [h, h1, h2]
theorem look_ok {m : Mem} {a : Nat} {l : List Rec} {e : Nat} (h : jvB m.1 m.2.length = true) (h1 : curO m = some a) (h2 : scanA (areaB m a) = some (l, e)) : lookE m = 0 ∧ lookC m = ⟨a, genB (areaB m a), l, e, restB (areaB m a) e⟩ := by unfold lookE lookC; simp [h, h1, h2]
theorem curO_le {m : Mem} {a : Nat} (h : curO m = some a) : a ≤ 1 := by
  unfold curO at h
  repeat' split at h
  all_goals (first | (injection h with h; omega) | cases h)

theorem own_keep {w w' : World} {base n sz : Nat} {e : TypeId} {v : Value} {xs : List Value} (h : w.ownsRow base e sz v n xs) (hk : ∀ g, v.ownBlock = some g → w'.heap[g]? = w.heap[g]?) : w'.ownsRow base e sz v n xs := by
  obtain ⟨hl, h | ⟨g, cap, cur, rfl, hg, hh, hcap, hmax, hsz, htk⟩⟩ := h
  · exact ⟨hl, .inl h⟩
  · exact ⟨hl, .inr ⟨g, cap, cur, rfl, hg, (hk g rfl).trans hh, hcap, hmax, hsz, htk⟩⟩
/-- a slice of bytes that a call has made: address, room, bytes -/
abbrev Itm := Option Addr × Nat × Rec
def cellB (x : Itm) : Value := .slice x.1 x.2.2.length x.2.1
def Rw (base : Nat) (its : List Itm) (v : Value) (W : World) : Prop :=
  W.ownsRow base 22 1 v its.length (its.map cellB) ∧ ∀ x ∈ its, W.ownsRow base 5 1 (cellB x) x.2.2.length (u8s x.2.2)
theorem Rw.nil (base : Nat) (W : World) : Rw base [] (.slice none 0 0) W := ⟨World.ownsRow_nil _ _ _ _, by simp⟩
theorem Rw.keep {base : Nat} {its : List Itm} {v : Value} {W W' : World} (h : Rw base its v W) (hk : ∀ g, v.ownBlock = some g → W'.heap[g]? = W.heap[g]?) (hi : ∀ x ∈ its, ∀ g, (cellB x).ownBlock = some g → W'.heap[g]? = W.heap[g]?) : Rw base its v W' :=
  ⟨own_keep h.1 hk, fun x hx => own_keep (h.2 x hx) (hi x hx)⟩
theorem own_lt {w : World} {base n sz : Nat} {e : TypeId} {v : Value} {xs : List Value} (h : w.ownsRow base e sz v n xs) {g : Nat} (hg : v.ownBlock = some g) : base ≤ g ∧ g < w.heap.size := h.lt g hg
theorem Rw.next {base : Nat} {its : List Itm} {v : Value} {W W' : World} (h : Rw base its v W) (hb : Below W.heap.size W W') : Rw base its v W' :=
  h.keep (fun g hg => hb.block g (own_lt h.1 hg).2) (fun x hx g hg => hb.block g (own_lt (h.2 x hx) hg).2)
theorem Rw.mono {base base' : Nat} {its : List Itm} {v : Value} {W : World} (h : Rw base its v W) (hb : base' ≤ base) : Rw base' its v W := by
  have key : ∀ {n sz : Nat} {e : TypeId} {v : Value} {xs : List Value}, W.ownsRow base e sz v n xs → W.ownsRow base' e sz v n xs := by
    rintro n sz e v xs ⟨hl, h | ⟨g, cap, cur, rfl, hg, hh⟩⟩
    · exact ⟨hl, .inl h⟩
    · exact ⟨hl, .inr ⟨g, cap, cur, rfl, by omega, hh⟩⟩
  exact ⟨key h.1, fun x hx => key (h.2 x hx)⟩
/-- blocks of rows of different kinds differ -/
theorem own_apart {w : World} {base base' n n' sz sz' : Nat} {e e' : TypeId} {v v' : Value} {xs xs' : List Value} (h : w.ownsRow base e sz v n xs) (h' : w.ownsRow base' e' sz' v' n' xs') (hne : e ≠ e') {g : Nat} (hg : v.ownBlock = some g) : v'.ownBlock ≠ some g := by
  intro hg'
  obtain ⟨hl, ⟨rfl, _⟩ | ⟨a, cap, cur, rfl, ha, hh, _⟩⟩ := h
  · cases hg
  obtain ⟨hl', ⟨rfl, _⟩ | ⟨a', cap', cur', rfl, ha', hh', _⟩⟩ := h'
  · cases hg'
  have e1 : a = g := by simpa [Value.ownBlock] using hg
  have e2 : a' = g := by simpa [Value.ownBlock] using hg'
  rw [e1] at hh; rw [e2, hh] at hh'
  injection hh' with hh'
  injection hh' with _ h9 _
  exact hne h9
/-- one more item: the outer row was appended to -/
theorem Rw.snoc {base : Nat} {its : List Itm} {v v' : Value} {x : Itm} {W W1 : World} (h : Rw base its v W) (hx : W.ownsRow base 5 1 (cellB x) x.2.2.length (u8s x.2.2))
    (hown : W1.ownsRow base 22 1 v' (its.length + 1) (its.map cellB ++ [cellB x])) (hg : W.grownBy W1 v.ownBlock) : Rw base (its ++ [x]) v' W1 := by
  have key : ∀ y : Itm, W.ownsRow base 5 1 (cellB y) y.2.2.length (u8s y.2.2) → W1.ownsRow base 5 1 (cellB y) y.2.2.length (u8s y.2.2) := fun y hy =>
    own_keep hy fun g hgg => hg.block g (own_lt hy hgg).2 (fun e => own_apart hy h.1 (by decide) hgg e.symm)
  refine ⟨?_, ?_⟩
  · simpa using hown
  · intro y hy
    rcases List.mem_append.1 hy with hy | hy
    · exact key y (h.2 y hy)
    · obtain rfl : y = x := by simpa using hy
      exact key _ hx
theorem Rw.rd {base : Nat} {its : List Itm} {v : Value} {W : World} (h : Rw base its v W) : ∃ A c, v = .slice A its.length c ∧ its.length ≤ c ∧ RdBs W W.heap.size A (its.map (·.2.2)) := by
  obtain ⟨A, c, rfl, hc, hr⟩ := own_read h.1
  refine ⟨A, c, rfl, hc, fun hn => ?_⟩
  obtain ⟨b, o, e, hb, hcell⟩ := hr.2 (by simpa using hn)
  refine ⟨b, o, e, hb, fun i d hd => ?_⟩
  rw [List.getElem?_map, Option.map_eq_some_iff] at hd
  obtain ⟨x, hx, rfl⟩ := hd
  have hx' := h.2 x (List.mem_of_getElem? hx)
  obtain ⟨A', c', e', hc', hr'⟩ := own_read hx'
  have ea : x.1 = A' ∧ x.2.1 = c' := by simpa [cellB] using e'
  refine ⟨x.1, x.2.1, hcell i _ (by simp [hx, cellB]), by rw [ea.2]; exact hc', ?_⟩
  rw [ea.1]
  exact hr'
end Go.Proofs.YthebojaminploaaGreatDoor
