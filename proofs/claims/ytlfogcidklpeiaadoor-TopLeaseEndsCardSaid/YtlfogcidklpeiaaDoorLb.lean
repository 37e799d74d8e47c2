/- Contracts of package lease and of its reference: Expire, Grant; comparing. -/
import Derived.Test.YtlfogcidklpeiaaDoorLa
import Derived.OwnWalk
import Derived.Maps.AppendAt
set_option maxRecDepth 100000
set_option linter.unusedVariables false
set_option linter.unusedSimpArgs false
namespace Go.Proofs.YtlfogcidklpeiaaDoor
open Go.RowKit Go.Sort

theorem info_lease : (Tryd.prog.info? 30).map (fun i => (i.zero, i.size, i.bytes)) = some (some (.agg #[.int .i64 0, .int .i64 0, .int .i64 0, .int .i64 0, .int .i64 0]), 5, 40) := by kernel_rfl
theorem news5 (W : World) (t : TypeId) (a b c d e : Value) : ∀ j u, [a, b, c, d, e][j]? = some u → (W.alloc (.cells #[a, b, c, d, e] t)).cell? ((⟨W.heap.size, 0, none⟩ : Addr).add j) = some u := by
  intro j u hj
  rw [add_mk, (Bk.new W t #[a, b, c, d, e]).cell]
  simpa using hj
section
variable {w w' : World} {base n sz : Nat} {e : TypeId} {v : Value} {xs : List Value}
theorem own_read (h : w.ownsRow base e sz v n xs) : ∃ A c, v = .slice A n c ∧ n ≤ c ∧ RdS w w.heap.size sz A n xs := by
  have h' := h
  obtain ⟨h1, h2⟩ := h
  rcases h2 with ⟨rfl, rfl⟩ | ⟨g, cap, cur, rfl, _, _, hc, _⟩
  · have : xs = [] := List.eq_nil_of_length_eq_zero (by omega)
    subst this
    exact ⟨none, 0, rfl, Nat.le_refl _, RdS.nil⟩
  · exact ⟨some ⟨g, 0, none⟩, cap, rfl, hc, RdS.of_own h'⟩
theorem own_next (h : w.ownsRow base e sz v n xs) (hb : Below w.heap.size w w') : w'.ownsRow base e sz v n xs := by
  obtain ⟨h1, h2⟩ := h
  refine ⟨h1, ?_⟩
  rcases h2 with h2 | ⟨g, cap, cur, rfl, hg, hh, r⟩
  · exact .inl h2
  · exact .inr ⟨g, cap, cur, rfl, hg, (hb.block g (Array.getElem?_eq_some_iff.1 hh).1).trans hh, r⟩
theorem own_below (h : w.ownsRow base e sz v n xs) {W : World} {o : Obj} {w1 : World} (hb : Below w.heap.size w W) (hg : (W.alloc o).grownBy w1 v.ownBlock) (hB : base ≤ w.heap.size) : Below base W w1 :=
  ((Below.refl base W).alloc (by have := hb.size; omega) o).trans (grownBy_below hg (by have := hb.size; simp; omega) fun k hk => (h.lt k hk).1)
end

def LPost (w : World) (l : List Lea) (er : Int) (e : Ending) (w' : World) : Prop :=
  ∃ A c, e = .returned (.tuple #[.slice A l.length c, .int .i64 er]) ∧ l.length ≤ c ∧ RdL w' w'.heap.size A l ∧ Below w.heap.size w w'

theorem filter_take_pos {l : List Lea} {k : Nat} {p : Lea → Bool} {x : Lea} (hk : k < l.length) (hx : x = l[k]) (hp : p x = true) : (l.take (k + 1)).filter p = (l.take k).filter p ++ [x] := by
  rw [List.take_succ_eq_append_getElem hk, List.filter_append, ← hx, List.filter_cons_of_pos hp]; rfl
theorem filter_take_neg {l : List Lea} {k : Nat} {p : Lea → Bool} {x : Lea} (hk : k < l.length) (hx : x = l[k]) (hp : p x = false) : (l.take (k + 1)).filter p = (l.take k).filter p := by
  rw [List.take_succ_eq_append_getElem hk, List.filter_append, ← hx, List.filter_cons_of_neg (by simp [hp])]; simp
theorem filter_take_le {l : List Lea} {k : Nat} {p : Lea → Bool} : ((l.take k).filter p).length ≤ k := Nat.le_trans (List.length_filter_le _ _) (List.length_take_le _ _)
theorem exp_in {l : List Lea} {tick : Int} (h1 : vlB l = true) (h2 : 0 ≤ tick) (h3 : tick ≤ 1100000) : expE l tick = 0 ∧ expL l tick = l.filter (lftB tick) := by simp [expE, expL, expB, h1, h2, h3]
theorem exp_out {l : List Lea} {tick : Int} (h : vlB l = false ∨ tick < 0 ∨ 1100000 < tick) : expE l tick = 1 ∧ expL l tick = [] := by
  have : expB l tick = false := by
    unfold expB
    rcases h with h | h | h
    · simp [h]
    · rw [show decide (0 ≤ tick ∧ tick ≤ 1100000) = false from by simp; omega]; simp
    · rw [show decide (0 ≤ tick ∧ tick ≤ 1100000) = false from by simp; omega]; simp
  simp [expE, expL, this]

end Go.Proofs.YtlfogcidklpeiaaDoor
