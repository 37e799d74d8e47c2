/- hub: Receive: the boxes, what is handed back. -/
import Derived.Test.YthihhmlgpokomaaWi
set_option linter.unusedVariables false
namespace Go.Proofs.Ythihhmlgpokomaa
open Go.RowKit

/-- the boxes: none, or one -/
def BxR (w : World) (v : Value) (s : Ib) : Prop := (v = .slice none 0 0 ∧ s = (0, [])) ∨ ∃ b o c D d, v = .slice (some ⟨b, o, none⟩) 1 c ∧ 1 ≤ c ∧ Bx1 w b o D d s
theorem BxR.next {w w' : World} {v : Value} {s : Ib} (h : BxR w v s) (hb : Below w.heap.size w w') : BxR w' v s := by
  rcases h with h | ⟨b, o, c, D, d, e, hc, hx⟩
  · exact .inl h
  · exact .inr ⟨b, o, c, D, d, e, hc, hx.next hb⟩
theorem Iv.len_lt {n : Nat} {s : Ib} (h : Iv n s) (hn : s.1 < n) : s.1 + s.2.length < n := by
  by_cases e : s.2.length = 0
  · omega
  · have h1 := h.inc.far h.lo (s.2.length - 1) (by omega)
    have h2 := h.hi (s.2.length - 1) (by omega)
    omega
/-- what Receive hands back where it refuses nothing -/
def RcvPost (s : Ib) (k : Nat) (w : World) (e : Ending) (w' : World) : Prop :=
  ∃ v Ao co, e = .returned (.tuple #[v, .slice Ao (ovL s k).length co, .int .i64 0]) ∧ BxR w' v (rcv s k) ∧ (ovL s k).length ≤ co ∧ RdM w' w'.heap.size Ao (ovL s k) ∧ Below w.heap.size w w'
end Go.Proofs.Ythihhmlgpokomaa
