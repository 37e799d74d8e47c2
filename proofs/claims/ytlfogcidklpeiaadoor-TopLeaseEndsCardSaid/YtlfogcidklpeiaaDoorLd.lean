/- Contracts of package lease and of its reference: Grant. -/
import Derived.Test.YtlfogcidklpeiaaDoorLc
import Derived.Test.YtlfogcidklpeiaaDoorApp
import Derived.OwnWalk
set_option maxRecDepth 100000
set_option linter.unusedVariables false
set_option linter.unusedSimpArgs false
namespace Go.Proofs.YtlfogcidklpeiaaDoor
open Go.RowKit Go.Sort

theorem lsc_one (l : List Lea) : ∀ v ∈ lsc l, v.oneCell' = true := by
  intro v hv
  simp only [lsc, List.mem_flatMap, lcells] at hv
  obtain ⟨x, _, hx⟩ := hv
  simp only [List.mem_cons, List.not_mem_nil, or_false] at hx
  rcases hx with rfl | rfl | rfl | rfl | rfl <;> rfl
theorem rd_bk5 {w : World} {B g : Nat} {t : TypeId} {a b c d e : Value} (h : Bk w g t #[a, b, c, d, e]) (hg : g < B) : RdS w B 5 (some ⟨g, 0, none⟩) 1 [a, b, c, d, e] :=
  ⟨rfl, fun _ => ⟨g, 0, rfl, hg, fun j u hu => by rw [Nat.zero_add, h.cell j, ← hu]; simp⟩⟩
theorem gra_bad {l : List Lea} {x : Lea} (h : vlB l = false ∨ oneB x = false) : graE l x = 1 ∧ graL l x = [] := by
  have : graE l x = 1 := by unfold graE; rcases h with h | h <;> simp [h]
  simp [graL, this]
theorem gra_old {l : List Lea} {x : Lea} (h1 : vlB l = true) (h2 : oneB x = true) (h3 : 0 < l.length) (h4 : folB (l.getD (l.length - 1) l0) x = false) : graE l x = 12 ∧ graL l x = [] := by
  have : graE l x = 12 := by
    unfold graE
    rw [h1, h2, h4, show decide (0 < l.length) = true from by simpa using h3]; rfl
  simp [graL, this]
theorem gra_full {l : List Lea} {x : Lea} (h1 : vlB l = true) (h2 : oneB x = true) (h4 : 0 < l.length → folB (l.getD (l.length - 1) l0) x = true) (h5 : l.length = 64) : graE l x = 10 ∧ graL l x = [] := by
  have : graE l x = 10 := by
    unfold graE
    rw [h1, h2, h4 (by omega), h5]; rfl
  simp [graL, this]
theorem gra_ok {l : List Lea} {x : Lea} (h1 : vlB l = true) (h2 : oneB x = true) (h4 : 0 < l.length → folB (l.getD (l.length - 1) l0) x = true) (h5 : l.length ≠ 64) : graE l x = 0 ∧ graL l x = l ++ [x] := by
  have : graE l x = 0 := by
    unfold graE
    rw [h1, h2, if_pos (show (true && true) = true from rfl), if_neg ?_, if_neg h5]
    by_cases h : 0 < l.length
    · rw [h4 h]; simp
    · rw [decide_eq_false h]; simp
  simp [graL, this]

end Go.Proofs.YtlfogcidklpeiaaDoor
