/- Plain: the same call after an interruption. -/
import Derived.Test.YtkeghidlolidmaaJW
set_option maxRecDepth 100000
set_option linter.unusedVariables false
set_option linter.unusedSimpArgs false
namespace Go.Proofs.Ytkeghidlolidmaa

theorem lastM_map {f m : Mem} {F : List (List UInt8)} {z : List UInt8} {L : List (List UInt8)} (h : L = F ++ [z]) : lastM f (L.map fun b => ((m.1, b) : Mem)) 0 = mk m z := by
  unfold lastM
  rw [if_pos rfl, h, List.map_append]
  simp [mk]
theorem again_app {m : Mem} {d : Rec} (h0 : lookE m = 0) (hg : (lookC m).gen ≤ 4294967293) {m' : Mem} (h0' : lookE m' = 0) (hr : (lookC m').recs = (lookC m).recs) (hf' : (lookC m').fin = (lookC m).fin) (hg' : (lookC m').gen = (lookC m).gen) (hh : hf m' = hf m) (ha : appE m d = 0) :
    appE m' d = 0 ∧ hldB (lastM m' (appM m' d) 0) ((lookC m).recs ++ [d]) = true ∧ (appM m' d).length ≤ 1000000 := by
  obtain ⟨hd, hfit, _⟩ := app_cond h0 d ha
  have hfin : (lookC m).fin = 5 + room (lookC m).recs := by
    obtain ⟨a, l, e, hJ⟩ := Jr.of h0
    rw [hJ.look.2]; exact hJ.facts.2.2.2.2.1
  have hE : appE m' d = 0 := by
    unfold appE
    rw [if_pos h0', if_pos ⟨hd, by rw [hf', hh]; exact hfit⟩]
    split
    · rfl
    · unfold rewE
      rw [if_pos h0', if_pos ⟨by rw [hr, room_append, hh]; simp [room]; omega, by rw [hg']; omega⟩]
  obtain ⟨F, z, hS⟩ := app_steps h0' d hE
  have hz : lastM m' (appM m' d) 0 = mk m' z := by unfold appM; exact lastM_map hS.split
  refine ⟨hE, ?_, by unfold appM; rw [List.length_map]; exact (steps_size hS).2⟩
  rw [hz]
  unfold hldB
  exact decide_eq_true ⟨hS.zok, by rw [hS.zrecs, hr]⟩
theorem again_rew {m : Mem} {keep : List Rec} (h0 : lookE m = 0) (hg : (lookC m).gen ≤ 4294967293) {m' : Mem} (h0' : lookE m' = 0) (hg' : (lookC m').gen = (lookC m).gen) (hh : hf m' = hf m) (ha : rewE m keep = 0) :
    rewE m' keep = 0 ∧ hldB (lastM m' (rewM m' keep) 0) keep = true ∧ (rewM m' keep).length ≤ 1000000 := by
  obtain ⟨hfit, _, _⟩ := rew_steps h0 keep ha
  have hE : rewE m' keep = 0 := by
    unfold rewE
    rw [if_pos h0', if_pos ⟨by rw [hh]; exact hfit, by rw [hg']; omega⟩]
  obtain ⟨_, _, F, z, hS, _⟩ := rew_steps h0' keep hE
  have hz : lastM m' (rewM m' keep) 0 = mk m' z := by unfold rewM; exact lastM_map hS.split
  refine ⟨hE, ?_, by unfold rewM; rw [List.length_map]; exact (steps_size hS).2⟩
  rw [hz]
  unfold hldB
  exact decide_eq_true ⟨hS.zok, hS.zrecs⟩
/-- a memory of before the last byte -/
theorem steps_at {m : Mem} {L F : List (List UInt8)} {z : List UInt8} {after : List Rec} (h : Steps m L F z after) (k : Nat) (hk : k < F.length) : ∃ x, (L.map fun b => ((m.1, b) : Mem))[k]? = some (mk m x) ∧ x.length = m.2.length ∧ lookE (mk m x) = 0 ∧ (lookC (mk m x)).recs = (lookC m).recs ∧ (lookC (mk m x)).fin = (lookC m).fin ∧ (lookC (mk m x)).gen = (lookC m).gen := by
  have h1 := h.mid F[k] (List.getElem_mem hk)
  refine ⟨F[k], ?_, h1⟩
  rw [h.split, List.map_append, List.getElem?_append_left (by simpa using hk), List.getElem?_map, List.getElem?_eq_getElem hk]
  rfl
end Go.Proofs.Ytkeghidlolidmaa
