/- Plain laws: what Append and Rewrite leave, whichever way. -/
import Derived.Test.YtpcklbmhblmjpaaJV
set_option maxRecDepth 100000
set_option linter.unusedVariables false
set_option linter.unusedSimpArgs false
namespace Go.Proofs.Ytpcklbmhblmjpaa

/-- all memories but the last one: the records of before, the same area, generation; the last one: those of after -/
structure Steps (m : Mem) (L : List (List UInt8)) (F : List (List UInt8)) (z : List UInt8) (after : List Rec) : Prop where
  split : L = F ++ [z]
  ne : F ≠ []
  len : F.length ≤ 100000
  mid : ∀ x ∈ F, x.length = m.2.length ∧ lookE (mk m x) = 0 ∧ (lookC (mk m x)).recs = (lookC m).recs ∧ (lookC (mk m x)).fin = (lookC m).fin ∧ (lookC (mk m x)).gen = (lookC m).gen
  zlen : z.length = m.2.length
  zok : lookE (mk m z) = 0
  zrecs : (lookC (mk m z)).recs = after
  zfin : (lookC (mk m z)).fin = 5 + room after
  zclean : (lookC (mk m z)).clean = true

theorem rew_steps {m : Mem} (h0 : lookE m = 0) (keep : List Rec) (h : rewE m keep = 0) : room keep + 5 ≤ hf m ∧ (lookC m).gen ≠ 4294967295 ∧ ∃ F z, Steps m (rewL m keep) F z keep ∧ (∀ x ∈ F, areaB (mk m x) (lookC m).area = areaB m (lookC m).area) ∧ areaB (mk m z) (lookC m).area = areaB m (lookC m).area := by
  have hcond : room keep + 5 ≤ hf m ∧ (lookC m).gen ≠ 4294967295 := by
    unfold rewE at h
    rw [if_pos h0] at h
    split at h
    · assumption
    · cases h
  obtain ⟨a, l, e, hJ⟩ := Jr.of h0
  have hl := hJ.look.2
  have hg : genB (areaB m a) ≠ 4294967295 := by have := hcond.2; rw [hl] at this; exact this
  obtain ⟨F, z, h1, h2, h3, h4, h5, h6, h7, h8⟩ := rew_list hJ keep hcond.1 hg
  have hL : rewL m keep = F ++ [z] := by unfold rewL; rw [if_pos h, h1]
  refine ⟨hcond.1, hcond.2, F, z, ⟨hL, h2, h3, fun x hx => ?_, h5, h7.look.1, by rw [h7.look.2], by rw [h7.look.2], by rw [h7.look.2]; exact h8⟩, fun x hx => by rw [hl]; exact (h4 x hx).2.1, by rw [hl]; exact h6⟩
  obtain ⟨k1, k2, k3⟩ := h4 x hx
  exact ⟨k1, k3.look.1, by rw [k3.look.2, hl], by rw [k3.look.2, hl], by rw [k3.look.2, hl, k2]⟩
theorem app_cond {m : Mem} (h0 : lookE m = 0) (d : Rec) (h : appE m d = 0) : d.length ≤ 65535 ∧ (lookC m).fin + 7 + d.length ≤ hf m ∧ ((lookC m).clean = true ∨ ((lookC m).clean = false ∧ rewE m ((lookC m).recs ++ [d]) = 0)) := by
  unfold appE at h
  rw [if_pos h0] at h
  split at h
  · rename_i hc
    refine ⟨hc.1, hc.2, ?_⟩
    split at h
    · rename_i h1; exact .inl h1
    · rename_i h1; exact .inr ⟨by simpa using h1, h⟩
  · cases h
theorem app_steps {m : Mem} (h0 : lookE m = 0) (d : Rec) (h : appE m d = 0) : ∃ F z, Steps m (appL m d) F z ((lookC m).recs ++ [d]) := by
  obtain ⟨hd, hfit, hcl | ⟨hcl, hr⟩⟩ := app_cond h0 d h
  · obtain ⟨a, l, e, hJ⟩ := Jr.of h0
    have hl := hJ.look.2
    have hrc : restB (areaB m a) e = true := by rw [hl] at hcl; exact hcl
    have hfit' : e + 7 + d.length ≤ hf m := by rw [hl] at hfit; exact hfit
    obtain ⟨F, z, h1, h2, h3, h4, h5, h6, h7⟩ := app_list hJ hrc d hd hfit'
    have hL : appL m d = F ++ [z] := by unfold appL; rw [if_pos h, if_pos hcl, h1]
    have he := hJ.facts.2.2.2.2.1
    have hb := hJ.facts.2.2.2.2.2.2
    refine ⟨F, z, ⟨hL, h2, by omega, fun x hx => ?_, h7, h5.look.1, by rw [h5.look.2, hl], by rw [h5.look.2, hl, room_append]; simp [room]; omega, by rw [h5.look.2]; exact h6⟩⟩
    obtain ⟨k1, k2, k3⟩ := h4 x hx
    exact ⟨k3, k1.look.1, by rw [k1.look.2, hl], by rw [k1.look.2, hl], by rw [k1.look.2, hl, k2]⟩
  · obtain ⟨_, _, F, z, hS, _⟩ := rew_steps h0 _ hr
    have hL : appL m d = rewL m ((lookC m).recs ++ [d]) := by
      unfold appL rewL
      rw [if_pos h, if_neg (by rw [hcl]; simp), if_pos hr]
    exact ⟨F, z, by rw [hL]; exact hS⟩
theorem steps_holds {m : Mem} {L F : List (List UInt8)} {z : List UInt8} {after : List Rec} (h : Steps m L F z after) : ∀ x ∈ L.map fun b => (m.1, b), hldB x (lookC m).recs = true ∨ hldB x after = true := by
  intro x hx
  obtain ⟨b, hb, rfl⟩ := List.mem_map.1 hx
  rw [h.split] at hb
  rcases List.mem_append.1 hb with hb | hb
  · left
    have := h.mid b hb
    unfold hldB
    exact decide_eq_true ⟨this.2.1, this.2.2.1⟩
  · right
    obtain rfl : b = z := by simpa using hb
    unfold hldB
    exact decide_eq_true ⟨h.zok, h.zrecs⟩
theorem steps_last {m : Mem} {L F : List (List UInt8)} {z : List UInt8} {after : List Rec} (h : Steps m L F z after) : ∀ k (hk : k < (L.map fun b => ((m.1, b) : Mem)).length), k + 1 = (L.map fun b => ((m.1, b) : Mem)).length → hldB ((L.map fun b => ((m.1, b) : Mem))[k]) after = true := by
  intro k hk he
  have hL := h.split
  subst hL
  simp only [List.length_map, List.length_append, List.length_cons, List.length_nil] at hk he
  have : ((F ++ [z]).map fun b => ((m.1, b) : Mem))[k] = mk m z := by
    simp only [List.getElem_map]
    rw [List.getElem_append_right (by omega)]
    simp [mk]
  rw [this]
  unfold hldB
  exact decide_eq_true ⟨h.zok, h.zrecs⟩
theorem steps_size {m : Mem} {L F : List (List UInt8)} {z : List UInt8} {after : List Rec} (h : Steps m L F z after) : 0 < L.length ∧ L.length ≤ 1000000 := by
  have := h.len; rw [h.split]; simp; omega
theorem recs_small {m : Mem} (h0 : lookE m = 0) : (lookC m).recs.length ≤ 4096 ∧ ∀ d ∈ (lookC m).recs, d.length ≤ 4096 := by
  obtain ⟨a, l, e, hJ⟩ := Jr.of h0
  obtain ⟨f1, f2, f3, f4, f5, f6, f7⟩ := hJ.facts
  rw [hJ.look.2]
  have h8 := room_ge l
  exact ⟨by show l.length ≤ _; omega, fun d hd => by have := h8.2 d hd; omega⟩
theorem keep_small {m : Mem} {keep : List Rec} (h0 : lookE m = 0) (h : room keep + 5 ≤ hf m) : keep.length ≤ 4096 ∧ ∀ d ∈ keep, d.length ≤ 4096 := by
  obtain ⟨a, l, e, hJ⟩ := Jr.of h0
  obtain ⟨f1, f2, f3, f4, f5, f6, f7⟩ := hJ.facts
  have h8 := room_ge keep
  exact ⟨by omega, fun d hd => by have := h8.2 d hd; omega⟩
theorem bad_all {m : Mem} (h0 : lookE m ≠ 0) (d : Rec) (keep : List Rec) : appE m d = lookE m ∧ appL m d = [] ∧ rewE m keep = lookE m ∧ rewL m keep = [] := by
  have h1 : appE m d = lookE m := by unfold appE; rw [if_neg h0]
  have h2 : rewE m keep = lookE m := by unfold rewE; rw [if_neg h0]
  exact ⟨h1, by unfold appL; rw [h1, if_neg h0], h2, by unfold rewL; rw [h2, if_neg h0]⟩
theorem appM_bad {m : Mem} {d : Rec} (h : appE m d ≠ 0) : appM m d = [] := by unfold appM appL; rw [if_neg h]; rfl
theorem rewM_bad {m : Mem} {keep : List Rec} (h : rewE m keep ≠ 0) : rewM m keep = [] := by unfold rewM rewL; rw [if_neg h]; rfl
end Go.Proofs.Ytpcklbmhblmjpaa
