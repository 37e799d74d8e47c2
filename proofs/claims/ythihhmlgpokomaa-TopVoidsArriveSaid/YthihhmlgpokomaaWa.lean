/- Plain: cards, revocations, messages that come in any order. No program. -/
set_option linter.unusedVariables false
set_option linter.unusedSimpArgs false
namespace Go.Proofs.Ythihhmlgpokomaa

structure Vd where
  n : Int
  e : Int
structure Cd where
  n : Int
  k : Int
  f : Int
  l : Int
def vOne (v : Vd) : Prop := 1 ≤ v.n ∧ v.n ≤ 1000000 ∧ 0 ≤ v.e ∧ v.e ≤ 1000000
def cOne (c : Cd) : Prop := 1 ≤ c.n ∧ c.n ≤ 1000000 ∧ 0 ≤ c.k ∧ c.k < 32 ∧ 0 ≤ c.f ∧ c.f ≤ 1000000 ∧ 0 ≤ c.l ∧ c.l ≤ 1000000 ∧ c.f ≤ c.l

/-- a list that is in order -/
structure Ok {α : Type} (key : α → Int) (one : α → Prop) (l : List α) : Prop where
  len : l.length ≤ 64
  each : ∀ i (h : i < l.length), one l[i]
  inc : ∀ i (h : i + 1 < l.length), key l[i] < key l[i + 1]
section
variable {α : Type} {key : α → Int} {one : α → Prop} {l : List α}
theorem Ok.lt (h : Ok key one l) : ∀ (j i : Nat) (hj : j < l.length) (hi : i < j), key l[i] < key l[j]
  | 0, i, hj, hi => by omega
  | j + 1, i, hj, hi => by
    have h1 := h.inc j hj
    by_cases e : i = j
    · subst e; exact h1
    · have h2 := h.lt j i (by omega) (by omega); omega
theorem Ok.le (h : Ok key one l) (j i : Nat) (hj : j < l.length) (hi : i ≤ j) : key l[i] ≤ key l[j] := by
  by_cases e : i = j
  · subst e; omega
  · have := h.lt j i hj (by omega); omega
theorem Ok.take (h : Ok key one l) (k : Nat) : Ok key one (l.take k) := by
  refine ⟨by rw [List.length_take]; have := h.len; omega, fun i hi => ?_, fun i hi => ?_⟩
  · rw [List.length_take] at hi
    rw [List.getElem_take]; exact h.each i (by omega)
  · rw [List.length_take] at hi
    rw [List.getElem_take, List.getElem_take]; exact h.inc i (by omega)
theorem Ok.inj (h : Ok key one l) {i j : Nat} (hi : i < l.length) (hj : j < l.length) (e : key l[i] = key l[j]) : i = j := by
  rcases Nat.lt_trichotomy i j with q | q | q
  · have := h.lt j i hj q; omega
  · exact q
  · have := h.lt i j hi q; omega
end
abbrev VOk (l : List Vd) : Prop := Ok Vd.n vOne l
abbrev COk (l : List Cd) : Prop := Ok Cd.n cOne l

/-! ### what is accepted -/
def rvB (l : List Vd) (n e : Int) : Bool := l.any fun v => decide (v.n = n) && decide (v.e ≤ e)
theorem rvB_iff {l : List Vd} {n e : Int} : rvB l n e = true ↔ ∃ v ∈ l, v.n = n ∧ v.e ≤ e := by
  simp [rvB, List.any_eq_true]
theorem rv_take {l : List Vd} {k : Nat} {n e : Int} (h : rvB (l.take k) n e = true) : rvB l n e = true := by
  rw [rvB_iff] at h ⊢
  obtain ⟨v, hv, h1⟩ := h
  exact ⟨v, List.mem_of_mem_take hv, h1⟩
/-- what the binary search finds decides it -/
theorem rv_at {l : List Vd} (h : VOk l) {n e : Int} {i : Nat} (hi : i < l.length) (hn : l[i].n = n) : rvB l n e = decide (l[i].e ≤ e) := by
  rw [Bool.eq_iff_iff, rvB_iff, decide_eq_true_eq]
  constructor
  · rintro ⟨v, hv, h1, h2⟩
    obtain ⟨j, hj, rfl⟩ := List.getElem_of_mem hv
    obtain rfl := h.inj hi hj (hn.trans h1.symm)
    exact h2
  · intro h1; exact ⟨_, List.getElem_mem hi, hn, h1⟩
theorem rv_none {l : List Vd} {n e : Int} (h : ∀ i (hi : i < l.length), l[i].n ≠ n) : rvB l n e = false := by
  rw [Bool.eq_false_iff]
  intro h1
  rw [rvB_iff] at h1
  obtain ⟨v, hv, h1, _⟩ := h1
  obtain ⟨j, hj, rfl⟩ := List.getElem_of_mem hv
  exact h j hj h1
def inB (c : Cd) (e : Int) : Bool := decide (c.f ≤ e) && decide (e ≤ c.l)
def fdC (l : List Cd) (n : Int) : Option Cd := l.find? fun c => decide (c.n = n)
theorem fdC_at {l : List Cd} (h : COk l) {n : Int} {i : Nat} (hi : i < l.length) (hn : l[i].n = n) : fdC l n = some l[i] := by
  unfold fdC
  rw [List.find?_eq_some_iff_getElem]
  refine ⟨by simpa using hn, i, hi, rfl, fun j hj => ?_⟩
  have := h.lt i j hi hj
  simp; omega
theorem fdC_none {l : List Cd} {n : Int} (h : ∀ i (hi : i < l.length), l[i].n ≠ n) : fdC l n = none := by
  unfold fdC
  rw [List.find?_eq_none]
  intro c hc
  obtain ⟨j, hj, rfl⟩ := List.getElem_of_mem hc
  simpa using h j hj
def accE (l : List Cd) (v : List Vd) (n e : Int) : Int := match fdC l n with
  | none => 4
  | some c => if inB c e = true then (if rvB v n e = true then 12 else 0) else 15
def accK (l : List Cd) (v : List Vd) (n e : Int) : Int := match fdC l n with
  | none => 0
  | some c => if inB c e = true then (if rvB v n e = true then 0 else c.k) else 0
theorem acc_take {l : List Cd} {v : List Vd} {n e : Int} (k : Nat) (h : accE l v n e = 0) : accE l (v.take k) n e = 0 ∧ accK l v n e = accK l (v.take k) n e := by
  unfold accE accK at *
  cases hf : fdC l n with
  | none => rw [hf] at h; simp at h
  | some c =>
    rw [hf] at h
    simp only at h ⊢
    by_cases h1 : inB c e = true
    · rw [if_pos h1] at h ⊢
      by_cases h2 : rvB v n e = true
      · rw [if_pos h2] at h; exact absurd h (by decide)
      · have h3 : ¬ rvB (v.take k) n e = true := fun h3 => h2 (rv_take h3)
        rw [if_neg h3, if_pos h1, if_pos h1, if_neg h2, if_neg h3]
        exact ⟨rfl, rfl⟩
    · rw [if_neg h1] at h; exact absurd h (by decide)
def latB (a b : List Vd) (e : Int) (c : Cd) : Bool := inB c e && (!rvB a c.n e && rvB b c.n e)
def lateL (l : List Cd) (a b : List Vd) (e : Int) : List Int := (l.filter (latB a b e)).map (·.n)
theorem late_same (l : List Cd) (a : List Vd) (e : Int) : lateL l a a e = [] := by
  unfold lateL
  rw [List.map_eq_nil_iff, List.filter_eq_nil_iff]
  intro c _
  unfold latB
  cases rvB a c.n e <;> simp

/-! ### messages: how many were handed over, and which wait -/
abbrev Ib := Nat × List Nat
def Gt (s : Ib) (k : Nat) : Prop := k < s.1 ∨ k ∈ s.2
instance (s : Ib) (k : Nat) : Decidable (Gt s k) := by unfold Gt; infer_instance
def runN : Nat → List Nat → Nat
  | _, [] => 0
  | a, x :: xs => if x = a then runN (a + 1) xs + 1 else 0
def plc (ws : List Nat) (k : Nat) : Nat := (ws.takeWhile fun x => decide (x < k)).length
def insL (ws : List Nat) (k : Nat) : List Nat := ws.take (plc ws k) ++ k :: ws.drop (plc ws k)
def ovT (s : Ib) : Nat := runN (s.1 + 1) s.2
def rcv (s : Ib) (k : Nat) : Ib :=
  if Gt s k then s else if s.1 < k then (s.1, insL s.2 k) else (s.1 + 1 + ovT s, s.2.drop (ovT s))
/-- what is handed over -/
def ovL (s : Ib) (k : Nat) : List Nat := if s.1 < k then [] else s.1 :: s.2.take (ovT s)
def incN (l : List Nat) : Prop := ∀ i (h : i + 1 < l.length), l[i] < l[i + 1]
structure Iv (n : Nat) (s : Ib) : Prop where
  le : s.1 ≤ n
  inc : incN s.2
  lo : ∀ i (h : i < s.2.length), s.1 < s.2[i]
  hi : ∀ i (h : i < s.2.length), s.2[i] < n

theorem incN.lt {l : List Nat} (h : incN l) : ∀ (j i : Nat) (hj : j < l.length) (hi : i < j), l[i] < l[j]
  | 0, i, hj, hi => by omega
  | j + 1, i, hj, hi => by
    have h1 := h j hj
    by_cases e : i = j
    · subst e; exact h1
    · have h2 := h.lt j i (by omega) (by omega); omega
theorem incN.far {l : List Nat} (h : incN l) {a : Nat} (ha : ∀ i (h : i < l.length), a < l[i]) : ∀ i (hi : i < l.length), a + 1 + i ≤ l[i]
  | 0, hi => by have := ha 0 hi; omega
  | i + 1, hi => by have h1 := h i hi; have h2 := h.far ha i (by omega); omega
theorem Iv.len {n : Nat} {s : Ib} (h : Iv n s) : s.1 + s.2.length ≤ n := by
  by_cases e : s.2.length = 0
  · have := h.le; omega
  · have h1 := h.inc.far h.lo (s.2.length - 1) (by omega)
    have h2 := h.hi (s.2.length - 1) (by omega)
    omega

theorem runN_spec : ∀ (l : List Nat) (a : Nat), runN a l ≤ l.length ∧ (∀ i (h : i < l.length), i < runN a l → l[i] = a + i) ∧ (∀ (h : runN a l < l.length), l[runN a l] ≠ a + runN a l)
  | [], a => ⟨Nat.le_refl _, fun i h => absurd h (by simp), fun h => absurd h (by simp [runN])⟩
  | x :: l, a => by
    by_cases e : x = a
    · obtain ⟨h1, h2, h3⟩ := runN_spec l (a + 1)
      have er : runN a (x :: l) = runN (a + 1) l + 1 := by rw [runN, if_pos e]
      rw [er]
      refine ⟨by simpa using h1, fun i hi hr => ?_, fun h => ?_⟩
      · cases i with
        | zero => simpa using e
        | succ i => have := h2 i (by simpa using hi) (by omega); simp only [List.getElem_cons_succ]; omega
      · have := h3 (by simpa using h); simp only [List.getElem_cons_succ]; omega
    · have er : runN a (x :: l) = 0 := by rw [runN, if_neg e]
      rw [er]
      exact ⟨Nat.zero_le _, fun i hi hr => by omega, fun h => by simpa using e⟩
theorem ov_spec (s : Ib) : ovT s ≤ s.2.length ∧ (∀ i (h : i < s.2.length), i < ovT s → s.2[i] = s.1 + 1 + i) ∧ (∀ (h : ovT s < s.2.length), s.2[ovT s] ≠ s.1 + 1 + ovT s) := runN_spec s.2 (s.1 + 1)
theorem ovL_get {s : Ib} {k : Nat} (hk : ¬ s.1 < k) : (ovL s k).length = ovT s + 1 ∧ ∀ i (h : i < (ovL s k).length), (ovL s k)[i] = s.1 + i := by
  obtain ⟨h1, h2, _⟩ := ov_spec s
  have e : ovL s k = s.1 :: s.2.take (ovT s) := by unfold ovL; rw [if_neg hk]
  have el : (ovL s k).length = ovT s + 1 := by rw [e]; simp; omega
  refine ⟨el, fun i hi => ?_⟩
  rw [el] at hi
  simp only [e]
  cases i with
  | zero => rfl
  | succ i =>
    simp only [List.getElem_cons_succ, List.getElem_take]
    rw [h2 i (by omega) (by omega)]; omega

theorem plc_spec (k : Nat) : ∀ (ws : List Nat), incN ws → plc ws k ≤ ws.length ∧ (∀ i (h : i < ws.length), i < plc ws k → ws[i] < k) ∧ (∀ i (h : i < ws.length), plc ws k ≤ i → k ≤ ws[i])
  | [], _ => ⟨Nat.le_refl _, fun i h => absurd h (by simp), fun i h => absurd h (by simp)⟩
  | x :: ws, hw => by
    have hw2 : incN ws := fun i hi => by have := hw (i + 1) (by simpa using hi); simpa using this
    obtain ⟨h1, h2, h3⟩ := plc_spec k ws hw2
    by_cases e : x < k
    · have ep : plc (x :: ws) k = plc ws k + 1 := by simp [plc, List.takeWhile_cons, e]
      rw [ep]
      refine ⟨by simpa using h1, fun i hi hp => ?_, fun i hi hp => ?_⟩
      · cases i with
        | zero => simpa using e
        | succ i => simpa using h2 i (by simpa using hi) (by omega)
      · cases i with
        | zero => omega
        | succ i => simpa using h3 i (by simpa using hi) (by omega)
    · have ep : plc (x :: ws) k = 0 := by simp [plc, List.takeWhile_cons, e]
      rw [ep]
      refine ⟨Nat.zero_le _, fun i hi hp => by omega, fun i hi _ => ?_⟩
      cases i with
      | zero => simpa using Nat.le_of_not_lt e
      | succ i =>
        have := hw.lt (i + 1) 0 hi (by omega)
        simp only [List.getElem_cons_zero] at this
        omega
theorem plc_of {ws : List Nat} {k p : Nat} (hw : incN ws) (hp : p ≤ ws.length) (h1 : ∀ i (h : i < ws.length), i < p → ws[i] < k) (h2 : ∀ i (h : i < ws.length), p ≤ i → k ≤ ws[i]) : plc ws k = p := by
  obtain ⟨q1, q2, q3⟩ := plc_spec k ws hw
  rcases Nat.lt_trichotomy (plc ws k) p with h | h | h
  · have a := h1 (plc ws k) (by omega) h
    have b := q3 (plc ws k) (by omega) (Nat.le_refl _)
    omega
  · exact h
  · have a := q2 p (by omega) h
    have b := h2 p (by omega) (Nat.le_refl _)
    omega
theorem plc_mem {ws : List Nat} {k : Nat} (hw : incN ws) : k ∈ ws ↔ ∃ h : plc ws k < ws.length, ws[plc ws k] = k := by
  obtain ⟨q1, q2, q3⟩ := plc_spec k ws hw
  constructor
  · intro hm
    obtain ⟨i, hi, rfl⟩ := List.getElem_of_mem hm
    have h1 : plc ws ws[i] ≤ i := Nat.le_of_not_lt fun h => by have := q2 i hi h; omega
    have h2 : ¬ plc ws ws[i] < i := fun h => by
      have a := q3 (plc ws ws[i]) (by omega) (Nat.le_refl _)
      have b := hw.lt i (plc ws ws[i]) hi h
      omega
    have e : plc ws ws[i] = i := by omega
    exact ⟨by omega, by simp only [e]⟩
  · rintro ⟨h, e⟩; rw [← e]; exact List.getElem_mem h

theorem insL_get {ws : List Nat} {k : Nat} (hp : plc ws k ≤ ws.length) : (insL ws k).length = ws.length + 1 ∧
    (∀ i (h : i < (insL ws k).length), (insL ws k)[i] = if h1 : i < plc ws k then ws[i]'(by omega) else if h2 : i = plc ws k then k else (ws[i - 1]?).getD 0) := by
  have el : (insL ws k).length = ws.length + 1 := by simp [insL]; omega
  refine ⟨el, fun i hi => ?_⟩
  rw [el] at hi
  simp only [insL]
  by_cases h1 : i < plc ws k
  · rw [dif_pos h1, List.getElem_append_left (by simp; omega), List.getElem_take]
  · rw [dif_neg h1, List.getElem_append_right (by simp; omega)]
    have ek : (ws.take (plc ws k)).length = plc ws k := by simp; omega
    by_cases h2 : i = plc ws k
    · rw [dif_pos h2]
      simp only [ek, h2, Nat.sub_self, List.getElem_cons_zero]
    · rw [dif_neg h2]
      obtain ⟨j, rfl⟩ : ∃ j, i = plc ws k + (j + 1) := ⟨i - plc ws k - 1, by omega⟩
      have e3 : plc ws k + (j + 1) - (ws.take (plc ws k)).length = j + 1 := by rw [ek]; omega
      simp only [e3, List.getElem_cons_succ, List.getElem_drop]
      rw [show plc ws k + (j + 1) - 1 = plc ws k + j by omega, List.getElem?_eq_getElem (by omega)]
      rfl
theorem insL_mem {ws : List Nat} {k x : Nat} : x ∈ insL ws k ↔ x = k ∨ x ∈ ws := by
  unfold insL
  rw [List.mem_append, List.mem_cons]
  constructor
  · rintro (h | h | h)
    · exact .inr (List.mem_of_mem_take h)
    · exact .inl h
    · exact .inr (List.mem_of_mem_drop h)
  · rintro (h | h)
    · exact .inr (.inl h)
    · rw [← List.take_append_drop (plc ws k) ws, List.mem_append] at h
      rcases h with h | h
      · exact .inl h
      · exact .inr (.inr h)
theorem insL_inc {ws : List Nat} {k : Nat} (hw : incN ws) (hn : k ∉ ws) : incN (insL ws k) := by
  obtain ⟨q1, q2, q3⟩ := plc_spec k ws hw
  obtain ⟨el, hg⟩ := insL_get (k := k) q1
  intro i hi
  rw [hg i (by omega), hg (i + 1) hi]
  rw [el] at hi
  by_cases h1 : i + 1 < plc ws k
  · rw [dif_pos (by omega), dif_pos h1]; exact hw i (by omega)
  · rw [dif_neg h1]
    by_cases h2 : i + 1 = plc ws k
    · rw [dif_pos (by omega), dif_pos h2]; exact q2 i (by omega) (by omega)
    · rw [dif_neg h2, dif_neg (by omega)]
      by_cases h3 : i = plc ws k
      · rw [dif_pos h3]
        rw [show i + 1 - 1 = i by omega, List.getElem?_eq_getElem (by omega)]
        have := q3 i (by omega) (by omega)
        have hne : ws[i] ≠ k := fun e => hn (e ▸ List.getElem_mem _)
        simp only [Option.getD_some]
        omega
      · rw [dif_neg h3]
        obtain ⟨j, rfl⟩ : ∃ j, i = j + 1 := ⟨i - 1, by omega⟩
        rw [show j + 1 - 1 = j by omega, show j + 1 + 1 - 1 = j + 1 by omega, List.getElem?_eq_getElem (by omega), List.getElem?_eq_getElem (by omega)]
        exact hw j (by omega)

theorem Iv.zero (n : Nat) : Iv n (0, []) := ⟨Nat.zero_le _, fun i h => absurd h (by simp), fun i h => absurd h (by simp), fun i h => absurd h (by simp)⟩
theorem Iv.rcv {n : Nat} {s : Ib} (h : Iv n s) {k : Nat} (hk : k < n) : Iv n (rcv s k) := by
  unfold Go.Proofs.Ythihhmlgpokomaa.rcv
  by_cases hg : Gt s k
  · rw [if_pos hg]; exact h
  · rw [if_neg hg]
    have hn : k ∉ s.2 := fun e => hg (.inr e)
    by_cases h1 : s.1 < k
    · rw [if_pos h1]
      refine ⟨h.le, insL_inc h.inc hn, fun i hi => ?_, fun i hi => ?_⟩
      · have hm := List.getElem_mem hi
        rw [insL_mem] at hm
        rcases hm with e | e
        · show s.1 < _; rw [e]; exact h1
        · obtain ⟨j, hj, e⟩ := List.getElem_of_mem e
          show s.1 < _; rw [← e]; exact h.lo j hj
      · have hm := List.getElem_mem hi
        rw [insL_mem] at hm
        rcases hm with e | e
        · rw [e]; exact hk
        · obtain ⟨j, hj, e⟩ := List.getElem_of_mem e
          rw [← e]; exact h.hi j hj
    · rw [if_neg h1]
      have hk1 : k = s.1 := by have : ¬ k < s.1 := fun e => hg (.inl e); omega
      obtain ⟨t1, t2, t3⟩ := ov_spec s
      have hfar := h.inc.far h.lo
      refine ⟨?_, fun i hi => ?_, fun i hi => ?_, fun i hi => ?_⟩
      · show s.1 + 1 + ovT s ≤ n
        by_cases e : ovT s = 0
        · omega
        · have a := h.hi (ovT s - 1) (by omega)
          have b := t2 (ovT s - 1) (by omega) (by omega)
          omega
      · show (s.2.drop (ovT s))[i] < (s.2.drop (ovT s))[i + 1]
        rw [List.getElem_drop, List.getElem_drop]
        have hi' : i + 1 < (s.2.drop (ovT s)).length := hi
        rw [List.length_drop] at hi'
        exact h.inc (ovT s + i) (by omega)
      · show s.1 + 1 + ovT s < (s.2.drop (ovT s))[i]
        rw [List.getElem_drop]
        have hi' : i < (s.2.drop (ovT s)).length := hi
        rw [List.length_drop] at hi'
        have a := hfar (ovT s) (by omega)
        have b := t3 (by omega)
        by_cases e : i = 0
        · subst e; simp only [Nat.add_zero]; omega
        · have := h.inc.lt (ovT s + i) (ovT s) (by omega) (by omega); omega
      · show (s.2.drop (ovT s))[i] < n
        rw [List.getElem_drop]
        have hi' : i < (s.2.drop (ovT s)).length := hi
        rw [List.length_drop] at hi'
        exact h.hi _ (by omega)
theorem rcv_got (s : Ib) (k : Nat) : Gt (rcv s k) k := by
  unfold rcv
  by_cases hg : Gt s k
  · rw [if_pos hg]; exact hg
  · rw [if_neg hg]
    by_cases h1 : s.1 < k
    · rw [if_pos h1]; exact .inr (insL_mem.2 (.inl rfl))
    · rw [if_neg h1]
      have hk1 : k = s.1 := by have : ¬ k < s.1 := fun e => hg (.inl e); omega
      left; show k < s.1 + 1 + ovT s; omega
theorem rcv_keep {s : Ib} {j : Nat} (k : Nat) (h : Gt s j) : Gt (rcv s k) j := by
  unfold rcv
  by_cases hg : Gt s k
  · rw [if_pos hg]; exact h
  · rw [if_neg hg]
    by_cases h1 : s.1 < k
    · rw [if_pos h1]
      rcases h with h | h
      · exact .inl h
      · exact .inr (insL_mem.2 (.inr h))
    · rw [if_neg h1]
      rcases h with h | h
      · left; show j < s.1 + 1 + ovT s; omega
      · rw [← List.take_append_drop (ovT s) s.2, List.mem_append] at h
        rcases h with h | h
        · obtain ⟨i, hi, e⟩ := List.getElem_of_mem h
          rw [List.length_take] at hi
          rw [List.getElem_take, (ov_spec s).2.1 i (by omega) (by omega)] at e
          left; show j < s.1 + 1 + ovT s; omega
        · exact .inr h
def arrS (ks : List Nat) : Ib := ks.foldl rcv (0, [])
theorem arr_snoc (ks : List Nat) (k : Nat) : arrS (ks ++ [k]) = rcv (arrS ks) k := by simp [arrS, List.foldl_append]
theorem arr_snoc' {l : List Nat} {i : Nat} (hi : i < l.length) : arrS (l.take (i + 1)) = rcv (arrS (l.take i)) l[i] := by
  rw [List.take_succ_eq_append_getElem hi, arr_snoc]
theorem arr_iv {n : Nat} (l : List Nat) (h : ∀ i (hi : i < l.length), l[i] < n) : ∀ i, i ≤ l.length → Iv n (arrS (l.take i))
  | 0, _ => by simpa [arrS] using Iv.zero n
  | i + 1, hi => by rw [arr_snoc' (by omega)]; exact (arr_iv l h i (by omega)).rcv (h i (by omega))
theorem arr_got (l : List Nat) : ∀ i, i ≤ l.length → ∀ j (hj : j < i) (hl : j < l.length), Gt (arrS (l.take i)) l[j]
  | 0, _, j, hj, _ => by omega
  | i + 1, hi, j, hj, hl => by
    rw [arr_snoc' (by omega)]
    by_cases e : j = i
    · subst e; exact rcv_got _ _
    · exact rcv_keep _ (arr_got l i (by omega) j (by omega) hl)
theorem arr_all {n : Nat} (l : List Nat) (h : ∀ i (hi : i < l.length), l[i] < n) (hall : ∀ k, k < n → k ∈ l) : (arrS l).1 = n := by
  have h1 := arr_iv l h l.length (Nat.le_refl _)
  have h2 := arr_got l l.length (Nat.le_refl _)
  rw [List.take_of_length_le (Nat.le_refl _)] at h1 h2
  have h3 := h1.le
  by_cases e : (arrS l).1 = n
  · exact e
  · obtain ⟨j, hj, e2⟩ := List.getElem_of_mem (hall (arrS l).1 (by omega))
    have h4 := h2 j hj hj
    rw [e2] at h4
    rcases h4 with h4 | h4
    · omega
    · obtain ⟨i, hi, e3⟩ := List.getElem_of_mem h4
      have := h1.lo i hi; omega

/-- a set of numbers below n that has n of them has all -/
theorem nodup_len : ∀ (l m : List Nat), l.Nodup → (∀ x ∈ l, x ∈ m) → l.length ≤ m.length
  | [], m, _, _ => Nat.zero_le _
  | x :: l, m, hn, hs => by
    rw [List.nodup_cons] at hn
    have hx := hs x List.mem_cons_self
    have h1 := nodup_len l (m.erase x) hn.2 fun y hy => by
      have hne : y ≠ x := fun e => hn.1 (e ▸ hy)
      exact (List.mem_erase_of_ne hne).2 (hs y (List.mem_cons_of_mem _ hy))
    rw [List.length_erase_of_mem hx] at h1
    have := List.length_pos_of_mem hx
    simp only [List.length_cons]
    omega
theorem nodup_all {l : List Nat} {n : Nat} (hn : l.Nodup) (hb : ∀ x ∈ l, x < n) (hl : n ≤ l.length) (k : Nat) (hk : k < n) : k ∈ l := by
  by_cases h : k ∈ l
  · exact h
  · exfalso
    have h1 := nodup_len l ((List.range n).erase k) hn fun x hx => by
      have hne : x ≠ k := fun e => h (e ▸ hx)
      exact (List.mem_erase_of_ne hne).2 (List.mem_range.2 (hb x hx))
    rw [List.length_erase_of_mem (List.mem_range.2 hk), List.length_range] at h1
    omega
end Go.Proofs.Ythihhmlgpokomaa
