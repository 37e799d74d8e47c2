/- Lists of pairs with the least contradiction, as plain data: what a search entry by entry finds, and when there is only one best list. No program. -/
import GoSem.Claim
set_option linter.unusedVariables false
set_option linter.unusedSimpArgs false
namespace Go.Proofs.YthmipmdpdfdlaaaDoor

abbrev Prs := List (Nat × Nat)
/-- the exits that are used, with one more -/
def usd (U : Nat → Bool) (j : Nat) : Nat → Bool := fun i => U i || i == j
/-- how many of the first exits are free -/
def fre (U : Nat → Bool) : Nat → Nat
  | 0 => 0
  | X + 1 => fre U X + if U X then 0 else 1
theorem fre_far {U : Nat → Bool} {j : Nat} : ∀ {X : Nat}, X ≤ j → fre (usd U j) X = fre U X
  | 0, _ => rfl
  | X + 1, h => by
    rw [fre, fre, fre_far (by omega)]
    have : usd U j X = U X := by simp [usd]; omega
    rw [this]
theorem fre_usd {U : Nat → Bool} {j : Nat} (hj : U j = false) : ∀ {X : Nat}, j < X → fre (usd U j) X + 1 = fre U X
  | 0, h => absurd h (Nat.not_lt_zero _)
  | X + 1, h => by
    by_cases hX : j = X
    · subst hX
      rw [fre, fre, fre_far (Nat.le_refl _), hj]
      have : usd U j j = true := by simp [usd]
      rw [this]
      simp
    · have ih := fre_usd hj (X := X) (by omega)
      rw [fre, fre]
      have : usd U j X = U X := by simp [usd]; omega
      rw [this]
      omega
theorem fre_le (U : Nat → Bool) : ∀ X, fre U X ≤ X
  | 0 => Nat.le_refl _
  | X + 1 => by have := fre_le U X; rw [fre]; split <;> omega
theorem fre_none : ∀ X, fre (fun _ => false) X = X
  | 0 => rfl
  | X + 1 => by rw [fre, fre_none X]; rfl

section
variable (E X : Nat) (ok : Nat → Nat → Bool) (d : Nat → Nat → Int)

/-- pairs that the entries from k on may have when some exits are used -/
def Ft : Nat → (Nat → Bool) → Prs → Prop
  | _, _, [] => True
  | k, U, p :: r => k ≤ p.1 ∧ p.1 < E ∧ p.2 < X ∧ U p.2 = false ∧ ok p.1 p.2 = true ∧ Ft (p.1 + 1) (usd U p.2) r
/-- the sum of the distances -/
def sm : Prs → Int
  | [] => 0
  | p :: r => d p.1 p.2 + sm r
/-- their contradiction -/
def cst (k : Nat) (U : Nat → Bool) (l : Prs) : Int := sm d l + 5 * ((E : Int) - k - l.length) + 5 * ((fre U X : Int) - l.length)
def Bst (k : Nat) (U : Nat → Bool) (l : Prs) (n : Int) : Prop :=
  Ft E X ok k U l ∧ n = cst E X d k U l ∧ ∀ m, Ft E X ok k U m → n ≤ cst E X d k U m
/-- the best of those that give entry k none of the exits from J on -/
def Bso (k J : Nat) (U : Nat → Bool) (l : Prs) (n : Int) : Prop :=
  Ft E X ok k U l ∧ n = cst E X d k U l ∧ ∀ m, Ft E X ok k U m → (∀ j r, m = (k, j) :: r → j < J) → n ≤ cst E X d k U m

variable {E X ok d}
theorem ft_mono : ∀ {l : Prs} {k k' : Nat} {U : Nat → Bool}, k ≤ k' → Ft E X ok k' U l → Ft E X ok k U l
  | [], _, _, _, _, _ => trivial
  | p :: r, k, k', U, hk, h => ⟨Nat.le_trans hk h.1, h.2⟩
theorem ft_end {l : Prs} {U : Nat → Bool} (h : Ft E X ok E U l) : l = [] := by
  cases l with
  | nil => rfl
  | cons p r => have := h.1; have := h.2.1; omega
theorem ft_len : ∀ {l : Prs} {k : Nat} {U : Nat → Bool}, k ≤ E → Ft E X ok k U l → k + l.length ≤ E
  | [], _, _, h, _ => by simpa using h
  | p :: r, k, U, hk, h => by
    have := ft_len (l := r) (k := p.1 + 1) (by have := h.2.1; omega) h.2.2.2.2.2
    have := h.1
    simp; omega
theorem bst_end (U : Nat → Bool) : Bst E X ok d E U [] (5 * (fre U X : Int)) :=
  ⟨trivial, by simp [cst, sm], fun m h => by rw [ft_end h]; simp [cst, sm]⟩
theorem cst_next {k : Nat} {U : Nat → Bool} (l : Prs) : cst E X d k U l = cst E X d (k + 1) U l + 5 := by
  unfold cst; push_cast; omega
theorem cst_cons {k j : Nat} {U : Nat → Bool} {r : Prs} (hj : U j = false) (hX : j < X) : cst E X d k U ((k, j) :: r) = d k j + cst E X d (k + 1) (usd U j) r := by
  have := fre_usd hj hX
  simp only [cst, sm, List.length_cons]
  push_cast
  omega
/-- the search leaves the entry alone at first -/
theorem bso_start {k : Nat} {U : Nat → Bool} {l : Prs} {n : Int} (h : Bst E X ok d (k + 1) U l n) : Bso E X ok d k 0 U l (n + 5) := by
  obtain ⟨h1, h2, h3⟩ := h
  refine ⟨ft_mono (by omega) h1, by rw [cst_next, h2], fun m hm hj => ?_⟩
  rw [cst_next]
  have := h3 m (by
    cases m with
    | nil => trivial
    | cons p r =>
      refine ⟨?_, hm.2⟩
      have := hm.1
      rcases Nat.lt_or_ge k p.1 with h | h
      · exact h
      · have e : p.1 = k := by omega
        have := hj p.2 r (by rw [← e])
        omega)
  omega
/-- an exit that does not fit -/
theorem bso_skip {k J : Nat} {U : Nat → Bool} {l : Prs} {n : Int} (h : Bso E X ok d k J U l n) (hn : U J = true ∨ ok k J = false) : Bso E X ok d k (J + 1) U l n := by
  obtain ⟨h1, h2, h3⟩ := h
  refine ⟨h1, h2, fun m hm hj => h3 m hm fun j r e => ?_⟩
  have := hj j r e
  subst e
  obtain ⟨_, _, _, g1, g2, _⟩ := hm
  rcases Nat.lt_or_ge j J with h | h
  · exact h
  · have e : j = J := by omega
    subst e
    simp only at g1 g2
    rcases hn with h | h
    · rw [h] at g1; cases g1
    · rw [h] at g2; cases g2
/-- an exit that fits, and what is best behind it -/
theorem bso_try {k J : Nat} {U : Nat → Bool} {l r : Prs} {n m : Int} (h : Bso E X ok d k J U l n) (hk : k < E) (hJ : J < X) (hu : U J = false) (ho : ok k J = true) (hr : Bst E X ok d (k + 1) (usd U J) r m) :
    (n ≤ m + d k J → Bso E X ok d k (J + 1) U l n) ∧ (m + d k J ≤ n → Bso E X ok d k (J + 1) U ((k, J) :: r) (m + d k J)) := by
  obtain ⟨h1, h2, h3⟩ := h
  obtain ⟨g1, g2, g3⟩ := hr
  have key : ∀ q, Ft E X ok k U q → (∀ j r, q = (k, j) :: r → j < J + 1) → min n (m + d k J) ≤ cst E X d k U q := by
    intro q hq hj
    by_cases hc : ∃ r', q = (k, J) :: r'
    · obtain ⟨r', rfl⟩ := hc
      rw [cst_cons hu hJ]
      have := g3 r' hq.2.2.2.2.2
      omega
    · have := h3 q hq fun j r' e => by
        have := hj j r' e
        rcases Nat.lt_or_ge j J with h | h
        · exact h
        · exact absurd ⟨r', by rw [e, show j = J by omega]⟩ hc
      omega
  refine ⟨fun hle => ⟨h1, h2, fun q hq hj => ?_⟩, fun hle => ⟨⟨Nat.le_refl _, hk, hJ, hu, ho, g1⟩, ?_, fun q hq hj => ?_⟩⟩
  · have := key q hq hj; omega
  · rw [cst_cons hu hJ, g2]; omega
  · have := key q hq hj; omega
theorem bso_end {k : Nat} {U : Nat → Bool} {l : Prs} {n : Int} (h : Bso E X ok d k X U l n) : Bst E X ok d k U l n := by
  obtain ⟨h1, h2, h3⟩ := h
  refine ⟨h1, h2, fun m hm => h3 m hm fun j r e => ?_⟩
  subst e
  exact hm.2.2.1

/-! ### when there is only one best list -/
/-- what each entry ought to have -/
def tg (t : Nat → Option Nat) : Nat → Nat → Prs
  | 0, _ => []
  | n + 1, k => match t k with | some j => (k, j) :: tg t n (k + 1) | none => tg t n (k + 1)
/-- the sum of what pairs gain -/
def wt (d : Nat → Nat → Int) : Prs → Int
  | [] => 0
  | p :: r => (d p.1 p.2 - 10) + wt d r
theorem wt_eq : ∀ l : Prs, wt d l = sm d l - 10 * (l.length : Int)
  | [] => rfl
  | p :: r => by rw [wt, sm, wt_eq r]; simp; omega
/-- t is better for each entry than whatever else it may have -/
def Dom (E X : Nat) (ok : Nat → Nat → Bool) (d : Nat → Nat → Int) (t : Nat → Option Nat) : Prop :=
  ∀ i, i < E → match t i with
    | some j => j < X ∧ ok i j = true ∧ d i j < 10 ∧ ∀ j', j' < X → j' ≠ j → ok i j' = true → d i j < d i j'
    | none => ∀ j', j' < X → ok i j' = true → 10 < d i j'
theorem wt_dom {t : Nat → Option Nat} (H : Dom E X ok d t) : ∀ (n k : Nat) (U : Nat → Bool) (l : Prs), k + n = E → Ft E X ok k U l → wt d (tg t n k) ≤ wt d l ∧ (wt d l ≤ wt d (tg t n k) → l = tg t n k)
  | 0, k, U, l, hk, h => by
    have : k = E := by omega
    subst this
    rw [ft_end h]; exact ⟨Int.le_refl _, fun _ => rfl⟩
  | n + 1, k, U, l, hk, h => by
    have hd := H k (by omega)
    by_cases hc : ∃ j r, l = (k, j) :: r
    · obtain ⟨j, r, rfl⟩ := hc
      obtain ⟨_, _, h3, _, h5, h6⟩ := h
      simp only at h3 h5 h6
      obtain ⟨i1, i2⟩ := wt_dom H n (k + 1) _ r (by omega) h6
      cases ht : t k with
      | none =>
        rw [ht] at hd
        have := hd j h3 h5
        rw [tg, ht, wt]
        simp only
        exact ⟨by omega, fun hle => by omega⟩
      | some j0 =>
        rw [ht] at hd
        obtain ⟨_, _, _, d4⟩ := hd
        rw [tg, ht]
        simp only [wt]
        by_cases hj : j = j0
        · subst hj
          exact ⟨by omega, fun hle => by rw [i2 (by omega)]⟩
        · have := d4 j h3 hj h5
          exact ⟨by omega, fun hle => by omega⟩
    · have h' : Ft E X ok (k + 1) U l := by
        cases l with
        | nil => trivial
        | cons p r =>
          refine ⟨?_, h.2⟩
          have := h.1
          rcases Nat.lt_or_ge k p.1 with h9 | h9
          · exact h9
          · exact absurd ⟨p.2, r, by rw [← show p.1 = k by omega]⟩ hc
      obtain ⟨i1, i2⟩ := wt_dom H n (k + 1) _ l (by omega) h'
      cases ht : t k with
      | none =>
        rw [tg, ht]
        exact ⟨i1, i2⟩
      | some j0 =>
        rw [ht] at hd
        rw [tg, ht]
        simp only [wt]
        have := hd.2.2.1
        exact ⟨by omega, fun hle => by omega⟩
theorem tg_fit {t : Nat → Option Nat} (H : Dom E X ok d t) (hi : ∀ i i' j, i < E → i' < E → t i = some j → t i' = some j → i = i') : ∀ (n k : Nat) (U : Nat → Bool), k + n = E → (∀ i j, k ≤ i → i < E → t i = some j → U j = false) → Ft E X ok k U (tg t n k)
  | 0, _, _, _, _ => trivial
  | n + 1, k, U, hk, hU => by
    have hd := H k (by omega)
    rw [tg]
    cases ht : t k with
    | none => exact ft_mono (Nat.le_succ _) (tg_fit H hi n (k + 1) U (by omega) fun i j h1 h2 h3 => hU i j (by omega) h2 h3)
    | some j0 =>
      rw [ht] at hd
      refine ⟨Nat.le_refl _, by omega, hd.1, hU k j0 (Nat.le_refl _) (by omega) ht, hd.2.1, tg_fit H hi n (k + 1) _ (by omega) fun i j h1 h2 h3 => ?_⟩
      have h4 := hU i j (by omega) h2 h3
      have h5 : j ≠ j0 := fun e => by
        subst e
        have := hi i k j h2 (by omega) h3 ht
        omega
      simp [usd, h4, h5]
theorem cst_wt (l : Prs) : cst E X d 0 (fun _ => false) l = wt d l + 5 * (E : Int) + 5 * (X : Int) := by
  rw [wt_eq, cst, fre_none]; push_cast; omega
/-- THE BEST LIST IS WHAT t SAYS -/
theorem bst_dom {t : Nat → Option Nat} (H : Dom E X ok d t) (hi : ∀ i i' j, i < E → i' < E → t i = some j → t i' = some j → i = i') {l : Prs} {n : Int} (h : Bst E X ok d 0 (fun _ => false) l n) :
    l = tg t E 0 ∧ n = wt d (tg t E 0) + 5 * (E : Int) + 5 * (X : Int) := by
  obtain ⟨h1, h2, h3⟩ := h
  have hf := tg_fit H hi E 0 (fun _ => false) (by omega) fun _ _ _ _ _ => rfl
  have h4 := h3 _ hf
  rw [h2, cst_wt, cst_wt] at h4
  obtain ⟨_, g2⟩ := wt_dom H E 0 _ l (by omega) h1
  have e := g2 (by omega)
  exact ⟨e, by rw [h2, cst_wt, e]⟩

/-! ### one plate: visits one after the other -/
def dg : Nat → Nat → Prs
  | 0, _ => []
  | n + 1, k => (k, k) :: dg n (k + 1)
theorem dg_length : ∀ n k, (dg n k).length = n
  | 0, _ => rfl
  | n + 1, k => by rw [dg, List.length_cons, dg_length n]
theorem dg_fit (ho : ∀ i, i < E → ok i i = true) (hX : E ≤ X) : ∀ (n k : Nat) (U : Nat → Bool), k + n = E → (∀ i, k ≤ i → U i = false) → Ft E X ok k U (dg n k)
  | 0, _, _, _, _ => trivial
  | n + 1, k, U, hk, hU => by
    refine ⟨Nat.le_refl _, by simp only; omega, by simp only; omega, hU k (Nat.le_refl _), ho k (by omega), dg_fit ho hX n (k + 1) _ (by omega) fun i hi => ?_⟩
    have := hU i (by omega)
    simp [usd, this]; omega
theorem dg_sm (hd : ∀ i, i < E → d i i = 0) : ∀ n k, k + n = E → sm d (dg n k) = 0
  | 0, _, _ => rfl
  | n + 1, k, hk => by rw [dg, sm, dg_sm hd n (k + 1) (by omega)]; simp only; rw [hd k (by omega)]; rfl
theorem dg_only (hl : ∀ i j, ok i j = true → i ≤ j) : ∀ (n k : Nat) (U : Nat → Bool) (l : Prs), k + n = E → Ft E E ok k U l → l.length = n → l = dg n k ∧ ∀ i, k ≤ i → i < E → U i = false
  | 0, k, U, l, hk, h, hn => ⟨List.eq_nil_of_length_eq_zero hn, fun i h1 h2 => by omega⟩
  | n + 1, k, U, l, hk, h, hn => by
    cases l with
    | nil => simp at hn
    | cons p r =>
      obtain ⟨i, j⟩ := p
      obtain ⟨h1, h2, h3, h4, h5, h6⟩ := h
      simp only at h1 h2 h3 h4 h5 h6
      have hlen : r.length = n := by simpa using hn
      have := ft_len (by omega) h6
      have hik : i = k := by omega
      subst hik
      obtain ⟨g1, g2⟩ := dg_only hl n (i + 1) _ r (by omega) h6 hlen
      have hij := hl i j h5
      have hj : j = i := by
        rcases Nat.lt_or_ge i j with h | h
        · have := g2 j (by omega) h3
          simp [usd] at this
        · omega
      subst hj
      refine ⟨by rw [g1]; rfl, fun q hq1 hq2 => ?_⟩
      rcases Nat.lt_or_ge j q with h | h
      · have := g2 q (by omega) hq2
        simp [usd] at this
        exact this.1
      · have : q = j := by omega
        subst this; exact h4
/-- THE BEST LIST OF VISITS -/
theorem bst_visits (hl : ∀ i j, ok i j = true → i ≤ j) (ho : ∀ i, i < E → ok i i = true) (hd : ∀ i j, i < E → j < E → d i j = 0) {l : Prs} {n : Int} (h : Bst E E ok d 0 (fun _ => false) l n) : l = dg E 0 ∧ n = 0 := by
  obtain ⟨h1, h2, h3⟩ := h
  have hf := dg_fit ho (Nat.le_refl _) E 0 (fun _ => false) (by omega) fun _ _ => rfl
  have h4 := h3 _ hf
  have e0 : cst E E d 0 (fun _ => false) (dg E 0) = 0 := by
    rw [cst, dg_sm (fun i hi => hd i i hi hi) E 0 (by omega), dg_length, fre_none]; omega
  have hs : ∀ (m : Prs) (k : Nat) (U : Nat → Bool), Ft E E ok k U m → sm d m = 0 := by
    intro m
    induction m with
    | nil => intros; rfl
    | cons p r ih =>
      intro k U hm
      rw [sm, ih _ _ hm.2.2.2.2.2, hd _ _ hm.2.1 hm.2.2.1]; rfl
  have h5 := ft_len (Nat.zero_le _) h1
  rw [e0, h2, cst, hs l _ _ h1, fre_none] at h4
  have hlen : l.length = E := by omega
  obtain ⟨g, _⟩ := dg_only hl E 0 _ l (by omega) h1 hlen
  exact ⟨g, by rw [h2, g]; exact e0⟩
end
end Go.Proofs.YthmipmdpdfdlaaaDoor
