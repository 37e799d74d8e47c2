/- The distance of two plates as plain data: an edit distance, that it is symmetric, zero at equal plates, and keeps the triangle's law. No program. -/
import GoSem.Claim
set_option linter.unusedVariables false
set_option linter.unusedSimpArgs false
namespace Go.Proofs.YthmipmdpdfdlaaaDoor

def cfB (a b : UInt8) : Bool :=
  (a == 79 && b == 48) || (a == 73 && b == 49) || (a == 66 && b == 56) || (a == 83 && b == 53) || (a == 90 && b == 50)
def repl (a b : UInt8) : Int := if a = b then 0 else if (cfB a b || cfB b a) = true then 1 else 2
theorem repl_lo (a b : UInt8) : 0 ≤ repl a b := by unfold repl; split; omega; split <;> omega
theorem repl_hi (a b : UInt8) : repl a b ≤ 2 := by unfold repl; split; omega; split <;> omega
theorem repl_self (a : UInt8) : repl a a = 0 := by simp [repl]
theorem repl_symm (a b : UInt8) : repl a b = repl b a := by
  unfold repl
  rw [Bool.or_comm]
  by_cases h : a = b
  · rw [if_pos h, if_pos h.symm]
  · simp only [if_neg h, if_neg (fun e : b = a => h e.symm)]
theorem cf_iff (a b : UInt8) : (cfB a b || cfB b a) = true ↔ (a = 79 ∧ b = 48) ∨ (a = 48 ∧ b = 79) ∨ (a = 73 ∧ b = 49) ∨ (a = 49 ∧ b = 73) ∨ (a = 66 ∧ b = 56) ∨ (a = 56 ∧ b = 66) ∨ (a = 83 ∧ b = 53) ∨ (a = 53 ∧ b = 83) ∨ (a = 90 ∧ b = 50) ∨ (a = 50 ∧ b = 90) := by
  simp only [cfB, Bool.or_eq_true, Bool.and_eq_true, beq_iff_eq]
  constructor
  · rintro (((((h | h) | h) | h) | h) | ((((h | h) | h) | h) | h)) <;> obtain ⟨rfl, rfl⟩ := h <;> simp
  · rintro (h | h | h | h | h | h | h | h | h | h) <;> obtain ⟨rfl, rfl⟩ := h <;> simp
/-- two replacements are no cheaper than one -/
theorem repl_tri (a b c : UInt8) : repl a c ≤ repl a b + repl b c := by
  by_cases hab : a = b
  · subst hab; rw [repl_self]; omega
  by_cases hbc : b = c
  · subst hbc; rw [repl_self]; omega
  have h1 : 1 ≤ repl a b := by unfold repl; rw [if_neg hab]; split <;> omega
  have h2 : 1 ≤ repl b c := by unfold repl; rw [if_neg hbc]; split <;> omega
  have := repl_hi a c
  omega

abbrev Sgs := List UInt8
def edS (f : Sgs → Int) (la : Nat) (x : UInt8) : Sgs → Int
  | [] => 2 * ((la : Int) + 1)
  | y :: b => min (f b + repl x y) (min (f (y :: b) + 2) (edS f la x b + 2))
/-- the distance -/
def ed : Sgs → Sgs → Int
  | [], b => 2 * (b.length : Int)
  | x :: a, b => edS (ed a) a.length x b
theorem ed_nil (b : Sgs) : ed [] b = 2 * (b.length : Int) := rfl
theorem ed_nil2 (a : Sgs) : ed a [] = 2 * (a.length : Int) := by
  cases a with
  | nil => rfl
  | cons x a => simp [ed, edS]
theorem ed_cons (x y : UInt8) (a b : Sgs) : ed (x :: a) (y :: b) = min (ed a b + repl x y) (min (ed a (y :: b) + 2) (ed (x :: a) b + 2)) := rfl

/-- one text becomes another one at some cost -/
inductive Al : Sgs → Sgs → Int → Prop
  | nil : Al [] [] 0
  | sub {a b n} (x y : UInt8) : Al a b n → Al (x :: a) (y :: b) (n + repl x y)
  | del {a b n} (x : UInt8) : Al a b n → Al (x :: a) b (n + 2)
  | ins {a b n} (y : UInt8) : Al a b n → Al a (y :: b) (n + 2)
theorem al_ins : ∀ b : Sgs, Al [] b (2 * (b.length : Int))
  | [] => Al.nil
  | y :: b => by
    have := Al.ins y (al_ins b)
    rwa [show 2 * (((y :: b).length : Nat) : Int) = 2 * (b.length : Int) + 2 from by simp; omega]
theorem al_ed : ∀ a b : Sgs, Al a b (ed a b)
  | [], b => by rw [ed_nil]; exact al_ins b
  | x :: a, [] => by
    have := Al.del x (al_ed a [])
    rw [ed_nil2] at this ⊢
    rwa [show 2 * (((x :: a).length : Nat) : Int) = 2 * (a.length : Int) + 2 from by simp; omega]
  | x :: a, y :: b => by
    have h1 := Al.sub x y (al_ed a b)
    have h2 := Al.del x (al_ed a (y :: b))
    have h3 := Al.ins y (al_ed (x :: a) b)
    rw [ed_cons]
    rcases Int.le_total (ed a b + repl x y) (min (ed a (y :: b) + 2) (ed (x :: a) b + 2)) with h | h
    · rw [Int.min_eq_left h]; exact h1
    · rw [Int.min_eq_right h]
      rcases Int.le_total (ed a (y :: b) + 2) (ed (x :: a) b + 2) with h | h
      · rw [Int.min_eq_left h]; exact h2
      · rw [Int.min_eq_right h]; exact h3
termination_by a b => a.length + b.length
theorem ed_le {a b : Sgs} {n : Int} (h : Al a b n) : ed a b ≤ n := by
  induction h with
  | nil => exact Int.le_refl _
  | sub x y h ih => rw [ed_cons]; omega
  | @del a b n x h ih =>
    cases b with
    | nil => rw [ed_nil2] at ih ⊢; simp; omega
    | cons y b => rw [ed_cons]; omega
  | @ins a b n y h ih =>
    cases a with
    | nil => rw [ed_nil] at ih ⊢; simp; omega
    | cons x a => rw [ed_cons]; omega
theorem al_symm {a b : Sgs} {n : Int} (h : Al a b n) : Al b a n := by
  induction h with
  | nil => exact .nil
  | sub x y h ih => rw [repl_symm]; exact .sub y x ih
  | del x h ih => exact .ins x ih
  | ins y h ih => exact .del y ih
theorem al_refl : ∀ a : Sgs, Al a a 0
  | [] => .nil
  | x :: a => by have := Al.sub x x (al_refl a); rwa [repl_self] at this
theorem al_lo {a b : Sgs} {n : Int} (h : Al a b n) : 0 ≤ n := by
  induction h with
  | nil => omega
  | sub x y h ih => have := repl_lo x y; omega
  | del x h ih => omega
  | ins y h ih => omega
theorem al_trans : ∀ (N : Nat) (a b c : Sgs) (n m : Int), a.length + b.length + c.length ≤ N → Al a b n → Al b c m → ∃ k, k ≤ n + m ∧ Al a c k
  | N, a, b, c, n, m, hN, h1, h2 => by
    cases h1 with
    | nil =>
      cases h2 with
      | nil => exact ⟨0, by omega, .nil⟩
      | @ins _ c m z h2 =>
        match N with
        | 0 => simp at hN
        | N + 1 =>
          obtain ⟨k, hk, h⟩ := al_trans N _ _ _ _ _ (by simp at hN ⊢; omega) Al.nil h2
          exact ⟨k + 2, by omega, .ins z h⟩
    | @sub a b n x y h1 =>
      cases h2 with
      | @sub _ c m _ z h2 =>
        match N with
        | 0 => simp at hN
        | N + 1 =>
          obtain ⟨k, hk, h⟩ := al_trans N _ _ _ _ _ (by simp at hN ⊢; omega) h1 h2
          exact ⟨k + repl x z, by have := repl_tri x y z; omega, .sub x z h⟩
      | @del _ c m _ h2 =>
        match N with
        | 0 => simp at hN
        | N + 1 =>
          obtain ⟨k, hk, h⟩ := al_trans N _ _ _ _ _ (by simp at hN ⊢; omega) h1 h2
          exact ⟨k + 2, by have := repl_lo x y; omega, .del x h⟩
      | @ins _ c m z h2 =>
        match N with
        | 0 => simp at hN
        | N + 1 =>
          obtain ⟨k, hk, h⟩ := al_trans N _ _ _ _ _ (by simp at hN ⊢; omega) (Al.sub x y h1) h2
          exact ⟨k + 2, by omega, .ins z h⟩
    | @del a b n x h1 =>
      match N with
      | 0 => simp at hN
      | N + 1 =>
        obtain ⟨k, hk, h⟩ := al_trans N _ _ _ _ _ (by simp at hN ⊢; omega) h1 h2
        exact ⟨k + 2, by omega, .del x h⟩
    | @ins a b n y h1 =>
      cases h2 with
      | @sub _ c m _ z h2 =>
        match N with
        | 0 => simp at hN
        | N + 1 =>
          obtain ⟨k, hk, h⟩ := al_trans N _ _ _ _ _ (by simp at hN ⊢; omega) h1 h2
          exact ⟨k + 2, by have := repl_lo y z; omega, .ins z h⟩
      | @del _ c m _ h2 =>
        match N with
        | 0 => simp at hN
        | N + 1 =>
          obtain ⟨k, hk, h⟩ := al_trans N _ _ _ _ _ (by simp at hN ⊢; omega) h1 h2
          exact ⟨k, by omega, h⟩
      | @ins _ c m z h2 =>
        match N with
        | 0 => simp at hN
        | N + 1 =>
          obtain ⟨k, hk, h⟩ := al_trans N _ _ _ _ _ (by simp at hN ⊢; omega) (Al.ins y h1) h2
          exact ⟨k + 2, by omega, .ins z h⟩

theorem ed_lo (a b : Sgs) : 0 ≤ ed a b := al_lo (al_ed a b)
theorem ed_symm (a b : Sgs) : ed a b = ed b a :=
  Int.le_antisymm (ed_le (al_symm (al_ed b a))) (ed_le (al_symm (al_ed a b)))
theorem ed_self (a : Sgs) : ed a a = 0 := Int.le_antisymm (ed_le (al_refl a)) (ed_lo a a)
theorem ed_tri (a b c : Sgs) : ed a c ≤ ed a b + ed b c := by
  obtain ⟨k, hk, h⟩ := al_trans _ a b c _ _ (Nat.le_refl _) (al_ed a b) (al_ed b c)
  have := ed_le h
  omega
theorem ed_hi (a b : Sgs) : ed a b ≤ 2 * (a.length : Int) + 2 * (b.length : Int) := by
  have h := ed_tri a [] b
  rw [ed_nil2, ed_nil] at h
  exact h

/-- the distance of two texts (it is reckoned from their ends) -/
def dist (a b : Sgs) : Int := ed a.reverse b.reverse
theorem dist_lo (a b : Sgs) : 0 ≤ dist a b := ed_lo _ _
theorem dist_hi (a b : Sgs) : dist a b ≤ 2 * (a.length : Int) + 2 * (b.length : Int) := by
  have := ed_hi a.reverse b.reverse
  simpa [dist] using this
theorem dist_symm (a b : Sgs) : dist a b = dist b a := ed_symm _ _
theorem dist_self (a : Sgs) : dist a a = 0 := ed_self _
theorem dist_tri (a b c : Sgs) : dist a c ≤ dist a b + dist b c := ed_tri _ _ _
end Go.Proofs.YthmipmdpdfdlaaaDoor
