/- Cars that are still there, or were not seen: what is wrong, summed car by car, and the pairs. No program. -/
import Derived.Test.YthmipmdpdfdlaaaDoorTy
set_option maxRecDepth 100000
set_option linter.unusedVariables false
set_option linter.unusedSimpArgs false
namespace Go.Proofs.YthmipmdpdfdlaaaDoor

section
variable (l : List Car) (A B : Nat → Bool)
/-- which cars were seen when they came, in their order -/
def inS (n : Nat) : List Nat := (List.range n).filter A
/-- which cars were seen when they left, in the order in which they left -/
def outS (n : Nat) : List Nat := (cI l n).filter B
/-- what the law sums -/
def wantS : Nat → Int
  | 0 => 0
  | n + 1 => wantS n + if A n && B n then dsV (l.getD n car0).p (l.getD n car0).r else if A n || B n then 5 else 0
def bothS : Nat → Nat
  | 0 => 0
  | n + 1 => bothS n + if A n && B n then 1 else 0
/-- how many of the first numbers a test lets pass -/
def cntS (n : Nat) : Nat := ((List.range n).filter A).length
variable {l A B}
theorem cntS_succ (n : Nat) : cntS A (n + 1) = cntS A n + if A n then 1 else 0 := by
  unfold cntS
  rw [List.range_succ, List.filter_append, List.length_append]
  cases h : A n <;> simp [h]
theorem inS_succ (n : Nat) : inS A (n + 1) = inS A n ++ if A n then [n] else [] := by
  unfold inS
  rw [List.range_succ, List.filter_append]
  cases h : A n <;> simp [h]
theorem inS_mem {n i : Nat} : i ∈ inS A n ↔ i < n ∧ A i = true := by simp [inS]
theorem outS_mem {n i : Nat} : i ∈ outS l B n ↔ i < n ∧ B i = true := by simp [outS, cI_mem]
theorem inS_nodup (n : Nat) : (inS A n).Nodup := List.Nodup.sublist List.filter_sublist List.nodup_range
theorem outS_nodup (n : Nat) : (outS l B n).Nodup := List.Nodup.sublist List.filter_sublist (cI_nodup l n)
theorem outS_length (n : Nat) : (outS l B n).length = cntS B n := by
  unfold outS cntS
  exact ((cI_perm l n).filter B).length_eq
/-- what the pairs of some entries gain, and how many they are -/
def sumF (l : List Car) (o : List Nat) : List Nat → Int
  | [] => 0
  | i :: r => (if i ∈ o then dsV (l.getD i car0).p (l.getD i car0).r - 10 else 0) + sumF l o r
def lenF (o : List Nat) : List Nat → Nat
  | [] => 0
  | i :: r => (if i ∈ o then 1 else 0) + lenF o r
theorem sumF_append (o : List Nat) : ∀ a b, sumF l o (a ++ b) = sumF l o a + sumF l o b
  | [], b => by simp [sumF]
  | i :: r, b => by rw [List.cons_append, sumF, sumF, sumF_append o r b]; omega
theorem lenF_append (o : List Nat) : ∀ a b, lenF o (a ++ b) = lenF o a + lenF o b
  | [], b => by simp [lenF]
  | i :: r, b => by rw [List.cons_append, lenF, lenF, lenF_append o r b]; omega
theorem tg_sum {inL outL : List Nat} : ∀ (suf : List Nat) (k : Nat), inL.drop k = suf →
    wt (dsP (inL.map (eOf l)) (outL.map (xOf l))) (tg (stT inL outL) suf.length k) = sumF l outL suf ∧ (tg (stT inL outL) suf.length k).length = lenF outL suf
  | [], k, h => ⟨rfl, rfl⟩
  | i :: r, k, h => by
    have hk : k < inL.length := by
      rcases Nat.lt_or_ge k inL.length with h9 | h9
      · exact h9
      · rw [List.drop_eq_nil_of_le h9] at h; cases h
    rw [List.drop_eq_getElem_cons hk] at h
    injection h with h1 h2
    obtain ⟨g1, g2⟩ := tg_sum (inL := inL) (outL := outL) r (k + 1) h2
    rw [List.length_cons, tg]
    have e : stT inL outL k = if i ∈ outL then some (outL.idxOf i) else none := by
      unfold stT; rw [ge_nat hk, h1]
    rw [e]
    by_cases hm : i ∈ outL
    · rw [if_pos hm]
      simp only [wt, sumF, lenF, if_pos hm, List.length_cons]
      have hj := List.idxOf_lt_length_of_mem hm
      have hd : dsP (inL.map (eOf l)) (outL.map (xOf l)) k (outL.idxOf i) = dsV (l.getD i car0).p (l.getD i car0).r := by
        rw [dsP, map_getD hk, map_getD hj, h1, List.getElem_idxOf]; rfl
      rw [g1, g2, hd]
      omega
    · rw [if_neg hm]
      simp only [sumF, lenF, if_neg hm]
      rw [g1, g2]
      omega
theorem sumF_in (N : Nat) : ∀ n, n ≤ N → sumF l (outS l B N) (inS A n) + 5 * (cntS A n : Int) + 5 * (cntS B n : Int) = wantS l A B n ∧ lenF (outS l B N) (inS A n) = bothS A B n
  | 0, _ => ⟨by simp [inS, sumF, cntS, wantS], by simp [inS, lenF, bothS]⟩
  | n + 1, h => by
    obtain ⟨g1, g2⟩ := sumF_in N n (by omega)
    rw [inS_succ, sumF_append, lenF_append, cntS_succ, cntS_succ, wantS, bothS, ← g1, ← g2]
    cases ha : A n <;> cases hb : B n
    · simp [sumF, lenF]
    · simp [sumF, lenF]; omega
    · have : n ∉ outS l B N := fun h9 => by rw [outS_mem, hb] at h9; exact absurd h9.2 (by decide)
      simp [sumF, lenF, this]; omega
    · have : n ∈ outS l B N := outS_mem.2 ⟨by omega, hb⟩
      simp [sumF, lenF, this]; omega
theorem tg_mem {t : Nat → Option Nat} : ∀ (n k : Nat) (p : Nat × Nat), p ∈ tg t n k → k ≤ p.1 ∧ p.1 < k + n ∧ t p.1 = some p.2
  | 0, _, _, h => by simp [tg] at h
  | n + 1, k, p, h => by
    rw [tg] at h
    cases ht : t k with
    | none =>
      rw [ht] at h
      have := tg_mem n (k + 1) p h
      exact ⟨by omega, by omega, this.2.2⟩
    | some j =>
      rw [ht] at h
      rcases List.mem_cons.1 h with rfl | h
      · exact ⟨Nat.le_refl _, by simp, ht⟩
      · have := tg_mem n (k + 1) p h
        exact ⟨by omega, by omega, this.2.2⟩
/-- THE ANSWER: how many pairs, what is wrong, and each pair is of one car -/
theorem strays_answer {n : Nat} (hok : CarsOk l n) (h1 : ∀ i, i < n → dsV (l.getD i car0).p (l.getD i car0).r ≤ 1) (h12 : ∀ i, i < n → ∀ k, k < i → 12 ≤ dsV (l.getD i car0).p (l.getD k car0).p)
    {q : Prs} {c : Int} (h : BP ((inS A n).map (eOf l)) ((outS l B n).map (xOf l)) 0 (fun _ => false) q c) :
    c = wantS l A B n ∧ q.length = bothS A B n ∧ ∀ p ∈ q, ∃ (h1 : p.1 < (inS A n).length) (h2 : p.2 < (outS l B n).length), (inS A n)[p.1] = (outS l B n)[p.2] := by
  obtain ⟨rfl, hc⟩ := strays_best hok h1 h12 (inL := inS A n) (outL := outS l B n) (fun i hi => (inS_mem.1 hi).1) (fun i hi => (outS_mem.1 hi).1) (inS_nodup n) (outS_nodup n) h
  obtain ⟨g1, g2⟩ := tg_sum (l := l) (inL := inS A n) (outL := outS l B n) (inS A n) 0 rfl
  obtain ⟨g3, g4⟩ := sumF_in (l := l) (A := A) (B := B) n n (Nat.le_refl _)
  refine ⟨?_, by rw [g2, g4], fun p hp => ?_⟩
  · rw [hc, g1, outS_length, ← g3]
    rfl
  · obtain ⟨_, p2, p3⟩ := tg_mem _ _ p hp
    have hp1 : p.1 < (inS A n).length := by omega
    unfold stT at p3
    rw [ge_nat hp1] at p3
    by_cases hm : (inS A n)[p.1] ∈ outS l B n
    · rw [if_pos hm, Option.some.injEq] at p3
      have hj := List.idxOf_lt_length_of_mem hm
      refine ⟨hp1, by rw [← p3]; exact hj, ?_⟩
      have := List.getElem_idxOf hj
      exact this.symm.trans (by congr 1)
    · rw [if_neg hm] at p3; cases p3
end
end Go.Proofs.YthmipmdpdfdlaaaDoor
