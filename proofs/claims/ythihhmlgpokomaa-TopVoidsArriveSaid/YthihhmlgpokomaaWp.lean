/- Plain: what a map holds behind a store at each key of a list. No program. -/
import Derived.Test.YthihhmlgpokomaaWa
import Derived.Maps.OwnSet
set_option linter.unusedVariables false
set_option linter.unusedSimpArgs false
namespace Go.Proofs.Ythihhmlgpokomaa
open Go.Maps

def litN (k : Nat) : Lit := .int .i64 (k : Int)
abbrev uT : DataW Unit := .lit (.bool true)
def thereD (ks : List Nat) : DataW Unit := setOf uT (ks.map litN)
theorem thereD_nil : thereD [] = .map [] := rfl
theorem thereD_snoc {ks : List Nat} {i : Nat} (h : i < ks.length) : thereD (ks.take (i + 1)) = (thereD (ks.take i)).put (litN ks[i]) uT := by
  unfold thereD
  rw [List.take_succ_eq_append_getElem h, List.map_append, List.map_cons, List.map_nil, setOf_snoc]
theorem litN_key (k : Nat) : WideAt.IsKeyLit (litN k) := trivial
theorem litN_same (a b : Nat) : (litN a).sameKey (litN b) = decide (a = b) := by
  rw [Bool.eq_iff_iff, WideAt.sameKey_iff (litN_key b), decide_eq_true_eq]
  unfold litN
  constructor
  · intro h; injection h with _ h; omega
  · rintro rfl; rfl
def addN (acc : List Nat) (k : Nat) : List Nat := if k ∈ acc then acc else acc ++ [k]
theorem addKey_lit (acc : List Nat) (k : Nat) : addKey (acc.map litN) (litN k) = (addN acc k).map litN := by
  unfold addKey addN
  have : ((acc.map litN).any fun y => y.sameKey (litN k)) = decide (k ∈ acc) := by
    rw [Bool.eq_iff_iff, List.any_eq_true, decide_eq_true_eq]
    constructor
    · rintro ⟨x, hx, h⟩
      obtain ⟨y, hy, rfl⟩ := List.mem_map.1 hx
      rw [litN_same, decide_eq_true_eq] at h
      exact h ▸ hy
    · intro h
      exact ⟨litN k, List.mem_map.2 ⟨k, h, rfl⟩, by rw [litN_same]; simp⟩
  rw [this]
  by_cases h : k ∈ acc <;> simp [h]
theorem fold_lit : ∀ (ks acc : List Nat), (ks.map litN).foldl addKey (acc.map litN) = (ks.foldl addN acc).map litN
  | [], acc => rfl
  | k :: ks, acc => by rw [List.map_cons, List.foldl_cons, addKey_lit, fold_lit ks (addN acc k), List.foldl_cons]
theorem fold_nodup : ∀ (ks acc : List Nat), acc.Nodup → (ks.foldl addN acc).Nodup ∧ ∀ x ∈ ks.foldl addN acc, x ∈ acc ∨ x ∈ ks
  | [], acc, h => ⟨h, fun x hx => .inl hx⟩
  | k :: ks, acc, h => by
    have h1 : (addN acc k).Nodup ∧ ∀ x ∈ addN acc k, x ∈ acc ∨ x = k := by
      unfold addN
      by_cases hk : k ∈ acc
      · rw [if_pos hk]; exact ⟨h, fun x hx => .inl hx⟩
      · rw [if_neg hk]
        refine ⟨?_, fun x hx => ?_⟩
        · rw [List.nodup_append]
          refine ⟨h, by simp, fun a ha b hb e => ?_⟩
          have : b = k := by simpa using hb
          subst this; subst e; exact hk ha
        · rcases List.mem_append.1 hx with hx | hx
          · exact .inl hx
          · exact .inr (by simpa using hx)
    obtain ⟨h2, h3⟩ := fold_nodup ks (addN acc k) h1.1
    refine ⟨h2, fun x hx => ?_⟩
    rcases h3 x hx with h4 | h4
    · rcases h1.2 x h4 with h5 | h5
      · exact .inl h5
      · exact .inr (h5 ▸ List.mem_cons_self)
    · exact .inr (List.mem_cons_of_mem _ h4)
theorem there_all {ks : List Nat} {n : Nat} (hb : ∀ x ∈ ks, x < n) {S : Int} (hS : Maps.size (thereD ks) = S) (h : (n : Int) ≤ S) : ∀ k, k < n → k ∈ ks := by
  have e : size (thereD ks) = (ks.foldl addN []).length := by
    unfold thereD
    rw [size_setOf uT _ (fun x hx => by obtain ⟨y, _, rfl⟩ := List.mem_map.1 hx; exact litN_key y)]
    have := fold_lit ks []
    rw [List.map_nil] at this
    rw [this, List.length_map]
  obtain ⟨h1, h2⟩ := fold_nodup ks [] List.nodup_nil
  have h3 : ∀ x ∈ ks.foldl addN [], x ∈ ks := fun x hx => by
    rcases h2 x hx with h | h
    · cases h
    · exact h
  intro k hk
  refine h3 k (nodup_all h1 (fun x hx => hb x (h3 x hx)) ?_ k hk)
  have : (size (thereD ks) : Int) = S := hS
  rw [e] at this
  omega
end Go.Proofs.Ythihhmlgpokomaa
