/- Cars that are still there, or were not seen when they came: the best list of pairs. No program. -/
import Derived.Test.YthmipmdpdfdlaaaDoorTx
set_option maxRecDepth 100000
set_option linter.unusedVariables false
set_option linter.unusedSimpArgs false
namespace Go.Proofs.YthmipmdpdfdlaaaDoor

theorem map_getD {f : Nat → Pas} {c : List Nat} {i : Nat} (h : i < c.length) : (c.map f).getD i ps0 = f c[i] := getD_map f c h
theorem ge_nat {c : List Nat} {i : Nat} (h : i < c.length) : c.getD i 0 = c[i] := by
  rw [List.getD_eq_getElem?_getD, List.getElem?_eq_getElem h]; rfl
/-- which exit an entry ought to have -/
def stT (inL outL : List Nat) (e : Nat) : Option Nat := if inL.getD e 0 ∈ outL then some (outL.idxOf (inL.getD e 0)) else none
theorem strays_dist {l : List Car} {n : Nat} (hok : CarsOk l n) (h1 : ∀ i, i < n → dsV (l.getD i car0).p (l.getD i car0).r ≤ 1) (h12 : ∀ i, i < n → ∀ k, k < i → 12 ≤ dsV (l.getD i car0).p (l.getD k car0).p) {i i' : Nat} (hi : i < n) (hi' : i' < n) (hne : i ≠ i') :
    11 ≤ dsV (l.getD i car0).p (l.getD i' car0).r := by
  have a3 : 12 ≤ dist (l.getD i car0).p.data.toList (l.getD i' car0).p.data.toList := by
    rcases Nat.lt_or_ge i' i with hlt | hge
    · have := h12 i hi i' hlt
      rwa [dsV_val (hok i hi).1 (hok i' hi').1] at this
    · have := h12 i' hi' i (by omega)
      rw [dsV_val (hok i' hi').1 (hok i hi).1, dist_symm] at this
      exact this
  have a2 := h1 i' hi'
  rw [dsV_val (hok i' hi').1 (hok i' hi').2] at a2
  have a4 := dist_tri (l.getD i car0).p.data.toList (l.getD i' car0).r.data.toList (l.getD i' car0).p.data.toList
  rw [dist_symm (l.getD i' car0).r.data.toList] at a4
  rw [dsV_val (hok i hi).1 (hok i' hi').2]
  omega
theorem strays_best {l : List Car} {n : Nat} (hok : CarsOk l n) (h1 : ∀ i, i < n → dsV (l.getD i car0).p (l.getD i car0).r ≤ 1) (h12 : ∀ i, i < n → ∀ k, k < i → 12 ≤ dsV (l.getD i car0).p (l.getD k car0).p)
    {inL outL : List Nat} (hin : ∀ i ∈ inL, i < n) (hout : ∀ i ∈ outL, i < n) (ndi : inL.Nodup) (ndo : outL.Nodup) {q : Prs} {c : Int} (h : BP (inL.map (eOf l)) (outL.map (xOf l)) 0 (fun _ => false) q c) :
    q = tg (stT inL outL) inL.length 0 ∧ c = wt (dsP (inL.map (eOf l)) (outL.map (xOf l))) (tg (stT inL outL) inL.length 0) + 5 * (inL.length : Int) + 5 * (outL.length : Int) := by
  unfold BP at h
  have hself : ∀ {i : Nat} (hm : i ∈ outL), outL[outL.idxOf i]'(List.idxOf_lt_length_of_mem hm) = i := fun hm => List.getElem_idxOf _
  have h' := bst_dom (t := stT inL outL) (fun e he => ?_) (fun e e' j he he' t1 t2 => ?_) h
  · rw [List.length_map, List.length_map] at h'
    exact h'
  · rw [List.length_map] at he
    have hi : inL[e] < n := hin _ (List.getElem_mem _)
    unfold stT
    rw [ge_nat he]
    by_cases hm : inL[e] ∈ outL
    · rw [if_pos hm]
      have hj := List.idxOf_lt_length_of_mem hm
      have hd : dsP (inL.map (eOf l)) (outL.map (xOf l)) e (outL.idxOf inL[e]) = dsV (l.getD inL[e] car0).p (l.getD inL[e] car0).r := by
        rw [dsP, map_getD he, map_getD hj, hself hm]; rfl
      refine ⟨by rw [List.length_map]; exact hj, ?_, by rw [hd]; have := h1 _ hi; omega, fun j' hj' hne _ => ?_⟩
      · rw [okP, map_getD he, map_getD hj, hself hm, decide_eq_true_iff]
        simp only [eOf, xOf]; omega
      · rw [List.length_map] at hj'
        have hi' : outL[j'] < n := hout _ (List.getElem_mem _)
        have hii : inL[e] ≠ outL[j'] := fun e9 => by
          apply hne
          rw [e9]
          first | exact (ndo.idxOf_getElem j' hj').symm | exact (List.idxOf_getElem ndo j' hj').symm
        have := strays_dist hok h1 h12 hi hi' hii
        have h9 := h1 _ hi
        have hd' : dsP (inL.map (eOf l)) (outL.map (xOf l)) e j' = dsV (l.getD inL[e] car0).p (l.getD outL[j'] car0).r := by
          rw [dsP, map_getD he, map_getD hj']; rfl
        rw [hd, hd']; omega
    · rw [if_neg hm]
      intro j' hj' _
      rw [List.length_map] at hj'
      have hi' : outL[j'] < n := hout _ (List.getElem_mem _)
      have hii : inL[e] ≠ outL[j'] := fun e9 => hm (by rw [e9]; exact List.getElem_mem _)
      have := strays_dist hok h1 h12 hi hi' hii
      have hd' : dsP (inL.map (eOf l)) (outL.map (xOf l)) e j' = dsV (l.getD inL[e] car0).p (l.getD outL[j'] car0).r := by
        rw [dsP, map_getD he, map_getD hj']; rfl
      rw [hd']; omega
  · rw [List.length_map] at he he'
    unfold stT at t1 t2
    rw [ge_nat he] at t1
    rw [ge_nat he'] at t2
    by_cases m1 : inL[e] ∈ outL
    · by_cases m2 : inL[e'] ∈ outL
      · rw [if_pos m1, Option.some.injEq] at t1
        rw [if_pos m2, Option.some.injEq] at t2
        have s1 := hself m1
        have s2 := hself m2
        have e9 : inL[e] = inL[e'] := by
          rw [← s1, ← s2]
          congr 1
          rw [t1, t2]
        exact (List.getElem_inj ndi).1 e9
      · rw [if_neg m2] at t2; cases t2
    · rw [if_neg m1] at t1; cases t1
end Go.Proofs.YthmipmdpdfdlaaaDoor
