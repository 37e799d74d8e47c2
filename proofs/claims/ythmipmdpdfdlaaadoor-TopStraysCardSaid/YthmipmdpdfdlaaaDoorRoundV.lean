/- A region that draws its order: as XRound, but S stands only until operation z has run, and S2 always. No program. -/
import Derived.Test.YthmipmdpdfdlaaaDoorRound
set_option linter.unusedVariables false
namespace Go.Proofs.YthmipmdpdfdlaaaDoor

section
variable {P : Program} {ops : Array Oper} {Q : Exit → Act → World → Prop} {md : Region.Mode} {S S2 : World → Prop} {z : Nat}

/-- any order from here on; S stands until number z has run, S2 always -/
def AnyV (P : Program) (md : Region.Mode) (ops : Array Oper) (Q : Exit → Act → World → Prop) (S S2 : World → Prop) (z : Nat) : Nat → Array Bool → Act → World → Prop
  | 0, listed, a, w => Region.ready md ops listed = [] ∧ Q .normal a w
  | fuel + 1, listed, a, w => (Region.ready md ops listed = [] → Q .normal a w) ∧
    ∀ i ∈ Region.ready md ops listed, wpOp P ops Q i (fun a' w' => (((listed.setIfInBounds i true).getD z true = false → S w') ∧ S2 w') ∧ AnyV P md ops Q S S2 z fuel (listed.setIfInBounds i true) a' w') a w

theorem wpAny_of_V : ∀ (fuel : Nat) (listed : Array Bool) (a : Act) (w : World), AnyV P md ops Q S S2 z fuel listed a w → wpAny P md ops Q fuel listed a w
  | 0, _, _, _, h => h
  | fuel + 1, _, _, _, h => ⟨h.1, fun i hi => wpOp_mono (fun a' w' h' => wpAny_of_V fuel _ a' w' h'.2) (h.2 i hi)⟩

theorem listed_other {listed : Array Bool} {z j : Nat} (hz : listed.getD z true = false) (hj : j ≠ z) : (listed.setIfInBounds j true).getD z true = false := by
  rw [getD_set_ne true hj]; exact hz

/-- what z waits for may come first, where S stands -/
theorem anyV_first {i : Nat} {oi : Oper} {v : Value} (hi : ops[i]? = some oi) (hz : waitsFor md ops z i = true) (hsel : ∀ (j : Nat) (o : Oper) cs b, ops[j]? = some o → o.op ≠ .select cs b)
    (hQ : ∀ c a w, Q (.panic c) (a.put oi.dst v) w → Q (.panic c) a w) : ∀ (fuel : Nat) (listed : Array Bool) (a : Act) (w : World), listed.getD z true = false →
      (∀ j oj, ops[j]? = some oj → j ≠ i → listed.getD j true = false → (∀ e ∈ oj.after, Region.binds md e = true → e.on ≠ i) → oi.apart ops oj = true) →
      i ∈ Region.ready md ops listed → YieldsIf P ops S oi v a → S w → S2 w →
      AnyV P md ops Q S S2 z fuel (listed.setIfInBounds i true) (a.put oi.dst v) w → AnyV P md ops Q S S2 z (fuel + 1) listed a w
  | 0, listed, a, w, _, _, hr, hy, hS, hS2, H => by
    refine ⟨(fun h => by rw [h] at hr; cases hr), fun j hj => ?_⟩
    by_cases hji : j = i
    · subst hji; exact hy.wpOp hi hS ⟨⟨fun _ => hS, hS2⟩, H⟩
    · have h9 := ready_mono hj hji
      rw [H.1] at h9; cases h9
  | fuel + 1, listed, a, w, hzl, hfree, hr, hy, hS, hS2, H => by
    refine ⟨(fun h => by rw [h] at hr; cases hr), fun j hj => ?_⟩
    by_cases hji : j = i
    · subst hji; exact hy.wpOp hi hS ⟨⟨fun _ => hS, hS2⟩, H⟩
    · obtain ⟨hun, oj, hoj, hall⟩ := mem_ready.1 hj
      have hno := ready_free hr hall
      have hjz : j ≠ z := fun e => by
        subst e
        simp only [waitsFor, hoj, Array.any_eq_true', Bool.and_eq_true, beq_iff_eq] at hz
        obtain ⟨e, he, hb, hon⟩ := hz
        exact hno e he hb hon
      have hiz : i ≠ z := fun e => by
        subst e
        simp only [waitsFor, hi, Array.any_eq_true', Bool.and_eq_true, beq_iff_eq] at hz
        obtain ⟨e, he, hb, hon⟩ := hz
        obtain ⟨_, oi', hoi', hall'⟩ := mem_ready.1 hr
        rw [hi] at hoi'
        injection hoi' with hoi'
        subst hoi'
        exact ready_free hr hall' e he hb hon
      have h1 := H.2 j (ready_mono hj hji)
      have h2 := wpOp_putIf hoj (hfree j oj hoj hji hun hno) (fun cs b => hsel i oi cs b hi) (fun cs b => hsel j oj cs b hoj) hQ hy h1
      have hr' : i ∈ Region.ready md ops (listed.setIfInBounds j true) := ready_mono hr (Ne.symm hji)
      have hfree' : ∀ k ok, ops[k]? = some ok → k ≠ i → (listed.setIfInBounds j true).getD k true = false → (∀ e ∈ ok.after, Region.binds md e = true → e.on ≠ i) → oi.apart ops ok = true := fun k ok hk hki hu hno => by
        refine hfree k ok hk hki ?_ hno
        by_cases hjk : j = k
        · subst hjk; exact hun
        · rwa [getD_set_ne true hjk] at hu
      refine wpOp_mono (fun a' w' h3 => ?_) h2
      obtain ⟨hy', hs', ha'⟩ := h3
      have hzl' := listed_other hzl hjz
      have hs9 : S w' := hs'.1 (listed_other (by rw [getD_set_ne true hiz]; exact hzl) hjz)
      rw [Array.setIfInBounds_comm _ _ (Ne.symm hji)] at ha'
      exact ⟨⟨fun _ => hs9, hs'.2⟩, anyV_first hi hz hsel hQ fuel _ a' w' hzl' hfree' hr' hy' hs9 hs'.2 ha'⟩

/-- an operation that reads what always stands may come first -/
theorem anyV_first2 {i : Nat} {oi : Oper} {v : Value} (hi : ops[i]? = some oi) (hiz : i ≠ z) (hsel : ∀ (j : Nat) (o : Oper) cs b, ops[j]? = some o → o.op ≠ .select cs b)
    (hQ : ∀ c a w, Q (.panic c) (a.put oi.dst v) w → Q (.panic c) a w) : ∀ (fuel : Nat) (listed : Array Bool) (a : Act) (w : World),
      (∀ j oj, ops[j]? = some oj → j ≠ i → listed.getD j true = false → (∀ e ∈ oj.after, Region.binds md e = true → e.on ≠ i) → oi.apart ops oj = true) →
      i ∈ Region.ready md ops listed → YieldsIf P ops S2 oi v a → (listed.getD z true = false → S w) → S2 w →
      AnyV P md ops Q S S2 z fuel (listed.setIfInBounds i true) (a.put oi.dst v) w → AnyV P md ops Q S S2 z (fuel + 1) listed a w
  | 0, listed, a, w, _, hr, hy, hS, hS2, H => by
    refine ⟨(fun h => by rw [h] at hr; cases hr), fun j hj => ?_⟩
    by_cases hji : j = i
    · subst hji; exact hy.wpOp hi hS2 ⟨⟨fun h => hS (by rwa [getD_set_ne true hiz] at h), hS2⟩, H⟩
    · have h9 := ready_mono hj hji
      rw [H.1] at h9; cases h9
  | fuel + 1, listed, a, w, hfree, hr, hy, hS, hS2, H => by
    refine ⟨(fun h => by rw [h] at hr; cases hr), fun j hj => ?_⟩
    by_cases hji : j = i
    · subst hji; exact hy.wpOp hi hS2 ⟨⟨fun h => hS (by rwa [getD_set_ne true hiz] at h), hS2⟩, H⟩
    · obtain ⟨hun, oj, hoj, hall⟩ := mem_ready.1 hj
      have hno := ready_free hr hall
      have h1 := H.2 j (ready_mono hj hji)
      have h2 := wpOp_putIf hoj (hfree j oj hoj hji hun hno) (fun cs b => hsel i oi cs b hi) (fun cs b => hsel j oj cs b hoj) hQ hy h1
      have hr' : i ∈ Region.ready md ops (listed.setIfInBounds j true) := ready_mono hr (Ne.symm hji)
      have hfree' : ∀ k ok, ops[k]? = some ok → k ≠ i → (listed.setIfInBounds j true).getD k true = false → (∀ e ∈ ok.after, Region.binds md e = true → e.on ≠ i) → oi.apart ops ok = true := fun k ok hk hki hu hno => by
        refine hfree k ok hk hki ?_ hno
        by_cases hjk : j = k
        · subst hjk; exact hun
        · rwa [getD_set_ne true hjk] at hu
      refine wpOp_mono (fun a' w' h3 => ?_) h2
      obtain ⟨hy', hs', ha'⟩ := h3
      have hs9 : (listed.setIfInBounds j true).getD z true = false → S w' := fun h => hs'.1 (by rw [Array.setIfInBounds_comm _ _ (Ne.symm hji), getD_set_ne true hiz]; exact h)
      rw [Array.setIfInBounds_comm _ _ (Ne.symm hji)] at ha'
      exact ⟨⟨hs9, hs'.2⟩, anyV_first2 hi hiz hsel hQ fuel _ a' w' hfree' hr' hy' hs9 hs'.2 ha'⟩

theorem anyV_take {i : Nat} {oi : Oper} {v : Value} {fuel : Nat} {listed : Array Bool} {a : Act} {w : World} (hi : ops[i]? = some oi) (hz : waitsFor md ops z i = true)
    (hs : Region.noSelect ops = true) (hf : Region.free md ops listed i = true) (hr : (Region.ready md ops listed).contains i = true) (hzl : listed.getD z true = false)
    (hQ : ∀ c a w, Q (.panic c) (a.put oi.dst v) w → Q (.panic c) a w) (hy : YieldsIf P ops S oi v a) (hS : S w) (hS2 : S2 w)
    (h : AnyV P md ops Q S S2 z fuel (listed.setIfInBounds i true) (a.put oi.dst v) w) : AnyV P md ops Q S S2 z (fuel + 1) listed a w :=
  anyV_first hi hz (Region.noSelect_spec hs) hQ fuel listed a w hzl (Region.free_spec hi hf) (by simpa using hr) hy hS hS2 h
theorem anyV_take2 {i : Nat} {oi : Oper} {v : Value} {fuel : Nat} {listed : Array Bool} {a : Act} {w : World} (hi : ops[i]? = some oi) (hiz : i ≠ z)
    (hs : Region.noSelect ops = true) (hf : Region.free md ops listed i = true) (hr : (Region.ready md ops listed).contains i = true)
    (hQ : ∀ c a w, Q (.panic c) (a.put oi.dst v) w → Q (.panic c) a w) (hy : YieldsIf P ops S2 oi v a) (hS : S w) (hS2 : S2 w)
    (h : AnyV P md ops Q S S2 z fuel (listed.setIfInBounds i true) (a.put oi.dst v) w) : AnyV P md ops Q S S2 z (fuel + 1) listed a w :=
  anyV_first2 hi hiz (Region.noSelect_spec hs) hQ fuel listed a w (Region.free_spec hi hf) (by simpa using hr) hy (fun _ => hS) hS2 h
theorem anyV_one {i : Nat} {o : Oper} {fuel : Nat} {listed : Array Bool} {a : Act} {w : World} (hr : Region.ready md ops listed = [i]) (ho : ops[i]? = some o) (hg : o.guard = none)
    (h : ∀ K : Act → World → Prop, (∀ a' w', ((listed.setIfInBounds i true).getD z true = false → S w') → S2 w' → AnyV P md ops Q S S2 z fuel (listed.setIfInBounds i true) a' w' → K a' w') → o.wp P a w K Q) : AnyV P md ops Q S S2 z (fuel + 1) listed a w := by
  refine ⟨(fun e => by rw [e] at hr; cases hr), fun j hj => ?_⟩
  rw [hr] at hj
  obtain rfl : j = i := by simpa using hj
  have hw : Region.wanted o (yielded ops a.tmps) = true := by simp [Region.wanted, hg]
  unfold wpOp
  simp only [ho, hw, if_true]
  exact .inl (h _ fun a' w' h1 h2 h3 => ⟨⟨h1, h2⟩, h3⟩)
theorem anyV_two {i j : Nat} {o o' : Oper} {fuel : Nat} {listed : Array Bool} {a : Act} {w : World} (hr : Region.ready md ops listed = [i, j]) (ho : ops[i]? = some o) (hg : o.guard = none) (ho' : ops[j]? = some o') (hg' : o'.guard = none)
    (h : ∀ K : Act → World → Prop, (∀ a' w', ((listed.setIfInBounds i true).getD z true = false → S w') → S2 w' → AnyV P md ops Q S S2 z fuel (listed.setIfInBounds i true) a' w' → K a' w') → o.wp P a w K Q)
    (h' : ∀ K : Act → World → Prop, (∀ a' w', ((listed.setIfInBounds j true).getD z true = false → S w') → S2 w' → AnyV P md ops Q S S2 z fuel (listed.setIfInBounds j true) a' w' → K a' w') → o'.wp P a w K Q) : AnyV P md ops Q S S2 z (fuel + 1) listed a w := by
  refine ⟨(fun e => by rw [e] at hr; cases hr), fun k hk => ?_⟩
  rw [hr] at hk
  rcases List.mem_cons.1 hk with rfl | hk
  · have hw : Region.wanted o (yielded ops a.tmps) = true := by simp [Region.wanted, hg]
    unfold wpOp
    simp only [ho, hw, if_true]
    exact .inl (h _ fun a' w' h1 h2 h3 => ⟨⟨h1, h2⟩, h3⟩)
  · obtain rfl : k = j := by simpa using hk
    have hw : Region.wanted o' (yielded ops a.tmps) = true := by simp [Region.wanted, hg']
    unfold wpOp
    simp only [ho', hw, if_true]
    exact .inl (h' _ fun a' w' h1 h2 h3 => ⟨⟨h1, h2⟩, h3⟩)
theorem anyV_done {listed : Array Bool} {a : Act} {w : World} (hr : Region.ready md ops listed = []) (h : Q .normal a w) : ∀ fuel, AnyV P md ops Q S S2 z fuel listed a w
  | 0 => ⟨hr, h⟩
  | _ + 1 => ⟨fun _ => h, by rw [hr]; simp⟩
/-- a region that draws, outside rounds -/
theorem region_V {Q : Exit → Act → World → Prop} {id : Nat} {a : Act} {w : World} (S S2 : World → Prop) (z : Nat) (hm : P.follows .mixedOrders = true)
    (h : AnyV P .any ops (normPost (Q .normal)) S S2 z ops.size (Array.replicate ops.size false) a w.drew) : (Code.region id ops true).wp P Q a w :=
  Code.wp_mono (fun e a w he => by cases e <;> first | exact he | exact (he : False).elim) (wp_region_any hm (wpAny_of_V _ _ _ _ h))
end
end Go.Proofs.YthmipmdpdfdlaaaDoor
