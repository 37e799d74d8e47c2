/- A region that draws its order, inside a round of a loop over a function. Loads may come first while what they read stands. No program. -/
import Derived.OrdersHeld
import Derived.OrdersIn
import Derived.ControlIn
import Derived.RangeFuncCalls
import Derived.TacticsIn
set_option linter.unusedVariables false
namespace Go.Proofs.Ythihhmlgpokomaa

section
variable {P : Program} {ops : Array Oper} {Q : Exit → Act → World → Prop} {md : Region.Mode} {S : World → Prop} {z : Nat}

/-- any order from here on; S stands behind every operation but number z -/
def AnyS (P : Program) (md : Region.Mode) (ops : Array Oper) (Q : Exit → Act → World → Prop) (S : World → Prop) (z : Nat) : Nat → Array Bool → Act → World → Prop
  | 0, listed, a, w => Region.ready md ops listed = [] ∧ Q .normal a w
  | fuel + 1, listed, a, w => (Region.ready md ops listed = [] → Q .normal a w) ∧
    ∀ i ∈ Region.ready md ops listed, wpOp P ops Q i (fun a' w' => (i ≠ z → S w') ∧ AnyS P md ops Q S z fuel (listed.setIfInBounds i true) a' w') a w

theorem wpAny_of_S : ∀ (fuel : Nat) (listed : Array Bool) (a : Act) (w : World), AnyS P md ops Q S z fuel listed a w → wpAny P md ops Q fuel listed a w
  | 0, _, _, _, h => h
  | fuel + 1, _, _, _, h => ⟨h.1, fun i hi => wpOp_mono (fun a' w' h' => wpAny_of_S fuel _ a' w' h'.2) (h.2 i hi)⟩

theorem ready_free {i : Nat} {listed : Array Bool} (hr : i ∈ Region.ready md ops listed) {oj : Oper} (hall : ∀ e ∈ oj.after, Region.binds md e = true → listed.getD e.on false = true) :
    ∀ e ∈ oj.after, Region.binds md e = true → e.on ≠ i := fun e he hb heq => by
  have h1 := hall e he hb
  have h0 := (mem_ready.1 hr).1
  rw [heq] at h1
  by_cases h : i < listed.size
  · simp [h] at h0 h1; rw [h0] at h1; cases h1
  · simp [h] at h1

/-- number z waits for number i -/
def waitsFor (md : Region.Mode) (ops : Array Oper) (z i : Nat) : Bool := match ops[z]? with
  | none => false
  | some o => o.after.any fun e => Region.binds md e && e.on == i

theorem anyS_first {i : Nat} {oi : Oper} {v : Value} (hi : ops[i]? = some oi) (hz : waitsFor md ops z i = true) (hsel : ∀ (j : Nat) (o : Oper) cs b, ops[j]? = some o → o.op ≠ .select cs b)
    (hQ : ∀ c a w, Q (.panic c) (a.put oi.dst v) w → Q (.panic c) a w) : ∀ (fuel : Nat) (listed : Array Bool) (a : Act) (w : World),
      (∀ j oj, ops[j]? = some oj → j ≠ i → listed.getD j true = false → (∀ e ∈ oj.after, Region.binds md e = true → e.on ≠ i) → oi.apart ops oj = true) →
      i ∈ Region.ready md ops listed → YieldsIf P ops S oi v a → S w →
      AnyS P md ops Q S z fuel (listed.setIfInBounds i true) (a.put oi.dst v) w → AnyS P md ops Q S z (fuel + 1) listed a w
  | 0, listed, a, w, _, hr, hy, hS, H => by
    refine ⟨(fun h => by rw [h] at hr; cases hr), fun j hj => ?_⟩
    by_cases hji : j = i
    · subst hji; exact hy.wpOp hi hS ⟨fun _ => hS, H⟩
    · have h9 := ready_mono hj hji
      rw [H.1] at h9; cases h9
  | fuel + 1, listed, a, w, hfree, hr, hy, hS, H => by
    refine ⟨(fun h => by rw [h] at hr; cases hr), fun j hj => ?_⟩
    by_cases hji : j = i
    · subst hji; exact hy.wpOp hi hS ⟨fun _ => hS, H⟩
    · obtain ⟨hun, oj, hoj, hall⟩ := mem_ready.1 hj
      have hno := ready_free hr hall
      have hjz : j ≠ z := fun e => by
        subst e
        simp only [waitsFor, hoj, Array.any_eq_true', Bool.and_eq_true, beq_iff_eq] at hz
        obtain ⟨e, he, hb, hon⟩ := hz
        exact hno e he hb hon
      have h1 := H.2 j (ready_mono hj hji)
      have h2 := wpOp_putIf hoj (hfree j oj hoj hji hun hno) (fun cs b => hsel i oi cs b hi) (fun cs b => hsel j oj cs b hoj) hQ hy h1
      have hr' : i ∈ Region.ready md ops (listed.setIfInBounds j true) := ready_mono hr (Ne.symm hji)
      have hfree' : ∀ k ok, ops[k]? = some ok → k ≠ i → (listed.setIfInBounds j true).getD k true = false → (∀ e ∈ ok.after, Region.binds md e = true → e.on ≠ i) → oi.apart ops ok = true := fun k ok hk hki hu hno => by
        refine hfree k ok hk hki ?_ hno
        by_cases hjk : j = k
        · subst hjk; exact hun
        · rwa [getD_set_ne true hjk] at hu
      refine wpOp_mono (fun a' w' h3 => ?_) h2
      obtain ⟨hy', hs', ha'⟩ := h3
      rw [Array.setIfInBounds_comm _ _ (Ne.symm hji)] at ha'
      exact ⟨fun _ => hs' hjz, anyS_first hi hz hsel hQ fuel _ a' w' hfree' hr' hy' (hs' hjz) ha'⟩

theorem anyS_take {i : Nat} {oi : Oper} {v : Value} {fuel : Nat} {listed : Array Bool} {a : Act} {w : World} (hi : ops[i]? = some oi) (hz : waitsFor md ops z i = true)
    (hs : Region.noSelect ops = true) (hf : Region.free md ops listed i = true) (hr : (Region.ready md ops listed).contains i = true)
    (hQ : ∀ c a w, Q (.panic c) (a.put oi.dst v) w → Q (.panic c) a w) (hy : YieldsIf P ops S oi v a) (hS : S w)
    (h : AnyS P md ops Q S z fuel (listed.setIfInBounds i true) (a.put oi.dst v) w) : AnyS P md ops Q S z (fuel + 1) listed a w :=
  anyS_first hi hz (Region.noSelect_spec hs) hQ fuel listed a w (Region.free_spec hi hf) (by simpa using hr) hy hS h
theorem anyS_one {i : Nat} {o : Oper} {fuel : Nat} {listed : Array Bool} {a : Act} {w : World} (hr : Region.ready md ops listed = [i]) (ho : ops[i]? = some o) (hg : o.guard = none)
    (h : ∀ K : Act → World → Prop, (∀ a' w', (i ≠ z → S w') → AnyS P md ops Q S z fuel (listed.setIfInBounds i true) a' w' → K a' w') → o.wp P a w K Q) : AnyS P md ops Q S z (fuel + 1) listed a w := by
  refine ⟨(fun e => by rw [e] at hr; cases hr), fun j hj => ?_⟩
  rw [hr] at hj
  obtain rfl : j = i := by simpa using hj
  have hw : Region.wanted o (yielded ops a.tmps) = true := by simp [Region.wanted, hg]
  unfold wpOp
  simp only [ho, hw, if_true]
  exact .inl (h _ fun a' w' h1 h2 => ⟨h1, h2⟩)
theorem anyS_two {i j : Nat} {o o' : Oper} {fuel : Nat} {listed : Array Bool} {a : Act} {w : World} (hr : Region.ready md ops listed = [i, j]) (ho : ops[i]? = some o) (hg : o.guard = none) (ho' : ops[j]? = some o') (hg' : o'.guard = none)
    (h : ∀ K : Act → World → Prop, (∀ a' w', (i ≠ z → S w') → AnyS P md ops Q S z fuel (listed.setIfInBounds i true) a' w' → K a' w') → o.wp P a w K Q)
    (h' : ∀ K : Act → World → Prop, (∀ a' w', (j ≠ z → S w') → AnyS P md ops Q S z fuel (listed.setIfInBounds j true) a' w' → K a' w') → o'.wp P a w K Q) : AnyS P md ops Q S z (fuel + 1) listed a w := by
  refine ⟨(fun e => by rw [e] at hr; cases hr), fun k hk => ?_⟩
  rw [hr] at hk
  rcases List.mem_cons.1 hk with rfl | hk
  · have hw : Region.wanted o (yielded ops a.tmps) = true := by simp [Region.wanted, hg]
    unfold wpOp
    simp only [ho, hw, if_true]
    exact .inl (h _ fun a' w' h1 h2 => ⟨h1, h2⟩)
  · obtain rfl : k = j := by simpa using hk
    have hw : Region.wanted o' (yielded ops a.tmps) = true := by simp [Region.wanted, hg']
    unfold wpOp
    simp only [ho', hw, if_true]
    exact .inl (h' _ fun a' w' h1 h2 => ⟨h1, h2⟩)
theorem anyS_done {listed : Array Bool} {a : Act} {w : World} (hr : Region.ready md ops listed = []) (h : Q .normal a w) : ∀ fuel, AnyS P md ops Q S z fuel listed a w
  | 0 => ⟨hr, h⟩
  | _ + 1 => ⟨fun _ => h, by rw [hr]; simp⟩

/-- only a normal end -/
def normPost (K : Act → World → Prop) : Exit → Act → World → Prop
  | .normal, a, w => K a w
  | _, _, _ => False
theorem normOut (K : Act → World → Prop) : ¬ LetsOut (normPost K) := fun ⟨_, _, h⟩ => h

theorem wpOpIn_of {Q' : Act → World → Prop} {K K' : Act → World → Prop} {l n i : Nat} {a : Act} {w : World} (hd : ops.all (fun o => match o.op with | .defer _ => false | _ => true) = true) (hK : ∀ a w, K a w → K' a w) (h : wpOp P ops (normPost Q') i K a w) : wpOpIn (Fence.wide.inRound l) n P ops (normPost Q') i K' a w := by
  unfold wpOp at h
  unfold wpOpIn
  cases ho : ops[i]? with
  | none => simp only [ho] at h; exact hK _ _ h
  | some o =>
    simp only [ho] at h ⊢
    split
    · rename_i hw
      simp only [hw, if_true] at h
      rcases h with h | ⟨_, h⟩
      · refine ⟨fun _ _ => trivial, ?_⟩
        have hnd : ∀ c, o.op ≠ .defer c := fun c hc => by
          have := Array.all_eq_true_iff_forall_mem.1 hd o (Array.mem_of_getElem? ho)
          simp [hc] at this
        rw [Oper.semAt_eq _ _ _ hnd]
        unfold Oper.wp at h
        generalize (execOp a.eval o).run P w = r at h ⊢
        cases r with
        | ok x w' =>
          cases x with
          | value v => exact hK _ _ h
          | skip => exact hK _ _ h
          | defer d => exact hK _ _ h
          | enter f args =>
            refine ⟨(fun h9 => by cases h9), CallsIn.inRound l (callsIn_wide.2 (Calls.mono h fun e w'' he => ?_))⟩
            cases e with
            | returned v => exact hK _ _ he
            | panicked c => exact he
            | outgrown => exact he
          | row r args =>
            refine ⟨(fun h9 => by cases h9), fun c cs _ => ?_⟩
            obtain ⟨v, w'', r', s⟩ := h c cs
            exact ⟨v, w'', hK _ _ r', stepsIn_wide.2 s⟩
          | _ => exact (h : False).elim
        | halt x w' => cases x <;> exact h
      · exact (normOut _ h).elim
    · rename_i hw
      simp only [hw] at h
      exact ⟨fun _ _ => trivial, hK _ _ h⟩
theorem wpAnyIn_of {l n : Nat} {Q' : Act → World → Prop} (hd : ops.all (fun o => match o.op with | .defer _ => false | _ => true) = true) : ∀ (fuel : Nat) (listed : Array Bool) (a : Act) (w : World), wpAny P md ops (normPost Q') fuel listed a w → wpAnyIn (Fence.wide.inRound l) n P md ops (normPost Q') fuel listed a w
  | 0, _, _, _, h => h
  | fuel + 1, _, _, _, h => ⟨h.1, fun i hi => wpOpIn_of hd (fun a w => wpAnyIn_of hd fuel _ a w) (h.2 i hi)⟩
/-- a region that draws, inside a round -/
theorem region_round {K : Act → World → Prop} {R : Exit → Act → World → Prop} {id l n : Nat} {a : Act} {w : World} (S : World → Prop) (z : Nat) (hm : P.follows .mixedOrders = true)
    (hd : ops.all (fun o => match o.op with | .defer _ => false | _ => true) = true) (h : AnyS P .any ops (normPost K) S z ops.size (Array.replicate ops.size false) a w.drew) : (Code.region id ops true).wpIn (Fence.wide.inRound l) n P (Exit.then K R) a w :=
  wpIn_mono (wpIn_region_any hm (wpAnyIn_of hd _ _ _ _ (wpAny_of_S _ _ _ _ h))) fun e a w he => by
    cases e <;> first | exact he | exact (he : False).elim
/-- a region that draws, outside rounds -/
theorem region_S {Q : Exit → Act → World → Prop} {id : Nat} {a : Act} {w : World} (S : World → Prop) (z : Nat) (hm : P.follows .mixedOrders = true)
    (h : AnyS P .any ops (normPost (Q .normal)) S z ops.size (Array.replicate ops.size false) a w.drew) : (Code.region id ops true).wp P Q a w :=
  Code.wp_mono (fun e a w he => by cases e <;> first | exact he | exact (he : False).elim) (wp_region_any hm (wpAny_of_S _ _ _ _ h))
end
end Go.Proofs.Ythihhmlgpokomaa
