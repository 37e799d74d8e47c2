/- Plain: what the laws of the vault say. -/
import Derived.Test.YthebojaminploaaGreatDoorKVMath
set_option maxRecDepth 100000
set_option linter.unusedVariables false
set_option linter.unusedSimpArgs false
namespace Go.Proofs.YthebojaminploaaGreatDoor

theorem Sto.ok {m : Mem} {x : Lea} {tick : Int} {L F : List (List UInt8)} {z : List UInt8} {after : List Lea} (h : Sto m x tick L F z after) : stoM m x tick = (F.map fun b => mk m b) ++ [mk m z] ∧ (stoM m x tick).length = F.length + 1 ∧ F.length ≤ 100000 := by
  have e : stoM m x tick = (F.map fun b => mk m b) ++ [mk m z] := by rw [h.mems, h.steps.split, List.map_append]; rfl
  exact ⟨e, by rw [e]; simp, h.steps.len⟩
theorem sto_bad {m : Mem} {x : Lea} {tick : Int} (h : stoE m x tick ≠ 0) : stoM m x tick = [] := by unfold stoM; rw [if_neg h]
theorem sto_load {m : Mem} {x : Lea} {tick : Int} (h : stoE m x tick = 0) : loadE m = 0 := (sto_of h).choose_spec.choose_spec.choose_spec.choose_spec.load
/-- a memory of Store: the leases of before, or the last one -/
theorem Sto.at_ {m : Mem} {x : Lea} {tick : Int} {L F : List (List UInt8)} {z : List UInt8} {after : List Lea} (h : Sto m x tick L F z after) (k : Nat) (hk : k < (stoM m x tick).length) :
    (stoM m x tick)[k].2.length = 2048 ∧ (stoM m x tick)[k].1 = 512 ∧ loadE (stoM m x tick)[k] = 0 ∧
      ((k < F.length ∧ loadL (stoM m x tick)[k] = loadL m) ∨ (k = F.length ∧ (stoM m x tick)[k] = mk m z ∧ loadL (stoM m x tick)[k] = after)) := by
  obtain ⟨e, hl, _⟩ := h.ok
  have m1 := (load_ok h.load).1
  have m2 := (load_ok h.load).2.1
  rcases Nat.lt_or_ge k F.length with hk' | hk'
  · have e2 : (stoM m x tick)[k] = mk m F[k] := by
      simp only [e]
      rw [List.getElem_append_left (by simpa using hk'), List.getElem_map]
    have h1 := h.mid F[k] (List.getElem_mem hk')
    have h2 := (h.steps.mid F[k] (List.getElem_mem hk')).1
    rw [e2]
    exact ⟨by rw [show (mk m F[k]).2 = F[k] from rfl, h2, m2], m1, h1.1, .inl ⟨hk', h1.2⟩⟩
  · have e2 : (stoM m x tick)[k] = mk m z := by
      simp only [e]
      rw [List.getElem_append_right (by simpa using hk')]
      simp
    rw [e2]
    exact ⟨by rw [show (mk m z).2 = z from rfl, h.steps.zlen, m2], m1, h.fin.1, .inr ⟨by omega, rfl, h.fin.2⟩⟩

/-! ### VaultForgets -/
theorem alive_get {l : List Lea} (hv : vlB l = true) {later : Int} (h0 : 0 ≤ later) (h1 : later ≤ 1100000) : alvE l 16 later = 0 ∧ (alvL l 16 later).length = 16 ∧ ∀ c, c < 16 → (alvL l 16 later).getD c 0 = mxA (l.filter (aliB later)) c := by
  have a1 : alvB l 16 later = true := by rw [alv16 hv]; simp; omega
  refine ⟨by simp [alvE, a1], by simp [alvL, a1, aliveL_length], fun c hc => ?_⟩
  rw [alvL, if_pos a1, aliveL_get _ _ _ _ (by simpa using hc)]
theorem Sto.forgets {m : Mem} {x : Lea} {tick : Int} {L F : List (List UInt8)} {z : List UInt8} {after : List Lea} (h : Sto m x tick L F z after) {later : Int} (h1 : tick ≤ later) (h2 : later ≤ 1100000) :
    alvE (loadL m) 16 later = 0 ∧ alvE [x] 16 later = 0 ∧ (alvL (loadL m) 16 later).length = 16 ∧ (alvL [x] 16 later).length = 16 ∧
    ∀ k (hk : k < (stoM m x tick).length), alvE (loadL (stoM m x tick)[k]) 16 later = 0 ∧ (alvL (loadL (stoM m x tick)[k]) 16 later).length = 16 ∧
      ∀ c, c < 16 → (alvL (loadL m) 16 later).getD c 0 ≤ (alvL (loadL (stoM m x tick)[k]) 16 later).getD c 0 ∧
        (k + 1 = (stoM m x tick).length → (alvL (loadL (stoM m x tick)[k]) 16 later).getD c 0 = max ((alvL (loadL m) 16 later).getD c 0) ((alvL [x] 16 later).getD c 0)) := by
  obtain ⟨x1, x2, x3⟩ := sto_arg h.arg
  have hv := (load_ok h.load).2.2.2.2
  have hvx : vlB [x] = true := by
    have := vlB_snoc (l := []) (x := x) (by decide) x1 (fun h => absurd h (by simp)) (by simp)
    simpa using this
  obtain ⟨a1, a2, a3⟩ := alive_get hv (by omega : 0 ≤ later) h2
  obtain ⟨b1, b2, b3⟩ := alive_get hvx (by omega : 0 ≤ later) h2
  refine ⟨a1, b1, a2, b2, fun k hk => ?_⟩
  have hlen := h.ok.2.1
  obtain ⟨k1, k2, k3, k4 | k4⟩ := h.at_ k hk
  · rw [k4.2]
    exact ⟨a1, a2, fun c hc => ⟨Int.le_refl _, fun he => by omega⟩⟩
  · rw [k4.2.2]
    obtain ⟨d1, d2, d3⟩ := alive_get h.valid (by omega : 0 ≤ later) h2
    refine ⟨d1, d2, fun c hc => ?_⟩
    have e : (alvL after 16 later).getD c 0 = max ((alvL (loadL m) 16 later).getD c 0) ((alvL [x] 16 later).getD c 0) := by
      rw [d3 c hc, a3 c hc, b3 c hc, h.alive h1, List.filter_append, mxA_append]
    exact ⟨by rw [e]; omega, fun _ => e⟩

/-! ### VaultSequence, VaultRoom: storing from an empty vault on -/
structure Sq (m : Mem) (all : List Lea) : Prop where
  intro ::
  load : loadE m = 0
  valid : ∀ n, all.length ≤ n → n ≤ 64 → vlB all = true
  none : loadL m = [] ↔ all = []
  last : lastL (loadL m) = lastL all
  sub : (loadL m).Sublist all
  alive : ∀ later : Int, (all ≠ [] → (lastL all).f ≤ later) → (loadL m).filter (aliB later) = all.filter (aliB later)
theorem Sq.step {m : Mem} {all : List Lea} {x : Lea} (h : Sq m all) {tick : Int} (ht : tick ≤ x.f) {L F : List (List UInt8)} {z : List UInt8} {after : List Lea} (hs : Sto m x tick L F z after) (hl : all.length < 64) : Sq (mk m z) (all ++ [x]) := by
  obtain ⟨x1, x2, x3⟩ := sto_arg hs.arg
  have hv := h.valid all.length (Nat.le_refl _) (by omega)
  have hold : oldB all x = false := by
    have ho := hs.old
    unfold oldB at ho ⊢
    rw [h.last] at ho
    by_cases he : all = []
    · subst he; rfl
    · have hne : loadL m ≠ [] := fun e => he (h.none.1 e)
      have e1 : decide (0 < (loadL m).length) = true := decide_eq_true (List.length_pos_iff.2 hne)
      have e2 : decide (0 < all.length) = true := decide_eq_true (List.length_pos_iff.2 he)
      rw [e1] at ho
      rw [e2]; exact ho
  have hvv : vlB (all ++ [x]) = true := follow_snoc (k := 0) hv x1 hold hl
  refine ⟨hs.fin.1, fun _ _ _ => hvv, ?_, ?_, ?_, ?_⟩
  · rw [hs.fin.2]; exact ⟨fun e => absurd e hs.last.1, fun e => absurd e (by simp)⟩
  · rw [hs.fin.2, hs.last.2, lastL_snoc]
  · rw [hs.fin.2]
    rcases hs.kind with e | e <;> rw [e]
    · exact List.Sublist.append h.sub (List.Sublist.refl _)
    · exact List.Sublist.append ((kept_sub (load_ok h.load).2.2.2.2 tick).1.trans h.sub) (List.Sublist.refl _)
  · intro later hla
    rw [lastL_snoc] at hla
    have hle := hla (by simp)
    rw [hs.fin.2, hs.alive (by omega : tick ≤ later), List.filter_append, List.filter_append, h.alive later (fun hne => ?_)]
    have e2 : decide (0 < all.length) = true := decide_eq_true (List.length_pos_iff.2 hne)
    unfold oldB at hold
    rw [e2, Bool.true_and] at hold
    have := (folB_iff _ _).1 (by simpa using hold)
    omega
theorem Sq.begin {m : Mem} (h : loadE m = 0) (h0 : loadL m = []) : Sq m [] :=
  ⟨h, fun _ _ _ => by decide, by simp [h0], by rw [h0], by rw [h0]; exact List.Sublist.refl _, fun _ _ => by rw [h0]⟩
theorem Sq.law {m : Mem} {all : List Lea} (h : Sq m all) (hl : all.length ≤ 64) {later : Int} (h0 : 0 ≤ later) (h1 : later ≤ 1100000) (hla : all ≠ [] → (lastL all).f ≤ later) :
    alvE (loadL m) 16 later = 0 ∧ alvE all 16 later = 0 ∧ alvL (loadL m) 16 later = alvL all 16 later := by
  have v1 := (load_ok h.load).2.2.2.2
  have v2 := h.valid all.length (Nat.le_refl _) hl
  obtain ⟨a1, a2, a3⟩ := alive_get v1 h0 h1
  obtain ⟨b1, b2, b3⟩ := alive_get v2 h0 h1
  refine ⟨a1, b1, ints_ext (by rw [a2, b2]) fun j hj => ?_⟩
  rw [a2] at hj
  rw [a3 j hj, b3 j hj, h.alive later hla]
/-! ### the empty vault -/
theorem fmt_vault : fmtE 512 4 = 0 ∧ loadE (fmtM 512 4) = 0 ∧ loadL (fmtM 512 4) = [] ∧ Cj (fmtM 512 4) [] := by
  have h0 : fmtE 512 4 = 0 := by decide +kernel
  have hc := (fmt_ok h0).1
  have hs : (fmtM 512 4).1 = 512 ∧ (fmtM 512 4).2.length = 2048 := by
    constructor <;> decide +kernel
  obtain ⟨a, b⟩ := load_of (l := []) hs.1 hs.2 hc.1 hc.2.1 (by decide)
  exact ⟨h0, a, b, hc⟩

/-! ### VaultNumbers -/
def mostL (l : List Lea) : Int := if l = [] then 0 else (lastL l).n
def nextE (m : Mem) : Int := if loadE m = 0 then (if loadL m = [] then 0 else if (lastL (loadL m)).n = 1000000 then 10 else 0) else loadE m
def nextN (m : Mem) : Int := if loadE m = 0 then (if loadL m = [] then 1 else if (lastL (loadL m)).n = 1000000 then 0 else (lastL (loadL m)).n + 1) else 0
theorem next_law {m : Mem} (h : loadE m = 0) : (nextE m = 0 ∧ nextN m = mostL (loadL m) + 1) ∨ (nextE m = 10 ∧ mostL (loadL m) = 1000000) := by
  unfold nextE nextN mostL
  simp only [h, if_true]
  by_cases h0 : loadL m = []
  · simp [h0]
  · simp only [h0, if_false]
    by_cases h1 : (lastL (loadL m)).n = 1000000
    · right; simp [h1]
    · left; simp [h1]
theorem most_range {l : List Lea} (hv : vlB l = true) : 0 ≤ mostL l ∧ mostL l ≤ 1000000 := by
  unfold mostL
  split
  · omega
  · rename_i h
    have := (oneB_iff _).1 (vlB_one hv (lastL_mem h))
    omega
theorem Sto.most {m : Mem} {x : Lea} {tick : Int} {L F : List (List UInt8)} {z : List UInt8} {after : List Lea} (h : Sto m x tick L F z after) (k : Nat) (hk : k < (stoM m x tick).length) :
    mostL (loadL (stoM m x tick)[k]) = if k + 1 = (stoM m x tick).length then max (mostL (loadL m)) x.n else mostL (loadL m) := by
  have hlen := h.ok.2.1
  obtain ⟨_, _, _, k4 | k4⟩ := h.at_ k hk
  · rw [k4.2, if_neg (by omega)]
  · rw [k4.2.2, if_pos (by omega)]
    unfold mostL
    rw [if_neg h.last.1, h.last.2]
    have ho := h.old
    obtain ⟨x1, _⟩ := sto_arg h.arg
    have hx := (oneB_iff x).1 x1
    by_cases h0 : loadL m = []
    · rw [if_pos h0]; omega
    · rw [if_neg h0]
      unfold oldB at ho
      rw [decide_eq_true (List.length_pos_iff.2 h0), Bool.true_and] at ho
      have := (folB_iff _ _).1 (by simpa using ho)
      omega

/-! ### VaultAgain -/
theorem Sto.again {m : Mem} {x : Lea} {tick : Int} {L F : List (List UInt8)} {z : List UInt8} {after : List Lea} (h : Sto m x tick L F z after) (k : Nat) (hk : k < (stoM m x tick).length) :
    loadE (lastM (stoM m x tick)[k] (stoM (stoM m x tick)[k] x tick) (stoE (stoM m x tick)[k] x tick)) = 0 ∧
    ((stoE (stoM m x tick)[k] x tick = 10 ∧ (lookC m).gen = 4294967295) ∨
      ((stoE (stoM m x tick)[k] x tick = 0 ∨ stoE (stoM m x tick)[k] x tick = 12) ∧
        loadL (lastM (stoM m x tick)[k] (stoM (stoM m x tick)[k] x tick) (stoE (stoM m x tick)[k] x tick)) ≠ [] ∧
        lastL (loadL (lastM (stoM m x tick)[k] (stoM (stoM m x tick)[k] x tick) (stoE (stoM m x tick)[k] x tick))) = x)) := by
  obtain ⟨e, hl, _⟩ := h.ok
  obtain ⟨k1, k2, k3, k4⟩ := h.at_ k hk
  have hkk : (k < F.length → ∃ y ∈ F, (stoM m x tick)[k] = mk m y) := fun hk' => by
    refine ⟨F[k], List.getElem_mem hk', ?_⟩
    simp only [e]
    rw [List.getElem_append_left (by simpa using hk'), List.getElem_map]
  obtain ⟨t, ht⟩ : ∃ t, t = (stoM m x tick)[k] := ⟨_, rfl⟩
  rw [← ht] at k1 k2 k3 k4 hkk ⊢
  rcases k4 with k4 | k4
  · obtain ⟨y, hy, rfl⟩ := hkk k4.1
    obtain ⟨s1, s2, s3, s4, s5⟩ := h.steps.mid y hy
    obtain ⟨x1, x2, x3⟩ := sto_arg h.arg
    have good : stoE (mk m y) x tick = 0 → loadE (lastM (mk m y) (stoM (mk m y) x tick) (stoE (mk m y) x tick)) = 0 ∧ loadL (lastM (mk m y) (stoM (mk m y) x tick) (stoE (mk m y) x tick)) ≠ [] ∧ lastL (loadL (lastM (mk m y) (stoM (mk m y) x tick) (stoE (mk m y) x tick))) = x := by
      intro h0
      obtain ⟨L', F', z', after', h'⟩ := sto_of h0
      have hz : lastM (mk m y) (stoM (mk m y) x tick) (stoE (mk m y) x tick) = mk (mk m y) z' := by
        unfold lastM
        rw [if_pos h0, h'.ok.1]
        simp
      rw [hz, h'.fin.2]
      exact ⟨h'.fin.1, h'.last⟩
    have hE : stoE (mk m y) x tick = if appE (mk m y) (packL x) = 10 then rewE (mk m y) (keepR (mk m y) x tick) else appE (mk m y) (packL x) := by
      unfold stoE
      rw [if_pos k3, if_pos h.arg, k4.2, h.old]
      rfl
    have hfin : loadE (lastM (mk m y) (stoM (mk m y) x tick) 10) = 0 := by unfold lastM; rw [if_neg (by decide)]; exact k3
    have hrooms : ∀ keep, rewE (mk m y) keep = 0 ∨ rewE (mk m y) keep = 10 ∧ (hf m < room keep + 5 ∨ (lookC m).gen = 4294967295) := fun keep => by
      unfold rewE
      rw [if_pos s2, hf_mk m s1, s5]
      by_cases hc : room keep + 5 ≤ hf m ∧ (lookC m).gen ≠ 4294967295
      · rw [if_pos hc]; exact .inl rfl
      · rw [if_neg hc]
        refine .inr ⟨rfl, ?_⟩
        rcases Nat.lt_or_ge (hf m) (room keep + 5) with h1 | h1
        · exact .inl h1
        · right
          exact Classical.byContradiction fun h2 => hc ⟨h1, h2⟩
    -- what the first call did
    have hroom : (appE m (packL x) = 10 → room (keepR m x tick) + 5 ≤ hf m) ∧ (appE m (packL x) ≠ 10 → (lookC m).fin + 7 + (packL x).length ≤ hf m) := by
      constructor
      · intro h10
        have hs0 : stoE m x tick = 0 := by
          refine Classical.byContradiction fun h0 => ?_
          rw [sto_bad h0] at hk
          simp at hk
        unfold stoE at hs0
        rw [if_pos h.load, if_pos h.arg, h.old] at hs0
        simp only [Bool.false_eq_true, if_false] at hs0
        rw [if_pos h10] at hs0
        exact (rew_steps (load_ok h.load).2.2.1 _ hs0).1
      · intro h10
        have hs0 : stoE m x tick = 0 := by
          refine Classical.byContradiction fun h0 => ?_
          rw [sto_bad h0] at hk
          simp at hk
        unfold stoE at hs0
        rw [if_pos h.load, if_pos h.arg, h.old] at hs0
        simp only [Bool.false_eq_true, if_false] at hs0
        rw [if_neg h10] at hs0
        exact (app_cond (load_ok h.load).2.2.1 _ hs0).2.1
    have hkeep : keepR (mk m y) x tick = keepR m x tick := by unfold keepR; rw [k4.2]
    have hplen := packL_length x
    have happ : appE (mk m y) (packL x) = if (lookC m).fin + 19 ≤ hf m then (if (lookC (mk m y)).clean = true then 0 else rewE (mk m y) ((lookC m).recs ++ [packL x])) else 10 := by
      unfold appE
      rw [if_pos s2, hf_mk m s1, s4, s3, hplen]
      by_cases hc : (lookC m).fin + 19 ≤ hf m
      · rw [if_pos hc, if_pos ⟨by omega, by omega⟩]
      · rw [if_neg hc, if_neg (fun h0 => by omega)]
    have hcase : stoE (mk m y) x tick = 0 ∨ (stoE (mk m y) x tick = 10 ∧ (lookC m).gen = 4294967295) := by
      rw [hE]
      have hrfin : (lookC m).fin = 5 + room (lookC m).recs := by
        obtain ⟨a, l, e', hJ⟩ := Jr.of (load_ok h.load).2.2.1
        rw [hJ.look.2]; exact hJ.facts.2.2.2.2.1
      by_cases hc : (lookC m).fin + 19 ≤ hf m
      · rw [happ, if_pos hc]
        by_cases hcl : (lookC (mk m y)).clean = true
        · rw [if_pos hcl]; simp
        · rw [if_neg hcl]
          rcases hrooms ((lookC m).recs ++ [packL x]) with h0 | ⟨h0, h1⟩
          · rw [h0]; simp
          · have hgen : (lookC m).gen = 4294967295 := by
              rcases h1 with h1 | h1
              · rw [room_append] at h1
                simp only [room, hplen] at h1
                omega
              · exact h1
            rw [h0, if_pos rfl]
            rcases hrooms (keepR (mk m y) x tick) with h2 | ⟨h2, _⟩
            · exact .inl h2
            · exact .inr ⟨h2, hgen⟩
      · rw [happ, if_neg hc, if_pos rfl]
        have h10 : appE m (packL x) = 10 := Classical.byContradiction fun h10 => hc (by have := hroom.2 h10; omega)
        rcases hrooms (keepR (mk m y) x tick) with h2 | ⟨h2, h3⟩
        · exact .inl h2
        · refine .inr ⟨h2, h3.resolve_left fun h4 => ?_⟩
          rw [hkeep] at h4
          have := hroom.1 h10
          omega
    rcases hcase with h0 | ⟨h0, h1⟩
    · obtain ⟨g1, g2, g3⟩ := good h0
      exact ⟨g1, .inr ⟨.inl h0, g2, g3⟩⟩
    · rw [h0]
      exact ⟨hfin, .inl ⟨rfl, h1⟩⟩
  · -- the last memory: the lease is there, the call is refused
    obtain ⟨_, rfl, k6⟩ := k4
    have hold : oldB (loadL (mk m z)) x = true := by
      rw [k6]
      unfold oldB
      rw [h.last.2, decide_eq_true (List.length_pos_iff.2 h.last.1), Bool.true_and]
      have : folB x x = false := by
        refine Bool.eq_false_iff.2 fun hh => ?_
        have := (folB_iff _ _).1 hh
        omega
      rw [this]; rfl
    have h12 : stoE (mk m z) x tick = 12 := by
      unfold stoE
      rw [if_pos k3, if_pos h.arg, if_pos hold]
    have hlst : lastM (mk m z) (stoM (mk m z) x tick) (stoE (mk m z) x tick) = mk m z := by unfold lastM; rw [h12, if_neg (by decide)]
    rw [hlst]
    refine ⟨k3, .inr ⟨.inr h12, ?_, ?_⟩⟩
    · rw [k6]; exact h.last.1
    · rw [k6]; exact h.last.2
end Go.Proofs.YthebojaminploaaGreatDoor
