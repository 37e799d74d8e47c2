/- What clocks count, as plain arithmetic over Int: the closed forms of Shown, Wait and Early, and what the laws say of them. No program. -/
set_option linter.unusedVariables false
namespace Go.Proofs.YthebojaminploaaGreatDoor.Ck

def shownI (t d : Int) : Int := t * (1000000 + d) / 1000000
def waitI (t : Int) : Int := (t * 1000000 + 999799) / 999800
def earlyI (t : Int) : Int := if t = 0 then 0 else (t - 1) * 1000000 / 1000200 + 1
def tkB (n : Int) : Bool := decide (0 ≤ n) && decide (n ≤ 1000000)
def drB (n : Int) : Bool := decide (-200 ≤ n) && decide (n ≤ 200)

theorem tkB_iff (n : Int) : tkB n = true ↔ 0 ≤ n ∧ n ≤ 1000000 := by simp [tkB]
theorem tkB_no (n : Int) : tkB n = false ↔ n < 0 ∨ 1000000 < n := by
  rw [← Bool.not_eq_true, tkB_iff]; omega
theorem drB_iff (n : Int) : drB n = true ↔ -200 ≤ n ∧ n ≤ 200 := by simp [drB]
theorem drB_no (n : Int) : drB n = false ↔ n < -200 ∨ 200 < n := by
  rw [← Bool.not_eq_true, drB_iff]; omega

theorem wait_iff (t n : Int) (ht : 0 ≤ t) (hn : 0 ≤ n) : t ≤ n * 999800 / 1000000 ↔ waitI t ≤ n := by
  unfold waitI; omega
theorem early_iff (t n : Int) (ht : 0 ≤ t) (hn : 0 ≤ n) : t ≤ (n * 1000200 + 999999) / 1000000 ↔ earlyI t ≤ n := by
  unfold earlyI; split <;> omega
theorem wait_bd (t : Int) (ht : 0 ≤ t) (h : t ≤ 1000000) : 0 ≤ waitI t ∧ waitI t ≤ 2 * t + 2 ∧ t ≤ waitI t := by
  unfold waitI; omega
theorem early_bd (t : Int) (ht : 0 ≤ t) (h : t ≤ 1000000) : 0 ≤ earlyI t ∧ earlyI t ≤ 2 * t + 2 ∧ earlyI t ≤ t := by
  unfold earlyI; split <;> omega

/-- the product, with its bounds (what a drift does to some ticks) -/
theorem mul_bd (t d : Int) (h0 : 0 ≤ t) (h1 : t ≤ 1000000) (d0 : -200 ≤ d) (d1 : d ≤ 200) :
    t * (1000000 + d) = t * 1000000 + t * d ∧ -(200 * t) ≤ t * d ∧ t * d ≤ 200 * t := by
  refine ⟨by rw [Int.mul_add], ?_, ?_⟩
  · have := Int.mul_le_mul_of_nonneg_left d0 h0
    have e : t * -200 = -(200 * t) := by omega
    omega
  · have := Int.mul_le_mul_of_nonneg_left d1 h0
    omega
theorem shown_bd (t d : Int) (h0 : 0 ≤ t) (h1 : t ≤ 1000000) (d0 : -200 ≤ d) (d1 : d ≤ 200) :
    0 ≤ shownI t d ∧ shownI t d ≤ 1000200 := by
  obtain ⟨e, a, b⟩ := mul_bd t d h0 h1 d0 d1
  unfold shownI; rw [e]; omega
end Go.Proofs.YthebojaminploaaGreatDoor.Ck

namespace Go.Proofs.YthebojaminploaaGreatDoor.Ck
/-! What the functions answer at every argument. -/
def shV (t d : Int) : Int := if tkB t && drB d then shownI t d else 0
def shE (t d : Int) : Int := if tkB t && drB d then 0 else 1
def wtV (t : Int) : Int := if tkB t then waitI t else 0
def erV (t : Int) : Int := if tkB t then earlyI t else 0
def tkE (t : Int) : Int := if tkB t then 0 else 1

theorem sh_in {t d : Int} (h0 : 0 ≤ t) (h1 : t ≤ 1000000) (d0 : -200 ≤ d) (d1 : d ≤ 200) : shV t d = shownI t d ∧ shE t d = 0 := by
  have a : tkB t = true := (tkB_iff t).2 ⟨h0, h1⟩
  have b : drB d = true := (drB_iff d).2 ⟨d0, d1⟩
  simp [shV, shE, a, b]
theorem sh_out {t d : Int} (h : t < 0 ∨ 1000000 < t ∨ d < -200 ∨ 200 < d) : shV t d = 0 ∧ shE t d = 1 := by
  by_cases a : tkB t = true
  · rw [tkB_iff] at a
    have b : drB d = false := (drB_no d).2 (by omega)
    simp [shV, shE, b]
  · have a' : tkB t = false := by simpa using a
    simp [shV, shE, a']
theorem tk_in {t : Int} (h0 : 0 ≤ t) (h1 : t ≤ 1000000) : wtV t = waitI t ∧ erV t = earlyI t ∧ tkE t = 0 := by
  have a : tkB t = true := (tkB_iff t).2 ⟨h0, h1⟩
  simp [wtV, erV, tkE, a]
theorem tk_out {t : Int} (h : t < 0 ∨ 1000000 < t) : wtV t = 0 ∧ erV t = 0 ∧ tkE t = 1 := by
  have a : tkB t = false := (tkB_no t).2 h
  simp [wtV, erV, tkE, a]
end Go.Proofs.YthebojaminploaaGreatDoor.Ck

/- Leases as plain data: which are valid, what is granted, alive and left, and what the laws say of that. No program. -/
set_option linter.unusedVariables false
namespace Go.Proofs.YthebojaminploaaGreatDoor
open Ck

/-- a lease: number, charger, amperes, from, ticks -/
structure Lea where
  n : Int
  c : Int
  a : Int
  f : Int
  t : Int
def l0 : Lea := ⟨0, 0, 0, 0, 0⟩
def eqL (x y : Lea) : Bool := x.n == y.n && x.c == y.c && x.a == y.a && x.f == y.f && x.t == y.t
theorem eqL_iff (x y : Lea) : eqL x y = true ↔ x = y := by
  cases x; cases y; simp [eqL, and_assoc]
def eqLs : List Lea → List Lea → Bool
  | [], [] => true
  | x :: l, y :: m => eqL x y && eqLs l m
  | _, _ => false
theorem eqLs_iff : ∀ (l m : List Lea), eqLs l m = true ↔ l = m
  | [], [] => by simp [eqLs]
  | [], _ :: _ => by simp [eqLs]
  | _ :: _, [] => by simp [eqLs]
  | x :: l, y :: m => by simp [eqLs, eqL_iff, eqLs_iff l m]

def oneB (x : Lea) : Bool := decide (1 ≤ x.n ∧ x.n ≤ 1000000 ∧ 0 ≤ x.c ∧ x.c ≤ 15 ∧ 0 ≤ x.a ∧ x.a ≤ 80 ∧ 0 ≤ x.f ∧ x.f ≤ 1000000 ∧ 1 ≤ x.t ∧ x.t ≤ 1000)
theorem oneB_iff (x : Lea) : oneB x = true ↔ 1 ≤ x.n ∧ x.n ≤ 1000000 ∧ 0 ≤ x.c ∧ x.c ≤ 15 ∧ 0 ≤ x.a ∧ x.a ≤ 80 ∧ 0 ≤ x.f ∧ x.f ≤ 1000000 ∧ 1 ≤ x.t ∧ x.t ≤ 1000 := by simp [oneB]
def folB (y x : Lea) : Bool := decide (y.n < x.n ∧ y.f ≤ x.f)
theorem folB_iff (y x : Lea) : folB y x = true ↔ y.n < x.n ∧ y.f ≤ x.f := by simp [folB]
/-- the lease at place i is valid, and follows the one before it -/
def okAt (l : List Lea) (i : Nat) : Bool := oneB (l.getD i l0) && (i == 0 || folB (l.getD (i - 1) l0) (l.getD i l0))
def vlB (l : List Lea) : Bool := decide (l.length ≤ 64) && (List.range l.length).all (okAt l)

def endI (x : Lea) : Int := x.f + 10 + waitI x.t
/-- may be alive in a tick -/
def aliB (tick : Int) (x : Lea) : Bool := decide (x.f ≤ tick ∧ tick < endI x)
theorem aliB_iff (tick : Int) (x : Lea) : aliB tick x = true ↔ x.f ≤ tick ∧ tick < x.f + 10 + waitI x.t := by unfold aliB; rw [decide_eq_true_eq]; rfl
def lftB (tick : Int) (x : Lea) : Bool := decide (tick < endI x)
def stepA (o : List Int) (x : Lea) : List Int := o.set x.c.toNat (max (o.getD x.c.toNat 0) x.a)
def aliveL (l : List Lea) (n tick : Int) : List Int := (l.filter (aliB tick)).foldl stepA (List.replicate n.toNat 0)

def alvB (l : List Lea) (n tick : Int) : Bool := vlB l && decide (0 ≤ n ∧ n ≤ 16 ∧ 0 ≤ tick ∧ tick ≤ 1100000) && l.all fun x => decide (x.c < n)
def alvE (l : List Lea) (n tick : Int) : Int := if alvB l n tick then 0 else 1
def alvL (l : List Lea) (n tick : Int) : List Int := if alvB l n tick then aliveL l n tick else []
def expB (l : List Lea) (tick : Int) : Bool := vlB l && decide (0 ≤ tick ∧ tick ≤ 1100000)
def expE (l : List Lea) (tick : Int) : Int := if expB l tick then 0 else 1
def expL (l : List Lea) (tick : Int) : List Lea := if expB l tick then l.filter (lftB tick) else []
def graE (l : List Lea) (x : Lea) : Int :=
  if vlB l && oneB x then (if decide (0 < l.length) && !folB (l.getD (l.length - 1) l0) x then 12 else if l.length = 64 then 10 else 0) else 1
def graL (l : List Lea) (x : Lea) : List Lea := if graE l x = 0 then l ++ [x] else []

/-! ### valid leases -/
theorem getD_of {l : List Lea} {i : Nat} (h : i < l.length) : l.getD i l0 = l[i] := by rw [List.getD_eq_getElem?_getD, List.getElem?_eq_getElem h]; rfl
theorem getD_app {l m : List Lea} {i : Nat} (h : i < l.length) : (l ++ m).getD i l0 = l.getD i l0 := by
  rw [List.getD_eq_getElem?_getD, List.getElem?_append_left h, ← List.getD_eq_getElem?_getD]
theorem vlB_at (l : List Lea) : vlB l = true ↔ l.length ≤ 64 ∧ ∀ i, i < l.length → okAt l i = true := by
  simp [vlB]
theorem okAt_iff (l : List Lea) (i : Nat) (h : i < l.length) : okAt l i = true ↔ oneB l[i] = true ∧ (0 < i → folB (l.getD (i - 1) l0) l[i] = true) := by
  unfold okAt
  rw [getD_of h]
  simp only [Bool.and_eq_true, Bool.or_eq_true, beq_iff_eq]
  constructor
  · rintro ⟨a, b⟩
    exact ⟨a, fun h => b.resolve_left (by omega)⟩
  · rintro ⟨a, b⟩
    exact ⟨a, by rcases Nat.eq_zero_or_pos i with h | h; exact .inl h; exact .inr (b h)⟩
theorem vlB_iff (l : List Lea) : vlB l = true ↔ l.length ≤ 64 ∧ (∀ x ∈ l, oneB x = true) ∧ l.Pairwise (fun y x => folB y x = true) := by
  rw [vlB_at]
  constructor
  · rintro ⟨h1, h2⟩
    refine ⟨h1, fun x hx => ?_, ?_⟩
    · obtain ⟨i, hi, rfl⟩ := List.getElem_of_mem hx
      exact ((okAt_iff l i hi).1 (h2 i hi)).1
    · rw [List.pairwise_iff_getElem]
      intro i j hi hj hij
      induction j with
      | zero => omega
      | succ j ih =>
        have h3 := ((okAt_iff l (j + 1) hj).1 (h2 _ hj)).2 (by omega)
        rw [Nat.add_sub_cancel, getD_of (by omega : j < l.length), folB_iff] at h3
        by_cases e : i = j
        · subst e; exact (folB_iff _ _).2 h3
        · have h4 := (folB_iff _ _).1 (ih (by omega) (by omega))
          exact (folB_iff _ _).2 ⟨by omega, by omega⟩
  · rintro ⟨h1, h2, h3⟩
    refine ⟨h1, fun i hi => (okAt_iff l i hi).2 ⟨h2 _ (List.getElem_mem hi), fun h0 => ?_⟩⟩
    rw [getD_of (by omega : i - 1 < l.length)]
    rw [List.pairwise_iff_getElem] at h3
    exact h3 (i - 1) i (by omega) hi (by omega)
theorem vlB_sub {l m : List Lea} (h : vlB l = true) (hs : m.Sublist l) : vlB m = true := by
  rw [vlB_iff] at h ⊢
  exact ⟨Nat.le_trans hs.length_le h.1, fun x hx => h.2.1 x (hs.subset hx), h.2.2.sublist hs⟩
theorem vlB_one {l : List Lea} (h : vlB l = true) {x : Lea} (hx : x ∈ l) : oneB x = true := ((vlB_iff l).1 h).2.1 x hx
theorem vlB_snoc {l : List Lea} {x : Lea} (h : vlB l = true) (hx : oneB x = true) (hf : 0 < l.length → folB (l.getD (l.length - 1) l0) x = true) (hl : l.length < 64) : vlB (l ++ [x]) = true := by
  rw [vlB_at] at h ⊢
  refine ⟨by simp; omega, fun i hi => ?_⟩
  rw [okAt_iff _ _ hi]
  rcases Nat.lt_or_ge i l.length with h' | h'
  · have := (okAt_iff l i h').1 (h.2 i h')
    rw [List.getElem_append_left h']
    refine ⟨this.1, fun h0 => ?_⟩
    rw [getD_app (by omega)]
    exact this.2 h0
  · have e : i = l.length := by simp at hi; omega
    subst e
    rw [List.getElem_append_right (Nat.le_refl _)]
    simp only [Nat.sub_self, List.getElem_cons_zero]
    refine ⟨hx, fun h0 => ?_⟩
    rw [getD_app (by omega)]
    exact hf h0

/-! ### what is alive -/
def mxF (c : Nat) (m : Int) (x : Lea) : Int := if x.c.toNat = c then max m x.a else m
theorem stepA_length (o : List Int) (x : Lea) : (stepA o x).length = o.length := by simp [stepA]
theorem foldA_length (l : List Lea) : ∀ o : List Int, (l.foldl stepA o).length = o.length := by
  induction l with
  | nil => intro o; rfl
  | cons x l ih => intro o; rw [List.foldl_cons, ih, stepA_length]
theorem stepA_get (o : List Int) (x : Lea) (c : Nat) (hc : c < o.length) : (stepA o x).getD c 0 = mxF c (o.getD c 0) x := by
  unfold stepA mxF
  by_cases h : x.c.toNat = c
  · subst h
    rw [if_pos rfl, List.getD_eq_getElem?_getD, List.getElem?_set_self hc]; rfl
  · rw [if_neg h, List.getD_eq_getElem?_getD, List.getElem?_set_ne h, ← List.getD_eq_getElem?_getD]
theorem foldA_get (l : List Lea) (c : Nat) : ∀ (o : List Int), c < o.length → (l.foldl stepA o).getD c 0 = l.foldl (mxF c) (o.getD c 0) := by
  induction l with
  | nil => intro o h; rfl
  | cons x l ih => intro o h; rw [List.foldl_cons, List.foldl_cons, ih _ (by rw [stepA_length]; exact h), stepA_get _ _ _ h]
def mxA (l : List Lea) (c : Nat) : Int := l.foldl (mxF c) 0
theorem foldM (l : List Lea) (c : Nat) : ∀ m : Int, 0 ≤ m → l.foldl (mxF c) m = max m (mxA l c) := by
  induction l with
  | nil => intro m h; simp [mxA]; omega
  | cons x l ih =>
    intro m h
    unfold mxA
    rw [List.foldl_cons, List.foldl_cons]
    by_cases hx : x.c.toNat = c
    · have e1 : mxF c m x = max m x.a := by simp [mxF, hx]
      have e2 : mxF c 0 x = max 0 x.a := by simp [mxF, hx]
      rw [e1, e2, ih _ (by omega), ih _ (by omega)]; omega
    · have e1 : mxF c m x = m := by simp [mxF, hx]
      have e2 : mxF c 0 x = 0 := by simp [mxF, hx]
      rw [e1, e2, ih _ h]; rfl
theorem mxA_nonneg (l : List Lea) (c : Nat) : 0 ≤ mxA l c := by
  have := foldM l c 0 (by omega)
  unfold mxA at *; omega
theorem mxA_append (l m : List Lea) (c : Nat) : mxA (l ++ m) c = max (mxA l c) (mxA m c) := by
  unfold mxA; rw [List.foldl_append]; exact foldM m c _ (mxA_nonneg l c)
theorem mxA_one (x : Lea) (c : Nat) : mxA [x] c = if x.c.toNat = c then max 0 x.a else 0 := rfl
theorem mxA_mem {l : List Lea} {x : Lea} (h : x ∈ l) : x.a ≤ mxA l x.c.toNat := by
  obtain ⟨a, b, rfl⟩ := List.append_of_mem h
  rw [mxA_append, show x :: b = [x] ++ b from rfl, mxA_append, mxA_one, if_pos rfl]; omega
theorem aliveL_length (l : List Lea) (n tick : Int) : (aliveL l n tick).length = n.toNat := by rw [aliveL, foldA_length]; simp
theorem aliveL_get (l : List Lea) (n tick : Int) (c : Nat) (hc : c < n.toNat) : (aliveL l n tick).getD c 0 = mxA (l.filter (aliB tick)) c := by
  rw [aliveL, foldA_get _ _ _ (by simpa using hc), mxA]
  congr 1
  simp [List.getD_eq_getElem?_getD, hc]
theorem ints_ext {a b : List Int} (hl : a.length = b.length) (h : ∀ j, j < a.length → a.getD j 0 = b.getD j 0) : a = b := by
  apply List.ext_getElem hl
  intro j h1 h2
  have := h j h1
  rwa [List.getD_eq_getElem?_getD, List.getD_eq_getElem?_getD, List.getElem?_eq_getElem h1, List.getElem?_eq_getElem h2] at this

/-- what the law LeaseExpiring says -/
theorem exp_alive (l : List Lea) (tick later : Int) (h : tick ≤ later) : (l.filter (lftB tick)).filter (aliB later) = l.filter (aliB later) := by
  rw [List.filter_filter]
  congr 1
  funext x
  simp only [aliB, lftB]
  by_cases h1 : x.f ≤ later ∧ later < endI x
  · simp [h1]; omega
  · simp [h1]
theorem all16 {l : List Lea} (h : vlB l = true) : (l.all fun x => decide (x.c < 16)) = true := by
  simp only [List.all_eq_true, decide_eq_true_eq]
  intro x hx
  have := (oneB_iff x).1 (vlB_one h hx)
  omega
theorem alv16 {l : List Lea} (h : vlB l = true) (tick : Int) : alvB l 16 tick = decide (0 ≤ tick ∧ tick ≤ 1100000) := by
  simp [alvB, h, all16 h]
theorem expiring {l : List Lea} {tick later : Int} (hv : vlB l = true) (h0 : 0 ≤ tick) (h1 : tick ≤ later) (h2 : later ≤ 1100000) :
    expE l tick = 0 ∧ alvE l 16 later = 0 ∧ alvE (expL l tick) 16 later = 0 ∧ (expL l tick).length ≤ l.length ∧ alvL l 16 later = alvL (expL l tick) 16 later := by
  have e : expB l tick = true := by simp [expB, hv]; omega
  have e2 : expL l tick = l.filter (lftB tick) := by simp [expL, e]
  have hv2 : vlB (expL l tick) = true := by rw [e2]; exact vlB_sub hv List.filter_sublist
  have a1 : alvB l 16 later = true := by rw [alv16 hv]; simp; omega
  have a2 : alvB (expL l tick) 16 later = true := by rw [alv16 hv2]; simp; omega
  refine ⟨by simp [expE, e], by simp [alvE, a1], by simp [alvE, a2], by rw [e2]; exact List.length_filter_le _ _, ?_⟩
  rw [alvL, alvL, if_pos a1, if_pos a2, aliveL, aliveL, e2, exp_alive _ _ _ h1]

/-- what the law LeaseGrants says -/
theorem graE_ok {l : List Lea} {x : Lea} (h : graE l x = 0) : vlB l = true ∧ oneB x = true ∧ (0 < l.length → folB (l.getD (l.length - 1) l0) x = true) ∧ l.length < 64 := by
  unfold graE at h
  split at h
  · rename_i hv
    simp only [Bool.and_eq_true] at hv
    split at h
    · cases h
    · rename_i hf
      split at h
      · cases h
      · rename_i hl
        have := ((vlB_at l).1 hv.1).1
        refine ⟨hv.1, hv.2, fun h0 => ?_, by omega⟩
        simp only [Bool.and_eq_true, decide_eq_true_eq, Bool.not_eq_true', not_and, Bool.not_eq_false] at hf
        exact hf h0
  · cases h
theorem granted {l : List Lea} {x : Lea} (h : graE l x = 0) : graL l x = l ++ [x] ∧ vlB l = true ∧ vlB (l ++ [x]) = true := by
  obtain ⟨a, b, c, d⟩ := graE_ok h
  exact ⟨by simp [graL, h], a, vlB_snoc a b c d⟩
theorem granted_alive {l : List Lea} {x : Lea} (h : graE l x = 0) (tick : Int) : alvE l 16 tick = alvE (l ++ [x]) 16 tick ∧ (alvL l 16 tick).length = (alvL (l ++ [x]) 16 tick).length ∧
    ∀ i, i < (alvL l 16 tick).length → (alvL l 16 tick).getD i 0 ≤ (alvL (l ++ [x]) 16 tick).getD i 0 ∧
      ((alvL l 16 tick).getD i 0 < (alvL (l ++ [x]) 16 tick).getD i 0 → (i : Int) = x.c ∧ (alvL (l ++ [x]) 16 tick).getD i 0 = x.a) := by
  obtain ⟨_, hv, hv2⟩ := granted h
  have hx := (oneB_iff x).1 (graE_ok h).2.1
  have e : alvB l 16 tick = alvB (l ++ [x]) 16 tick := by rw [alv16 hv, alv16 hv2]
  refine ⟨by simp [alvE, e], ?_, ?_⟩
  · simp only [alvL, e]; split <;> simp [aliveL_length]
  · intro i hi
    simp only [alvL, ← e] at hi ⊢
    split at hi
    · rename_i h1
      rw [if_pos h1, if_pos h1]
      rw [aliveL_length] at hi
      rw [aliveL_get _ _ _ _ hi, aliveL_get _ _ _ _ hi, List.filter_append, mxA_append]
      have h0 := mxA_nonneg (l.filter (aliB tick)) i
      by_cases ha : aliB tick x = true
      · rw [List.filter_cons_of_pos ha, List.filter_nil, mxA_one]
        split
        · refine ⟨by omega, fun h => ⟨by omega, by omega⟩⟩
        · refine ⟨by omega, fun h => by omega⟩
      · rw [List.filter_cons_of_neg ha, List.filter_nil, show mxA [] i = 0 from rfl]
        refine ⟨by omega, fun h => by omega⟩
    · cases hi

/-- what the law LeaseEnds says -/
theorem wait_mono {a b : Int} (h : a ≤ b) : waitI a ≤ waitI b := by unfold waitI; omega
theorem last_from {l : List Lea} (hv : vlB l = true) (h0 : 0 < l.length) {x : Lea} (hx : x ∈ l) : x.f ≤ (l.getD (l.length - 1) l0).f := by
  obtain ⟨_, _, h3⟩ := (vlB_iff l).1 hv
  rw [getD_of (by omega : l.length - 1 < l.length)]
  obtain ⟨i, hi, rfl⟩ := List.getElem_of_mem hx
  by_cases e : i = l.length - 1
  · subst e; exact Int.le_refl _
  · rw [List.pairwise_iff_getElem] at h3
    exact ((folB_iff _ _).1 (h3 i (l.length - 1) hi (by omega) (by omega))).2
theorem ended {l : List Lea} (hv : vlB l = true) (h0 : 0 < l.length) {tick : Int} (ht : (l.getD (l.length - 1) l0).f + 10 + waitI 1000 ≤ tick) (h1 : tick ≤ 1100000) :
    alvE l 16 tick = 0 ∧ expE l tick = 0 ∧ expL l tick = [] ∧ alvL l 16 tick = List.replicate 16 0 := by
  have hl := (oneB_iff _).1 (vlB_one hv (by rw [getD_of (by omega : l.length - 1 < l.length)]; exact List.getElem_mem _ : l.getD (l.length - 1) l0 ∈ l))
  have hw : waitI 1000 = 1001 := by decide
  have t0 : 0 ≤ tick := by omega
  have hno : ∀ x ∈ l, endI x ≤ tick := fun x hx => by
    have a := last_from hv h0 hx
    have b := wait_mono ((oneB_iff x).1 (vlB_one hv hx)).2.2.2.2.2.2.2.2.2
    unfold endI; omega
  have e : expB l tick = true := by simp [expB, hv]; omega
  have a1 : alvB l 16 tick = true := by rw [alv16 hv]; simp; omega
  have f1 : l.filter (lftB tick) = [] := by
    rw [List.filter_eq_nil_iff]
    intro x hx
    have := hno x hx
    simp [lftB]; omega
  have f2 : l.filter (aliB tick) = [] := by
    rw [List.filter_eq_nil_iff]
    intro x hx
    have := hno x hx
    simp [aliB]; omega
  refine ⟨by simp [alvE, a1], by simp [expE, e], by simp [expL, e, f1], ?_⟩
  rw [alvL, if_pos a1, aliveL, f2]; rfl

/-- what the law LeaseParts says -/
theorem parts {l : List Lea} (hv : vlB l = true) (k : Nat) (tick : Int) : alvE l 16 tick = alvE (l.take k) 16 tick ∧ alvE l 16 tick = alvE (l.drop k) 16 tick ∧
    (alvL l 16 tick).length = (alvL (l.take k) 16 tick).length ∧ (alvL l 16 tick).length = (alvL (l.drop k) 16 tick).length ∧
    ∀ i, i < (alvL l 16 tick).length → (alvL l 16 tick).getD i 0 = max ((alvL (l.take k) 16 tick).getD i 0) ((alvL (l.drop k) 16 tick).getD i 0) := by
  have h1 := vlB_sub hv (List.take_sublist k l)
  have h2 := vlB_sub hv (List.drop_sublist k l)
  have e1 : alvB l 16 tick = alvB (l.take k) 16 tick := by rw [alv16 hv, alv16 h1]
  have e2 : alvB l 16 tick = alvB (l.drop k) 16 tick := by rw [alv16 hv, alv16 h2]
  refine ⟨by simp [alvE, e1], by simp [alvE, e2], ?_, ?_, ?_⟩
  · simp only [alvL, ← e1]; split <;> simp [aliveL_length]
  · simp only [alvL, ← e2]; split <;> simp [aliveL_length]
  · intro i hi
    simp only [alvL, ← e1, ← e2] at hi ⊢
    split at hi
    · rename_i h
      rw [aliveL_length] at hi
      rw [if_pos h, if_pos h, if_pos h, aliveL_get _ _ _ _ hi, aliveL_get _ _ _ _ hi, aliveL_get _ _ _ _ hi, ← mxA_append, ← List.filter_append, List.take_append_drop]
    · cases hi

/-- what the law LeaseLonger says -/
def longer (x : Lea) (da dt : Int) : Lea := { x with a := min 80 (x.a + da), t := min 1000 (x.t + dt) }
theorem vlB_longer {l : List Lea} (hv : vlB l = true) {i : Nat} (hi : i < l.length) {da dt : Int} (h1 : 0 ≤ da) (h2 : 0 ≤ dt) : vlB (l.set i (longer l[i] da dt)) = true := by
  have ho := (oneB_iff _).1 (vlB_one hv (List.getElem_mem hi))
  have key : ∀ j, j < l.length → oneB (l.getD j l0) = true → oneB ((l.set i (longer l[i] da dt)).getD j l0) = true ∧ ((l.set i (longer l[i] da dt)).getD j l0).n = (l.getD j l0).n ∧ ((l.set i (longer l[i] da dt)).getD j l0).f = (l.getD j l0).f := by
    intro j hj h
    by_cases e : j = i
    · subst e
      rw [List.getD_eq_getElem?_getD, List.getElem?_set_self hj, Option.getD_some, getD_of hj]
      refine ⟨(oneB_iff _).2 ?_, rfl, rfl⟩
      simp only [longer]; omega
    · rw [List.getD_eq_getElem?_getD, List.getElem?_set_ne (Ne.symm e), ← List.getD_eq_getElem?_getD]
      exact ⟨h, rfl, rfl⟩
  rw [vlB_at] at hv ⊢
  refine ⟨by simpa using hv.1, fun j hj => ?_⟩
  have hj' : j < l.length := by simpa using hj
  have h := hv.2 j hj'
  unfold okAt at h ⊢
  simp only [Bool.and_eq_true, Bool.or_eq_true, beq_iff_eq, folB_iff] at h ⊢
  obtain ⟨k1, k2, k3⟩ := key j hj' h.1
  refine ⟨k1, ?_⟩
  rcases h.2 with h0 | h0
  · exact .inl h0
  · by_cases hz : j = 0
    · exact .inl hz
    · have hb := hv.2 (j - 1) (by omega)
      unfold okAt at hb
      simp only [Bool.and_eq_true] at hb
      obtain ⟨m1, m2, m3⟩ := key (j - 1) (by omega) hb.1
      exact .inr ⟨by omega, by omega⟩
theorem longer_alive {l : List Lea} (hv : vlB l = true) {i : Nat} (hi : i < l.length) {da dt : Int} (h1 : 0 ≤ da) (h2 : 0 ≤ dt) (tick : Int) :
    alvE l 16 tick = alvE (l.set i (longer l[i] da dt)) 16 tick ∧ (alvL l 16 tick).length = (alvL (l.set i (longer l[i] da dt)) 16 tick).length ∧
    ∀ c, c < (alvL l 16 tick).length → (alvL l 16 tick).getD c 0 ≤ (alvL (l.set i (longer l[i] da dt)) 16 tick).getD c 0 := by
  have hv2 := vlB_longer hv hi h1 h2
  have ho := (oneB_iff _).1 (vlB_one hv (List.getElem_mem hi))
  have e : alvB l 16 tick = alvB (l.set i (longer l[i] da dt)) 16 tick := by rw [alv16 hv, alv16 hv2]
  refine ⟨by simp [alvE, e], ?_, ?_⟩
  · simp only [alvL, e]; split <;> simp [aliveL_length]
  · intro c hc
    simp only [alvL, ← e] at hc ⊢
    split at hc
    · rename_i h
      rw [if_pos h, if_pos h]
      rw [aliveL_length] at hc
      rw [aliveL_get _ _ _ _ hc, aliveL_get _ _ _ _ hc]
      have hs : l.set i (longer l[i] da dt) = l.take i ++ ([longer l[i] da dt] ++ l.drop (i + 1)) := by rw [List.set_eq_take_append_cons_drop, if_pos hi]; rfl
      have hl : l = l.take i ++ ([l[i]] ++ l.drop (i + 1)) := by
        rw [List.singleton_append, List.getElem_cons_drop, List.take_append_drop]
      rw [hs]
      conv => lhs; rw [hl]
      simp only [List.filter_append, mxA_append]
      have key : mxA (([l[i]] : List Lea).filter (aliB tick)) c ≤ mxA (([longer l[i] da dt] : List Lea).filter (aliB tick)) c := by
        by_cases ha : aliB tick l[i] = true
        · have hb : aliB tick (longer l[i] da dt) = true := by
            have w := wait_mono (show l[i].t ≤ (longer l[i] da dt).t by simp only [longer]; omega)
            rw [aliB_iff] at ha ⊢
            exact ⟨ha.1, by have : (longer l[i] da dt).f = l[i].f := rfl; omega⟩
          rw [List.filter_cons_of_pos ha, List.filter_cons_of_pos hb, List.filter_nil, mxA_one, mxA_one]
          simp only [longer]
          split <;> omega
        · rw [List.filter_cons_of_neg ha]
          exact mxA_nonneg _ _
      omega
    · cases hc

/-- what the law LeaseTruth says -/
theorem truth {l : List Lea} (hv : vlB l = true) {x : Lea} (hx : x ∈ l) {late drift tick : Int} (h0 : 0 ≤ late) (h1 : late ≤ 10) (h2 : x.f + late ≤ tick) (h3 : tick ≤ 1100000) (d0 : -200 ≤ drift) (d1 : drift ≤ 200)
    (hs : shownI (tick - (x.f + late)) drift < x.t) : x.a ≤ (alvL l 16 tick).getD x.c.toNat 0 := by
  have ho := (oneB_iff x).1 (vlB_one hv hx)
  have a1 : alvB l 16 tick = true := by rw [alv16 hv]; simp; omega
  rw [alvL, if_pos a1, aliveL_get _ _ _ _ (by omega)]
  apply mxA_mem
  rw [List.mem_filter]
  refine ⟨hx, ?_⟩
  rw [aliB_iff]
  refine ⟨by omega, ?_⟩
  refine Int.not_le.1 fun hge => ?_
  have hw := (wait_iff x.t (tick - (x.f + late)) (by omega) (by omega)).2 (by omega)
  have hm : (tick - (x.f + late)) * 999800 ≤ (tick - (x.f + late)) * (1000000 + drift) := Int.mul_le_mul_of_nonneg_left (by omega) (by omega)
  unfold shownI at hs
  have := Int.ediv_le_ediv (a := (tick - (x.f + late)) * 999800) (b := (tick - (x.f + late)) * (1000000 + drift)) (c := 1000000) (by omega) hm
  omega
end Go.Proofs.YthebojaminploaaGreatDoor
