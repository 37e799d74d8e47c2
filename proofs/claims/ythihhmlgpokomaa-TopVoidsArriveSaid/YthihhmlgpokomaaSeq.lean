/- A range over a function whose iterator writes memory of its own between two rounds: what the two sides own is told apart by a set of blocks ('Pv': the iterator's). No program. -/
import Derived.RangeFuncNested
import Derived.RangeFuncBound
import Derived.RangeFuncCalls
import Derived.RangeFuncLeaves
import Derived.Deep.Draws
set_option linter.unusedVariables false
namespace Go.Proofs.Ythihhmlgpokomaa
open Go.RowKit

/-- what lay outside the set lies as it lay -/
structure SameOut (Pv : Nat → Prop) (W W' : World) : Prop where
  os : W'.os = W.os
  tape : W'.tape = W.tape
  output : W'.output = W.output
  size : W.heap.size ≤ W'.heap.size
  block : ∀ k, k < W.heap.size → ¬ Pv k → W'.heap[k]? = W.heap[k]?

/-- what lay in the set lies as it lay -/
structure SameIn (Pv : Nat → Prop) (W W' : World) : Prop where
  size : W.heap.size ≤ W'.heap.size
  block : ∀ k, k < W.heap.size → Pv k → W'.heap[k]? = W.heap[k]?

theorem SameOut.refl (Pv : Nat → Prop) (W : World) : SameOut Pv W W := ⟨rfl, rfl, rfl, Nat.le_refl _, fun _ _ _ => rfl⟩
theorem SameOut.trans {Pv : Nat → Prop} {A B C : World} (h : SameOut Pv A B) (k : SameOut Pv B C) : SameOut Pv A C :=
  ⟨k.os.trans h.os, k.tape.trans h.tape, k.output.trans h.output, Nat.le_trans h.size k.size, fun i hi hp => (k.block i (Nat.lt_of_lt_of_le hi h.size) hp).trans (h.block i hi hp)⟩
theorem SameOut.alloc (Pv : Nat → Prop) (W : World) (o : Obj) : SameOut Pv W (W.alloc o) := ⟨rfl, rfl, rfl, by simp, fun k hk _ => Below.heap_alloc W o k hk⟩
theorem SameOut.drew (Pv : Nat → Prop) (W : World) : SameOut Pv W W.drew := ⟨rfl, rfl, rfl, Nat.le_refl _, fun _ _ _ => rfl⟩
theorem SameOut.drewN (Pv : Nat → Prop) (W : World) (n : Nat) : SameOut Pv W (W.drewN n) := ⟨rfl, rfl, rfl, Nat.le_refl _, fun _ _ _ => rfl⟩
theorem SameOut.setCell {Pv : Nat → Prop} (W : World) {a : Addr} (h : Pv a.block) (v : Value) : SameOut Pv W (W.setCell a v) :=
  ⟨rfl, rfl, rfl, by simp [World.setCell], fun k _ hp => Below.heap_setCell W a v k (fun e => hp (e ▸ h))⟩
theorem SameOut.putObj {Pv : Nat → Prop} (W : World) {k : Nat} (h : Pv k) (o : Obj) : SameOut Pv W (W.putObj k o) :=
  ⟨rfl, rfl, rfl, by simp, fun i _ hp => World.putObj_heap_other (fun e => hp (e ▸ h))⟩
theorem SameOut.of_below {Pv : Nat → Prop} {W W' : World} (h : Below W.heap.size W W') : SameOut Pv W W' := ⟨h.os, h.tape, h.output, h.size, fun k hk _ => h.block k hk⟩
theorem SameOut.more {Pv Pv' : Nat → Prop} {W W' : World} (h : SameOut Pv W W') (hp : ∀ k, Pv k → Pv' k) : SameOut Pv' W W' := ⟨h.os, h.tape, h.output, h.size, fun k hk hn => h.block k hk (fun e => hn (hp k e))⟩
theorem SameIn.refl (Pv : Nat → Prop) (W : World) : SameIn Pv W W := ⟨Nat.le_refl _, fun _ _ _ => rfl⟩
theorem SameIn.trans {Pv : Nat → Prop} {A B C : World} (h : SameIn Pv A B) (k : SameIn Pv B C) : SameIn Pv A C :=
  ⟨Nat.le_trans h.size k.size, fun i hi hp => (k.block i (Nat.lt_of_lt_of_le hi h.size) hp).trans (h.block i hi hp)⟩
theorem SameIn.less {Pv Pv' : Nat → Prop} {W W' : World} (h : SameIn Pv W W') (hp : ∀ k, Pv' k → Pv k) : SameIn Pv' W W' := ⟨h.size, fun k hk hn => h.block k hk (hp k hn)⟩
theorem SameIn.alloc (Pv : Nat → Prop) (W : World) (o : Obj) : SameIn Pv W (W.alloc o) := ⟨by simp, fun k hk _ => Below.heap_alloc W o k hk⟩
theorem SameIn.of_below {Pv : Nat → Prop} {W W' : World} (h : Below W.heap.size W W') : SameIn Pv W W' := ⟨h.size, fun k hk _ => h.block k hk⟩
theorem SameIn.setCell {Pv : Nat → Prop} (W : World) {a : Addr} (h : ¬ Pv a.block) (v : Value) : SameIn Pv W (W.setCell a v) :=
  ⟨by simp [World.setCell], fun k _ hp => Below.heap_setCell W a v k (fun e => h (e ▸ hp))⟩
theorem SameIn.putObj {Pv : Nat → Prop} (W : World) {k : Nat} (h : ¬ Pv k) (o : Obj) : SameIn Pv W (W.putObj k o) :=
  ⟨by simp, fun i _ hp => World.putObj_heap_other (fun e => h (e ▸ hp))⟩
theorem SameIn.grown {Pv : Nat → Prop} {W W' : World} {row : Option Nat} (hg : W.grownBy W' row) (hr : ∀ k, row = some k → ¬ Pv k) : SameIn Pv W W' :=
  ⟨hg.size, fun k hk hp => hg.block k hk (fun e => hr k e.symm hp)⟩

/-- the caller's word: it abides whatever the iterator does to its own blocks; blocks that are new may become the iterator's -/
def Steady {α : Type} (I : (Nat → Prop) → List α → World → Prop) : Prop :=
  ∀ (Pv Pv' : Nat → Prop) (pre : List α) (W W' : World), I Pv pre W → SameOut Pv W W' → (∀ k, Pv' k → Pv k ∨ W.heap.size ≤ k) → I Pv' pre W'

/-- the iterator's contract -/
def SeqSep {α : Type} (P : Program) (gf : Nat) (lb : Array Value) (encs : α → Array Value) (Ok : (Nat → Prop) → α → World → Prop) (S Sx : List α → Prop) (N : Nat) (w0 : World) : Prop :=
  ∀ (l n : Nat) (J Jx : (Nat → Prop) → List α → World → Prop) (W : World), Below w0.heap.size w0 W → Steady J → Steady Jx →
    (∀ Pv pre x W1, J Pv pre W1 → Ok Pv x W1 → (∀ k, Pv k → k < W1.heap.size) → pre.length < N → YieldAt Fence.wide (n - 1) P l (encs x) W1 fun e W' =>
      (e = .returned (.bool true) ∧ J Pv (pre ++ [x]) W' ∧ SameIn Pv W1 W' ∧ Below w0.heap.size W1 W') ∨ (e = .returned (.bool false) ∧ Jx Pv (pre ++ [x]) W')) →
    (∀ Pv : Nat → Prop, (∀ k, Pv k → W.heap.size ≤ k) → J Pv [] W) →
    CallsIn Fence.wide n P gf (#[.func (.yield l) #[] #[]] ++ lb) W fun e W' => (∃ v, e = .returned v) ∧ ((∃ Pv xs, S xs ∧ J Pv xs W') ∨ (∃ Pv pre, Sx pre ∧ Jx Pv pre W'))

/-- how the body of a round may be left -/
def sepPost {α : Type} (B : Nat) (Pv : Nat → Prop) (I : (Nat → Prop) → List α → World → Prop) (Ix : Code → (Nat → Prop) → List α → World → Prop) (xs : List α) (W : World) : Exit → Act → World → Prop
  | .normal, _, W' => SameIn Pv W W' ∧ Below B W W' ∧ I Pv xs W'
  | .ret, _, W' => SameIn Pv W W' ∧ Below B W W' ∧ Ix .ret Pv xs W'
  | .exit id, _, W' => SameIn Pv W W' ∧ Below B W W' ∧ Ix (.exit id) Pv xs W'
  | .goto t, _, W' => SameIn Pv W W' ∧ Below B W W' ∧ Ix (.goto t) Pv xs W'
  | .panic _, _, _ => False
  | .outgrown, _, _ => False

variable {P : Program} {n : Nat}

theorem wpIn_rangeFunc_sep {α : Type} {g : Operand} {ps : Array Tmp} {assign body : Code} {Q : Exit → Act → World → Prop} {a : Act} {w : World}
    {gf : Nat} {lb : Array Value} (hg : a.eval g = .func (.func gf) #[] lb) (eg : ∀ args w, (callFunc gf args).run P w = .ok (.enter gf args) w)
    {encs : α → Array Value} {Ok : (Nat → Prop) → α → World → Prop} {S Sx : List α → Prop} {N : Nat} {w0 : World} (hseq : SeqSep P gf lb encs Ok S Sx N w0)
    (hb0 : Below w0.heap.size w0 w) (hps : ∀ x, (encs x).size = ps.size)
    (hOk : ∀ (Pv Pv' : Nat → Prop) x W W', Ok Pv x W → SameOut Pv' W W' → (∀ k, Pv' k → Pv k ∨ k = w.heap.size ∨ k = w.heap.size + 1) → W.heap[w.heap.size]? = some (.deferred (some [])) → (∃ r, W.heap[w.heap.size + 1]? = some (.loop r)) → Ok Pv' x W')
    (I : (Nat → Prop) → List α → World → Prop) (Ix : Code → (Nat → Prop) → List α → World → Prop) (hI : Steady I) (hIx : ∀ c, Steady (Ix c))
    (h0 : ∀ Pv : Nat → Prop, (∀ k, Pv k → w.heap.size ≤ k) → I Pv [] w)
    (Mid : (Nat → Prop) → List α → α → Act → World → Prop) (hM : ∀ Pv pre x a₁ W W', Mid Pv pre x a₁ W → SameOut Pv W W' → Mid Pv pre x a₁ W')
    (hassign : ∀ (l : Nat) (Pv : Nat → Prop) (pre : List α) (x : α) (W : World), I Pv pre W → Ok Pv x W → (∀ k, Pv k → k < W.heap.size) → pre.length < N → w.heap.size ≤ W.heap.size →
      assign.wpIn (Fence.wide.inRound l) (n - 1 - 1) P (Exit.then (fun a₁ W1 => SameIn Pv W W1 ∧ Below w0.heap.size W W1 ∧ Mid Pv pre x a₁ W1) (fun _ _ _ => False)) { tmps := (ps.zip (encs x)).foldl (fun t (p, v) => t.setIfInBounds p v) a.tmps, defers := [] } W)
    (hbody : ∀ (l : Nat) (Pv : Nat → Prop) (pre : List α) (x : α) (a₁ : Act) (W : World), Mid Pv pre x a₁ W → pre.length < N → w.heap.size ≤ W.heap.size → body.wpIn (Fence.wide.inRound l) (n - 1 - 1) P (sepPost w0.heap.size Pv I Ix (pre ++ [x]) W) a₁ W)
    (hdone : ∀ (D : Nat) (Pv : Nat → Prop) (xs : List α) (W : World), w.heap.size ≤ D → S xs → Pv D → I Pv xs W → W.heap[D]? = some (.deferred (some [])) → Q .normal { a with defers := { target := .collected D, args := #[] } :: a.defers } W)
    (hstop : ∀ (D : Nat) (Pv : Nat → Prop) (c : Code) (pre : List α) (W : World), w.heap.size ≤ D → Sx pre → Pv D → Ix c Pv pre W → W.heap[D]? = some (.deferred (some [])) → c.wpIn Fence.wide n P Q { a with defers := { target := .collected D, args := #[] } :: a.defers } W) :
    (Code.rangeFunc g ps assign body).wpIn Fence.wide n P Q a w := by
  refine wpIn_rangeFunc ?_
  intro fn hfn
  obtain ⟨rec, hrec⟩ : ∃ rec : LoopState → Option Code → Loop, rec = fun st pe => { state := st, pending := pe, fn, tmps := a.tmps, params := ps, assign, body, defers := w.heap.size } := ⟨_, rfl⟩
  obtain ⟨W1, hW1⟩ : ∃ W1, (w.alloc (.deferred (some []))).alloc (.loop (rec .ready none)) = W1 := ⟨_, rfl⟩
  have hL1 : W1.heap[w.heap.size + 1]? = some (.loop (rec .ready none)) := by
    rw [← hW1]; have := World.alloc_heap_new (w.alloc (.deferred (some []))) (.loop (rec .ready none)); rwa [World.size_alloc] at this
  have hK1 : W1.heap[w.heap.size]? = some (.deferred (some [])) := by
    rw [← hW1]; exact (Below.heap_alloc _ _ _ (by simp)).trans (World.alloc_heap_new w _)
  have hs1 : W1.heap.size = w.heap.size + 2 := by rw [← hW1]; simp
  have hbw : Below w.heap.size w W1 := by rw [← hW1]; exact ((Below.refl _ w).alloc (Nat.le_refl _) _).alloc (by simp) _
  have hb1 : Below w0.heap.size w0 W1 := hb0.trans (hbw.mono hb0.size)
  have hlow : w0.heap.size ≤ w.heap.size := hb0.size
  -- the iterator's set, with the law's two blocks
  let Ex : (Nat → Prop) → Nat → Prop := fun Pv k => Pv k ∨ k = w.heap.size ∨ k = w.heap.size + 1
  refine ⟨w.heap.size + 1, [{ target := .collected w.heap.size, args := #[] }], W1, { target := .fn (.func gf) lb, args := #[.func (.yield (w.heap.size + 1)) #[] #[]] }, W1, gf,
    #[.func (.yield (w.heap.size + 1)) #[] #[]] ++ lb, W1, ?_, ?_, ?_, ?_, (fun h => by cases h), ?_⟩
  · rw [← hW1, hrec]; exact run_enterLoop_outer _ _ _ _ _
  · simp only [resolve, hg]
    simp [go_sem]
  · intro f' hf'; trivial
  · simp [invoke, go_sem, eg]
  · have key : ∀ (X : Type) (T : (Nat → Prop) → List α → World → Prop) (hT : Steady T) (ob : Obj),
        Steady (fun Pv pre W => T (Ex Pv) pre W ∧ W.heap[w.heap.size + 1]? = some ob ∧ W.heap[w.heap.size]? = some (.deferred (some [])) ∧ ¬ Pv w.heap.size ∧ ¬ Pv (w.heap.size + 1)) := by
      rintro _ T hT ob Pv Pv' pre A B ⟨t1, t2, t3, t4, t5⟩ hs hp
      have l1 := (Array.getElem?_eq_some_iff.1 t2).1
      have l2 := (Array.getElem?_eq_some_iff.1 t3).1
      refine ⟨hT (Ex Pv) (Ex Pv') pre A B t1 (hs.more fun k h => .inl h) ?_, (hs.block _ l1 t5).trans t2, (hs.block _ l2 t4).trans t3, ?_, ?_⟩
      · rintro k (h | h)
        · rcases hp k h with h | h
          · exact .inl (.inl h)
          · exact .inr h
        · exact .inl (.inr h)
      · intro h; rcases hp _ h with h | h
        · exact t4 h
        · omega
      · intro h; rcases hp _ h with h | h
        · exact t5 h
        · omega
    refine (hseq (w.heap.size + 1) (n - 1)
      (fun Pv pre W => I (Ex Pv) pre W ∧ W.heap[w.heap.size + 1]? = some (.loop (rec .ready none)) ∧ W.heap[w.heap.size]? = some (.deferred (some [])) ∧ ¬ Pv w.heap.size ∧ ¬ Pv (w.heap.size + 1))
      (fun Pv pre W => ∃ c, Ix c (Ex Pv) pre W ∧ W.heap[w.heap.size + 1]? = some (.loop (rec .done (some c))) ∧ W.heap[w.heap.size]? = some (.deferred (some [])) ∧ ¬ Pv w.heap.size ∧ ¬ Pv (w.heap.size + 1))
      W1 hb1 (key Unit I hI _) ?_ ?_ ?_).mono ?_
    · rintro Pv Pv' pre A B ⟨c, t⟩ hs hp
      exact ⟨c, key Unit (Ix c) (hIx c) _ Pv Pv' pre A B t hs hp⟩
    · -- one round
      rintro Pv pre x W ⟨hi, hl, hk, np1, np2⟩ hok hPw hlen
      have hlt : w.heap.size + 1 < W.heap.size := (Array.getElem?_eq_some_iff.1 hl).1
      have hy := run_yield (P := P) (args := encs x) hl (by rw [hrec]; exact hps x)
      rw [hrec] at hy
      have hokE : Ok (Ex Pv) x W := hOk Pv (Ex Pv) x W W hok (SameOut.refl _ _) (fun k h => h) hk ⟨_, hl⟩
      refine ⟨fn, _, assign, body, hy, roundIn_of_wpIn hfn (wpIn_mono (hassign (w.heap.size + 1) (Ex Pv) pre x W hi hokE (by rintro k (h | h | h); exact hPw k h; omega; omega) hlen (by omega)) ?_)⟩
      rintro e a₁ W2 hp2
      cases e with
      | normal =>
        obtain ⟨hs2, hbl2, hm2⟩ := hp2
        have hl2 : W2.heap[w.heap.size + 1]? = some (.loop (rec .ready none)) := (hs2.block _ hlt (.inr (.inr rfl))).trans hl
        have hk2 : W2.heap[w.heap.size]? = some (.deferred (some [])) := (hs2.block _ (by omega) (.inr (.inl rfl))).trans hk
        have hlt2 : w.heap.size + 1 < W2.heap.size := (Array.getElem?_eq_some_iff.1 hl2).1
        refine ⟨_, run_beginRound hl2 (by rw [hrec]), ?_⟩
        have hm3 := hM _ _ _ _ _ _ hm2 (SameOut.putObj (Pv := Ex Pv) W2 (k := w.heap.size + 1) (.inr (.inr rfl)) (.loop { rec .ready none with state := .busy }))
        have hl3 : (W2.putObj (w.heap.size + 1) (.loop { rec .ready none with state := .busy })).heap[w.heap.size + 1]? = some (.loop { rec .ready none with state := .busy }) := World.putObj_heap_same hlt2
        have hk3 : (W2.putObj (w.heap.size + 1) (.loop { rec .ready none with state := .busy })).heap[w.heap.size]? = some (.deferred (some [])) := (World.putObj_heap_other (by omega)).trans hk2
        have hbl3 : Below w0.heap.size W (W2.putObj (w.heap.size + 1) (.loop { rec .ready none with state := .busy })) :=
          hbl2.trans ⟨rfl, rfl, rfl, by simp, fun k hk => World.putObj_heap_other (by omega)⟩
        have hs3 : SameIn Pv W (W2.putObj (w.heap.size + 1) (.loop { rec .ready none with state := .busy })) :=
          (hs2.less fun k h => .inl h).trans (SameIn.putObj W2 np2 _)
        generalize hW3 : W2.putObj (w.heap.size + 1) (.loop { rec .ready none with state := .busy }) = W3 at *
        have hw3 : w.heap.size ≤ W3.heap.size := by rw [← hW3]; simp; omega
        refine wpIn_mono (hbody (w.heap.size + 1) (Ex Pv) pre x a₁ W3 hm3 hlen hw3) ?_
        have fin : ∀ (jump : Option Code) (W4 : World), SameIn (Ex Pv) W3 W4 → Below w0.heap.size W3 W4 →
            (Instr.endRound (w.heap.size + 1) jump).run P W4 = .ok (.bool jump.isNone) (W4.putObj (w.heap.size + 1) (.loop (rec (if jump.isNone then .ready else .done) jump))) ∧
            (W4.putObj (w.heap.size + 1) (.loop (rec (if jump.isNone then .ready else .done) jump))).heap[w.heap.size + 1]? = some (.loop (rec (if jump.isNone then .ready else .done) jump)) ∧
            (W4.putObj (w.heap.size + 1) (.loop (rec (if jump.isNone then .ready else .done) jump))).heap[w.heap.size]? = some (.deferred (some [])) ∧
            SameIn Pv W (W4.putObj (w.heap.size + 1) (.loop (rec (if jump.isNone then .ready else .done) jump))) ∧
            Below w0.heap.size W (W4.putObj (w.heap.size + 1) (.loop (rec (if jump.isNone then .ready else .done) jump))) := fun jump W4 hk4 hb4 => by
          have q1 := (Array.getElem?_eq_some_iff.1 hl3).1
          have hl4 : W4.heap[w.heap.size + 1]? = some (.loop { rec .ready none with state := .busy }) := (hk4.block _ q1 (.inr (.inr rfl))).trans hl3
          have hk5 : W4.heap[w.heap.size]? = some (.deferred (some [])) := (hk4.block _ (by omega) (.inr (.inl rfl))).trans hk3
          have := run_endRound (P := P) jump hl4
          rw [hrec] at this ⊢
          refine ⟨this, World.putObj_heap_same (Array.getElem?_eq_some_iff.1 hl4).1, (World.putObj_heap_other (by omega)).trans hk5, ?_, ?_⟩
          · exact (hs3.trans (hk4.less fun k h => .inl h)).trans (SameIn.putObj W4 np2 _)
          · exact (hbl3.trans hb4).trans ⟨rfl, rfl, rfl, by simp, fun k hk => World.putObj_heap_other (by omega)⟩
        rintro e a4 W4 hp
        cases e with
        | normal =>
          obtain ⟨hk4, hb4, hi4⟩ := hp
          obtain ⟨hr, hl5, hk5, hs5, hb5⟩ := fin none W4 hk4 hb4
          exact ⟨_, _, hr, .inl ⟨rfl, ⟨hI _ _ _ _ _ hi4 (SameOut.putObj W4 (.inr (.inr rfl)) _) (fun k h => .inl h), hl5, hk5, np1, np2⟩, hs5, hb5⟩⟩
        | ret =>
          obtain ⟨hk4, hb4, hi4⟩ := hp
          obtain ⟨hr, hl5, hk5, hs5, hb5⟩ := fin (some .ret) W4 hk4 hb4
          exact ⟨_, _, hr, .inr ⟨rfl, .ret, hIx _ _ _ _ _ _ hi4 (SameOut.putObj W4 (.inr (.inr rfl)) _) (fun k h => .inl h), hl5, hk5, np1, np2⟩⟩
        | exit id =>
          obtain ⟨hk4, hb4, hi4⟩ := hp
          obtain ⟨hr, hl5, hk5, hs5, hb5⟩ := fin (some (.exit id)) W4 hk4 hb4
          exact ⟨_, _, hr, .inr ⟨rfl, .exit id, hIx _ _ _ _ _ _ hi4 (SameOut.putObj W4 (.inr (.inr rfl)) _) (fun k h => .inl h), hl5, hk5, np1, np2⟩⟩
        | goto t =>
          obtain ⟨hk4, hb4, hi4⟩ := hp
          obtain ⟨hr, hl5, hk5, hs5, hb5⟩ := fin (some (.goto t)) W4 hk4 hb4
          exact ⟨_, _, hr, .inr ⟨rfl, .goto t, hIx _ _ _ _ _ _ hi4 (SameOut.putObj W4 (.inr (.inr rfl)) _) (fun k h => .inl h), hl5, hk5, np1, np2⟩⟩
        | panic ch => exact hp.elim
        | outgrown => exact hp.elim
      | ret => exact hp2.elim
      | exit id => exact hp2.elim
      | goto t => exact hp2.elim
      | panic ch => exact hp2.elim
      | outgrown => exact hp2.elim
    · intro Pv hPv
      refine ⟨hI (fun k => w.heap.size ≤ k) (Ex Pv) [] w W1 (h0 _ (fun k h => h)) (SameOut.of_below hbw) ?_, hL1, hK1, fun h => by have := hPv _ h; omega, fun h => by have := hPv _ h; omega⟩
      rintro k (h | h | h)
      · exact .inr (by have := hPv _ h; omega)
      · exact .inr (by omega)
      · exact .inr (by omega)
    · -- behind the iterator
      rintro e W2 ⟨⟨v, rfl⟩, (⟨Pv, xs, hS, hi, hl, hk, np1, np2⟩ | ⟨Pv, pre, hSp, c, hi, hl, hk, np1, np2⟩)⟩
      · exact ⟨none, _, by have := run_endLoop (P := P) hl (by rw [hrec]; simp); rw [hrec] at this; exact this,
          hdone w.heap.size (Ex Pv) xs _ (Nat.le_refl _) hS (.inr (.inl rfl)) (hI _ _ _ _ _ hi (SameOut.putObj W2 (.inr (.inr rfl)) _) (fun k h => .inl h)) ((World.putObj_heap_other (by omega)).trans hk)⟩
      · exact ⟨some c, _, by have := run_endLoop (P := P) hl (by rw [hrec]; simp); rw [hrec] at this; exact this,
          hstop w.heap.size (Ex Pv) c pre _ (Nat.le_refl _) hSp (.inr (.inl rfl)) (hIx c _ _ _ _ _ hi (SameOut.putObj W2 (.inr (.inr rfl)) _) (fun k h => .inl h)) ((World.putObj_heap_other (by omega)).trans hk)⟩

end Go.Proofs.Ythihhmlgpokomaa
