/- flash.collect over the iterator of flash.memories, and flash.Program and flash.Erase: the list of all memories. -/
import Derived.Test.YthebojaminploaaGreatDoorKFc
import Derived.Maps.OwnIn
import Derived.RangeFuncBox
import Derived.Deep.AppendLies
import Derived.Deep.RegionLaw
import Derived.Test.YthebojaminploaaGreatDoorKCO
set_option maxRecDepth 100000
set_option linter.unusedVariables false
namespace Go.Proofs.YthebojaminploaaGreatDoor
open Go.RowKit Go.Shelf
attribute [local go_sem] Oper.semAt_some

theorem info_flash : (Tryz.prog.info? 24).map (fun i => (i.zero, i.size, i.bytes)) = some (some (.agg #[.int .i64 0, .slice none 0 0]), 2, 32) := by kernel_rfl

/-- the cells of what has been collected -/
def cellsF (s : Int) (pre : List Item) : List Value := pre.flatMap fun x => [.int .i64 s, .slice (some ⟨x.1, 0, none⟩) x.2.length x.2.length]
theorem cellsF_snoc (s : Int) (pre : List Item) (x : Item) : cellsF s (pre ++ [x]) = cellsF s pre ++ [.int .i64 s, .slice (some ⟨x.1, 0, none⟩) x.2.length x.2.length] := by simp [cellsF]
theorem cellsF_length (s : Int) (pre : List Item) : (cellsF s pre).length = pre.length * 2 := by
  induction pre with
  | nil => rfl
  | cons x l ih => simp only [cellsF, List.flatMap_cons, List.length_append, List.length_cons, List.length_nil] at ih ⊢; omega
theorem cellsF_get (s : Int) : ∀ (pre : List Item) (i : Nat) (x : Item), pre[i]? = some x → (cellsF s pre)[i * 2]? = some (.int .i64 s) ∧ (cellsF s pre)[i * 2 + 1]? = some (.slice (some ⟨x.1, 0, none⟩) x.2.length x.2.length)
  | [], i, x, h => by simp at h
  | y :: l, 0, x, h => by
    simp at h; subst h
    simp [cellsF]
  | y :: l, i + 1, x, h => by
    simp at h
    have := cellsF_get s l i x h
    simp only [cellsF, List.flatMap_cons] at this ⊢
    rw [show (i + 1) * 2 = i * 2 + 1 + 1 from by omega]
    simpa using this

/-- what holds of the collecting variable's box between two rounds -/
def Coll (s : Int) (w : World) (Pv : Nat → Prop) (pre : List Item) (W : World) : Prop :=
  ∃ v, Boxed W w.heap.size 28 v ∧ (∀ k, Pv k → w.heap.size < k) ∧ W.ownsRow w.heap.size 24 2 v pre.length (cellsF s pre) ∧ (∀ g, v.ownBlock = some g → ¬ Pv g) ∧ (∀ x ∈ pre, OkF w.heap.size Pv x W) ∧ Below w.heap.size w W

theorem OkF.same {B : Nat} {Pv Pv' : Nat → Prop} {x : Item} {W W' : World} (h : OkF B Pv x W) (hs : SameOut Pv W W') (hp : ∀ k, Pv' k → Pv k ∨ W.heap.size ≤ k) : OkF B Pv' x W' := by
  obtain ⟨h1, h2, h3⟩ := h
  refine ⟨(hs.block _ h1.lt h2).trans h1, fun h => ?_, h3⟩
  rcases hp _ h with h | h
  · exact h2 h
  · have := h1.lt; omega

theorem Coll.steady (s : Int) (w : World) : Steady (Coll s w) := by
  rintro Pv Pv' pre W W' ⟨v, hb, np, hr, hv, hx, hbl⟩ hs hp
  have lift : ∀ k, k < W.heap.size → ¬ Pv k → ¬ Pv' k := fun k hk hn h => by
    rcases hp k h with h | h
    · exact hn h
    · omega
  refine ⟨v, (hs.block _ hb.lt (fun h => by have := np _ h; omega)).trans hb, ?_, ?_, ?_, fun x h => (hx x h).same hs hp, ?_⟩
  · intro k h
    rcases hp k h with h | h
    · exact np k h
    · have := hb.lt; omega
  · obtain ⟨h1, h2⟩ := hr
    refine ⟨h1, ?_⟩
    rcases h2 with h2 | ⟨g, cap, cur, rfl, hg, hh, r⟩
    · exact .inl h2
    · exact .inr ⟨g, cap, cur, rfl, hg, (hs.block g (Array.getElem?_eq_some_iff.1 hh).1 (hv g rfl)).trans hh, r⟩
  · intro g hg
    rcases hr.2 with ⟨rfl, _⟩ | ⟨g', cap, cur, rfl, _, hh, _⟩
    · simp [Value.ownBlock] at hg
    · obtain rfl : g' = g := by simpa [Value.ownBlock] using hg
      exact lift _ (Array.getElem?_eq_some_iff.1 hh).1 (hv _ rfl)
  · refine hbl.trans ⟨hs.os, hs.tape, hs.output, hs.size, fun k hk => hs.block k (by have := hbl.size; omega) (fun h => by have := np _ h; omega)⟩


theorem news2 (W : World) (t : TypeId) (a b : Value) : ∀ j u, [a, b][j]? = some u → (W.alloc (.cells #[a, b] t)).cell? ((⟨W.heap.size, 0, none⟩ : Addr).add j) = some u := by
  intro j u hj
  rw [add_mk, (Bk.new W t #[a, b]).cell]
  simpa using hj

/-- one element more -/
theorem Coll.snoc {s : Int} {w W w1 : World} {Pv : Nat → Prop} {pre : List Item} {x : Item} {v v' : Value} {tmp : Obj} (hb : Boxed W w.heap.size 28 v) (np : ∀ k, Pv k → w.heap.size < k)
    (hr : W.ownsRow w.heap.size 24 2 v pre.length (cellsF s pre)) (hv : ∀ g, v.ownBlock = some g → ¬ Pv g) (hx : ∀ y ∈ pre, OkF w.heap.size Pv y W) (hok : OkF w.heap.size Pv x W) (hbl : Below w.heap.size w W) (hPw : ∀ k, Pv k → k < W.heap.size)
    (hown : w1.ownsRow w.heap.size 24 2 v' (pre.length + 1) (cellsF s pre ++ [.int .i64 s, .slice (some ⟨x.1, 0, none⟩) x.2.length x.2.length])) (hgrow : (W.alloc tmp).grownBy w1 v.ownBlock)
    (hat : v'.ownBlock = v.ownBlock ∨ v'.ownBlock = some (W.alloc tmp).heap.size) :
    Boxed w1 w.heap.size 28 v ∧ SameIn Pv W (w1.setCell ⟨w.heap.size, 0, none⟩ v') ∧ Below w.heap.size W (w1.setCell ⟨w.heap.size, 0, none⟩ v') ∧ Coll s w Pv (pre ++ [x]) (w1.setCell ⟨w.heap.size, 0, none⟩ v') := by
  obtain ⟨hv1, hv2, hr2, hk2, hb2⟩ := hb.appended (by decide) hr hbl.size (Nat.le_refl _) hown hgrow
  have hrowp : ∀ k, v.ownBlock = some k → ¬ Pv k := fun k h => hv k h
  have keep : ∀ y : Item, OkF w.heap.size Pv y W → OkF w.heap.size Pv y (w1.setCell ⟨w.heap.size, 0, none⟩ v') := by
    rintro y ⟨k1, k2, k3⟩
    have l1 : y.1 < W.heap.size := k1.lt
    refine ⟨?_, k2, k3⟩
    have e1 : some y.1 ≠ v.ownBlock := by
      intro e
      rcases hr.2 with ⟨rfl, _⟩ | ⟨g, cap, cur, rfl, _, hh, _⟩
      · simp [Value.ownBlock] at e
      · obtain rfl : y.1 = g := by simpa [Value.ownBlock] using e
        exact Bk.ne k1 (t' := 24) (cs' := cur) hh (by decide) rfl
    have e2 : y.1 ≠ w.heap.size := Bk.ne k1 (t' := 28) (cs' := #[v]) hb (by decide)
    exact ((k1.alloc tmp).grown hgrow e1).far (p := ⟨w.heap.size, 0, none⟩) e2 _
  refine ⟨hv1, ?_, hb2, v', hv2, np, by rw [cellsF_snoc]; simpa using hr2, ?_, ?_, hbl.trans hb2⟩
  · exact ((SameIn.alloc Pv W tmp).trans (SameIn.grown hgrow hrowp)).trans (SameIn.setCell _ (a := ⟨w.heap.size, 0, none⟩) (fun h => by have := np _ h; simp at this) _)
  · intro g hg h
    rcases hat with e | e
    · exact hv g (e ▸ hg) h
    · rw [hg] at e
      have := hPw g h
      simp at e
      omega
  · intro y hy
    rcases List.mem_append.1 hy with h | h
    · exact keep y (hx y h)
    · obtain rfl : y = x := by simpa using h
      exact keep _ hok


/-- ahead of a round's body: the loop variable's box -/
def MidC (s : Int) (w : World) (tm : Item → Value → Array Value) (Pv : Nat → Prop) (pre : List Item) (x : Item) (a : Act) (W : World) : Prop :=
  Coll s w Pv pre W ∧ OkF w.heap.size Pv x W ∧ (∀ k, Pv k → k < W.heap.size) ∧ ∃ Bx, Bk W Bx 24 #[.int .i64 s, .slice (some ⟨x.1, 0, none⟩) x.2.length x.2.length] ∧ ¬ Pv Bx ∧ a = { tmps := tm x (.pointer (some ⟨Bx, 0, none⟩)), defers := [] }

theorem MidC.steady (s : Int) (w : World) (tm : Item → Value → Array Value) (Pv : Nat → Prop) (pre : List Item) (x : Item) (a : Act) (W W' : World) (h : MidC s w tm Pv pre x a W) (hs : SameOut Pv W W') : MidC s w tm Pv pre x a W' := by
  obtain ⟨h1, h2, h3, Bx, h4, h5, h6⟩ := h
  exact ⟨Coll.steady s w _ _ _ _ _ h1 hs (fun k h => .inl h), h2.same hs (fun k h => .inl h), fun k h => Nat.lt_of_lt_of_le (h3 k h) hs.size, Bx, (hs.block _ h4.lt h5).trans h4, h5, h6⟩

set_option maxRecDepth 100000 in
set_option maxHeartbeats 4000000 in
/-- collect: a slice of all that the iterator yields -/
theorem collect_any (s : Int) (ms : List (List UInt8)) (lb : Array Value) (N : Nat) (hN : N ≤ 1000000) (w : World) (hseq : SeqSep Tryz.prog 90 lb (encF s) (OkF w.heap.size) (fun xs => xs.map (·.2) = ms) (fun _ => True) N w) :
    Calls Tryz.prog 83 #[.func (.func 90) #[] lb] w fun e w' => ∃ A c, e = .returned (.slice A ms.length c) ∧ ms.length ≤ c ∧ RdFs w' w'.heap.size A (ms.map fun b => (s, b)) ∧ Below w.heap.size w w' := by
  obtain ⟨i0, hi, hz0, hz1, hz2⟩ := info_parts info_flash
  have HS := Lib.hid hseq
  clear hseq
  refine (callsIn_wide (n := 9)).1 ?_
  refine callsIn_of_wp_marks Tryz.func83 rfl trivial ?_ rfl
  simp only [Tryz.ntmps83, List.size_toArray, List.length_cons, List.length_nil, Nat.reduceAdd, Nat.reduceSub, Array.replicate_succ, Array.replicate_zero, List.push_toArray, List.append_toArray, List.nil_append, List.cons_append]
  gi_wp2
  refine wpIn_rangeFunc_sep (gf := 90) (lb := lb) rfl (enters_of Tryz.func90 (by kernel_rfl) rfl) HS.out
    ((Below.refl _ w).alloc (Nat.le_refl _) _) (fun _ => rfl) ?hOk (Coll s w) (fun _ _ _ _ => False) (Coll.steady s w) (fun _ _ _ _ _ _ h _ _ => h) ?h0
    (MidC s w (fun x q => #[.func (.func 90) #[] lb, undef, .slice none 0 0, .pointer (some ⟨w.heap.size, 0, none⟩), q, .func (.func 90) #[] lb, .agg #[.int .i64 s, .slice (some ⟨x.1, 0, none⟩) x.2.length x.2.length], undef, undef, undef, undef, undef])) (MidC.steady s w _) ?assign ?body ?done ?stop
  case hOk =>
    rintro Pv Pv' x W W' ⟨k1, k2, k3⟩ hs hp hD ⟨r, hl⟩
    have np : ¬ Pv' x.1 := fun h => by
      rcases hp _ h with h | h | h
      · exact k2 h
      · rw [← h] at hD; rw [show W.heap[x.1]? = _ from k1] at hD; cases hD
      · rw [← h] at hl; rw [show W.heap[x.1]? = _ from k1] at hl; cases hl
    exact ⟨(hs.block _ k1.lt np).trans k1, np, k3⟩
  case h0 =>
    intro Pv hP
    exact ⟨.slice none 0 0, Boxed.new w _ _, fun k h => by have := hP k h; simp at this; omega, World.ownsRow_nil _ _ _ _, by simp [Value.ownBlock], by simp, (Below.refl _ w).alloc (Nat.le_refl _) _⟩
  case assign =>
    intro l Pv pre x W hc hok hPw hlen hsz
    have hc' := hc
    obtain ⟨v, hb, np, hr, hv, hx, hbl⟩ := hc'
    dsimp only [encF]
    gi_wp2
    refine ⟨SameIn.alloc _ _ _, (Below.refl _ W).alloc hbl.size _, Coll.steady s w _ _ _ _ _ hc (SameOut.alloc _ _ _) (fun k h => .inl h), hok.same (SameOut.alloc _ _ _) (fun k h => .inl h), fun k h => by have := hPw k h; simp; omega, W.heap.size, Bk.new _ _ _, fun h => by have := hPw _ h; omega, rfl⟩
  case body =>
    rintro l Pv pre x a₁ W ⟨⟨v, hb, np, hr, hv, hx, hbl⟩, hok, hPw, Bx, kx, npx, rfl⟩ hlen hsz
    have c0 := hb.cell
    have c1 := kx.cell 0
    have c2 := kx.cell 1
    simp only [List.getElem?_toArray, List.getElem?_cons_zero, List.getElem?_cons_succ] at c1 c2
    have HX := Lib.hid hx
    have HV := Lib.hid hv
    have NP := Lib.hid np
    have HP := Lib.hid hPw
    clear hx hv np hPw
    gi_wp2_with (gi_at_builtin; refine wpListIn_append_own_at _ rfl _ _ 28 rfl w.heap.size 24 i0 (.agg #[.int .i64 0, .slice none 0 0]) 2 32 Tryz.underlying28 hi hz0 hz1 hz2 rfl (by decide) v pre.length (cellsF s pre) rfl (hr.alloc _) ⟨W.heap.size, 0, none⟩ 1 1 [.int .i64 s, .slice (some ⟨x.1, 0, none⟩) x.2.length x.2.length] rfl rfl (news2 _ _ _ _) (by simp [Value.oneCell']) (by simp only [maxLen]; omega) (by omega) (by have := hbl.size; simp; omega) ?_; intro v' w1 hown' hgrow _ hat; obtain ⟨g', cap', rfl⟩ := ownsRow_succ hown'; obtain ⟨hv1, hs1, hb1, hc1⟩ := Coll.snoc hb NP.out hr HV.out HX.out hok hbl HP.out hown' hgrow hat; have d0 := hv1.cell; have d1 := hv1.frozen)
    exact ⟨hs1, hb1, hc1⟩
  case done =>
    rintro D Pv xs W hD hS hPD ⟨v, hb, np, hr, hv, hx, hbl⟩ hK
    have c0 := hb.cell
    have hl : xs.length = ms.length := by rw [← hS]; simp
    gi_wp2
    refine ⟨by simp, .inl ⟨_, _, rfl, run_takeDeferred hK, ?_⟩⟩
    refine ⟨_, results_tmp rfl _ _ _, ?_⟩
    have hb' : Below w.heap.size w (W.putObj D (.deferred none)) := hbl.trans (belowK_b (w := w) (Nat.le_refl _) W D _ _ (by simp at hD; omega) hK rfl rfl)
    have hr' := ownsRow_putObj hr (.deferred none) hK rfl
    have hx' : ∀ y ∈ xs, Bk (W.putObj D (.deferred none)) y.1 5 (u8s y.2).toArray := fun y hy => by
      have k := (hx y hy).1
      exact (World.putObj_heap_other (fun e => by rw [← e, show W.heap[y.1]? = _ from k] at hK; cases hK)).trans k
    generalize W.putObj D (.deferred none) = W9 at *
    rcases hr'.2 with ⟨rfl, h0⟩ | ⟨g, cap, cur, rfl, hg, hh, hcap, hmax, hsz, htk⟩
    · have : ms = [] := List.eq_nil_of_length_eq_zero (by omega)
      subst this
      exact ⟨none, 0, rfl, Nat.le_refl _, RdFs.nil, hb'⟩
    · refine ⟨some ⟨g, 0, none⟩, cap, by rw [← hl]; rfl, by omega, fun hn => ⟨g, 0, rfl, (Array.getElem?_eq_some_iff.1 hh).1, fun i m hm => ?_⟩, hb'⟩
      rw [← hS] at hm
      simp only [List.map_map, List.getElem?_map, Option.map_eq_some_iff, Function.comp] at hm
      obtain ⟨y, hy, rfl⟩ := hm
      obtain ⟨q1, q2⟩ := cellsF_get s xs i y hy
      have hc : ∀ j u, (cellsF s xs)[j]? = some u → W9.cell? ⟨g, 0 + j, none⟩ = some u := fun j u hu => by have := hr'.cells (g := g) rfl j u hu; rwa [add_mk] at this
      have ky := hx' y (List.mem_of_getElem? hy)
      exact ⟨some ⟨y.1, 0, none⟩, y.2.length, hc _ _ q1, hc _ _ q2, Nat.le_refl _, RdB.of_bk ky ky.lt⟩
  case stop =>
    rintro D Pv c pre W _ _ _ h _
    exact h.elim

end Go.Proofs.YthebojaminploaaGreatDoor

/- flash.Program and flash.Erase: the lists of memories, for every argument. -/
set_option maxRecDepth 100000
set_option linter.unusedVariables false
namespace Go.Proofs.YthebojaminploaaGreatDoor
open Go.RowKit

/-- the error of programming, and the memories -/
def progE (m : Mem) (p : Int) (ds : List UInt8) : Int := if validB m.1 m.2.length = true ∧ 0 ≤ p then (if p ≤ (m.2.length : Int) - (ds.length : Int) then 0 else 3) else 1
def progL (m : Mem) (p : Int) (ds : List UInt8) : List Mem := if progE m p ds = 0 then (memos (andF ds) m.2 p.toNat ds.length).map fun b => (m.1, b) else []
/-- the error of erasing, and the memories -/
def eraE (m : Mem) (k : Int) : Int := if validB m.1 m.2.length = true ∧ 0 ≤ k ∧ k < (m.2.length : Int) / m.1 then 0 else 1
def eraL (m : Mem) (k : Int) : List Mem := if eraE m k = 0 then (memos eraF m.2 (k * m.1).toNat m.1.toNat).map fun b => (m.1, b) else []

theorem prog_in {m : Mem} {p : Int} {ds : List UInt8} (h1 : validB m.1 m.2.length = true) (h2 : 0 ≤ p) (h3 : p ≤ (m.2.length : Int) - (ds.length : Int)) :
    progE m p ds = 0 ∧ progL m p ds = (memos (andF ds) m.2 p.toNat ds.length).map fun b => (m.1, b) := by simp [progE, progL, h1, h2, h3]
theorem prog_far {m : Mem} {p : Int} {ds : List UInt8} (h1 : validB m.1 m.2.length = true) (h2 : 0 ≤ p) (h3 : ¬ p ≤ (m.2.length : Int) - (ds.length : Int)) :
    progE m p ds = 3 ∧ progL m p ds = [] := by simp [progE, progL, h1, h2, h3]
theorem prog_bad {m : Mem} {p : Int} {ds : List UInt8} (h : validB m.1 m.2.length = false ∨ p < 0) : progE m p ds = 1 ∧ progL m p ds = [] := by
  have : ¬ (validB m.1 m.2.length = true ∧ 0 ≤ p) := by rcases h with h | h <;> simp [h] <;> omega
  simp [progE, progL, this]
theorem era_in {m : Mem} {k : Int} (h1 : validB m.1 m.2.length = true) (h2 : 0 ≤ k) (h3 : k < (m.2.length : Int) / m.1) :
    eraE m k = 0 ∧ eraL m k = (memos eraF m.2 (k * m.1).toNat m.1.toNat).map fun b => (m.1, b) := by simp [eraE, eraL, h1, h2, h3]
theorem era_bad {m : Mem} {k : Int} (h : validB m.1 m.2.length = false ∨ k < 0 ∨ ¬ k < (m.2.length : Int) / m.1) : eraE m k = 1 ∧ eraL m k = [] := by
  have : ¬ (validB m.1 m.2.length = true ∧ 0 ≤ k ∧ k < (m.2.length : Int) / m.1) := by rcases h with h | h | h <;> simp [h] <;> omega
  simp [eraE, eraL, this]
theorem valid_iff (s : Int) (n : Nat) : validB s n = true ↔ 1 ≤ s ∧ s ≤ 512 ∧ s ≤ n ∧ n ≤ 4096 ∧ (n : Int) % s = 0 := by simp [validB, and_assoc]
/-- a sector lies in the memory -/
theorem sector_in {s k : Int} {n : Nat} (hs : 1 ≤ s) (h1 : (n : Int) % s = 0) (h2 : 0 ≤ k) (h3 : k < (n : Int) / s) : 0 ≤ k * s ∧ k * s + s ≤ n := by
  have e := Int.emod_add_mul_ediv (n : Int) s
  have h4 : (k + 1) * s ≤ (n : Int) / s * s := Int.mul_le_mul_of_nonneg_right (by omega) (by omega)
  have h5 : (k + 1) * s = k * s + s := by rw [Int.add_mul, Int.one_mul]
  have h6 : (n : Int) / s * s = s * ((n : Int) / s) := Int.mul_comm _ _
  have h7 := Int.mul_nonneg h2 (by omega : 0 ≤ s)
  omega

def ListPost (w : World) (ms : List Mem) (er : Int) (e : Ending) (w' : World) : Prop :=
  ∃ A c, e = .returned (.tuple #[.slice A ms.length c, .int .i64 er]) ∧ ms.length ≤ c ∧ RdFs w' w'.heap.size A ms ∧ Below w.heap.size w w'

set_option maxHeartbeats 2000000 in
theorem Program_any (m : Mem) (p : Int) (ds : List UInt8) (A Ad : Option Addr) (c cd : Nat) (w : World) (hA : RdB w w.heap.size A m.2) (hAd : RdB w w.heap.size Ad ds) (hn : m.2.length ≤ 1000000000) (hd : ds.length ≤ 1000000000) (hp0 : -9223372036854775808 ≤ p) (hp1 : p ≤ 9223372036854775807) :
    Calls Tryz.prog 69 #[.agg #[.int .i64 m.1, .slice A m.2.length c], .int .i64 p, .slice Ad ds.length cd] w (ListPost w (progL m p ds) (progE m p ds)) := by
  obtain ⟨s, bs⟩ := m
  dsimp only at *
  have HA := Lib.hid hA
  have HD := Lib.hid hAd
  clear hA hAd
  have hB0 : Below w.heap.size w ((w.alloc (.cells #[.int .i64 s, .slice A bs.length c] 24)).alloc (.cells #[.slice Ad ds.length cd] 22)) := ((Below.refl _ w).alloc (Nat.le_refl _) _).alloc (by simp) _
  have k1 : Bk ((w.alloc (.cells #[.int .i64 s, .slice A bs.length c] 24)).alloc (.cells #[.slice Ad ds.length cd] 22)) w.heap.size 24 #[.int .i64 s, .slice A bs.length c] := bkOf (by simp [at?_alloc])
  have k2 : Bk ((w.alloc (.cells #[.int .i64 s, .slice A bs.length c] 24)).alloc (.cells #[.slice Ad ds.length cd] 22)) (w.heap.size + 1) 22 #[.slice Ad ds.length cd] := bkOf (by simp [at?_alloc])
  by_cases hv : validB s bs.length = true
  · have hv' := (valid_iff _ _).1 hv
    obtain ⟨v1, v2, v3, v4, v5⟩ := hv'
    by_cases h0 : 0 ≤ p
    · by_cases h1 : p ≤ (bs.length : Int) - (ds.length : Int)
      · obtain ⟨e1, e2⟩ := prog_in (m := (s, bs)) hv h0 h1
        rw [e1, e2]
        clear e1 e2 v5
        obtain ⟨q, rfl⟩ := Int.eq_ofNat_of_zero_le h0
        go_enter Tryz.func69, Tryz.ntmps69
        go_wp2_with fail
        refine (Valid_any _ _ _ _ _).mono ?_
        rintro e W2 ⟨rfl, hb2⟩
        have k3 := k1.next hb2
        have k4 := k2.next hb2
        have c0 := k3.cell 0
        have c1 := k3.cell 1
        have c2 := k4.cell 0
        simp only [List.getElem?_toArray, List.getElem?_cons_zero, List.getElem?_cons_succ] at c0 c1 c2
        have hbb := bt hb2 hB0
        clear k1 k2 hb2 hB0
        go_wp2_with fail
        refine (memories_any s A bs.length c q ds.length _ ⟨_, _, rfl⟩ _).mono ?_
        rintro e W3 ⟨rfl, hW3⟩
        have hb3 : Below W2.heap.size W2 W3 := by
          rw [hW3]
          exact (((Below.refl _ _).alloc (Nat.le_refl _) _).alloc (by simp) _).alloc (by simp; omega) _ |>.alloc (by simp; omega) _
        have g1 : Bk W3 W2.heap.size 24 #[.int .i64 s, .slice A bs.length c] := by rw [hW3]; exact (((Bk.new _ _ _).alloc _).alloc _).alloc _
        have g2 : Bk W3 (W2.heap.size + 1) 3 #[.int .i64 (q : Int)] := by rw [hW3]; exact bkOf (by simp [at?_alloc])
        have g3 : Bk W3 (W2.heap.size + 2) 3 #[.int .i64 (ds.length : Int)] := by rw [hW3]; exact bkOf (by simp [at?_alloc])
        have g4 : Bk W3 (W2.heap.size + 3) 104 #[.func (.func 82) #[] #[.pointer (some ⟨w.heap.size + 1, 0, none⟩)]] := by rw [hW3]; exact bkOf (by simp [at?_alloc])
        have hseq := memories_prog s bs q ds Ad cd (w.heap.size + 1) W2.heap.size (W2.heap.size + 2) (W2.heap.size + 3) (W2.heap.size + 1) A c W3 g1 ((HA.out.next hbb).next hb3) g3 g2 g4 (k4.next hb3) ((HD.out.next hbb).next hb3) (by omega) (by omega)
        have hbw3 := bt hb3 hbb
        clear hW3 g1 g2 g3 g4 c0 c1 c2 k3 k4 hb3
        go_wp2_with fail
        refine (collect_any s _ _ (ds.length + 1) (by omega) W3 hseq).mono ?_
        rintro e W4 ⟨A4, c4, rfl, hc4, hr4, hb4⟩
        go_wp2
        go_ret2
        exact ⟨A4, c4, by simp, by simpa using hc4, by simpa using hr4, bt hb4 hbw3⟩
      · obtain ⟨e1, e2⟩ := prog_far (m := (s, bs)) (ds := ds) hv h0 h1
        rw [e1, e2]
        clear e1 e2 v5
        go_enter Tryz.func69, Tryz.ntmps69
        go_wp2_with fail
        refine (Valid_any _ _ _ _ _).mono ?_
        rintro e W2 ⟨rfl, hb2⟩
        have k3 := k1.next hb2
        have k4 := k2.next hb2
        have c0 := k3.cell 0
        have c1 := k3.cell 1
        have c2 := k4.cell 0
        simp only [List.getElem?_toArray, List.getElem?_cons_zero, List.getElem?_cons_succ] at c0 c1 c2
        have hbb := bt hb2 hB0
        clear k1 k2 hb2 hB0 k3 k4
        go_wp2
        go_ret2
        exact ⟨none, 0, rfl, Nat.le_refl _, RdFs.nil, hbb⟩
    · obtain ⟨e1, e2⟩ := prog_bad (m := (s, bs)) (p := p) (ds := ds) (.inr (by omega))
      rw [e1, e2]
      clear e1 e2 v5
      go_enter Tryz.func69, Tryz.ntmps69
      go_wp2_with fail
      refine (Valid_any _ _ _ _ _).mono ?_
      rintro e W2 ⟨rfl, hb2⟩
      have k3 := k1.next hb2
      have k4 := k2.next hb2
      have c0 := k3.cell 0
      have c1 := k3.cell 1
      have c2 := k4.cell 0
      simp only [List.getElem?_toArray, List.getElem?_cons_zero, List.getElem?_cons_succ] at c0 c1 c2
      have hbb := bt hb2 hB0
      clear k1 k2 hb2 hB0 k3 k4
      go_wp2
      go_ret2
      exact ⟨none, 0, rfl, Nat.le_refl _, RdFs.nil, hbb⟩
  · have hv' : validB s bs.length = false := by simpa using hv
    obtain ⟨e1, e2⟩ := prog_bad (m := (s, bs)) (p := p) (ds := ds) (.inl hv')
    rw [e1, e2]
    clear e1 e2 hv
    go_enter Tryz.func69, Tryz.ntmps69
    go_wp2_with fail
    refine (Valid_any _ _ _ _ _).mono ?_
    rintro e W2 ⟨rfl, hb2⟩
    have k3 := k1.next hb2
    have k4 := k2.next hb2
    have c0 := k3.cell 0
    have c1 := k3.cell 1
    have c2 := k4.cell 0
    simp only [List.getElem?_toArray, List.getElem?_cons_zero, List.getElem?_cons_succ] at c0 c1 c2
    have hbb := bt hb2 hB0
    clear k1 k2 hb2 hB0 k3 k4
    go_wp2
    go_ret2
    exact ⟨none, 0, rfl, Nat.le_refl _, RdFs.nil, hbb⟩

set_option maxHeartbeats 2000000 in
theorem Erase_any (m : Mem) (k : Int) (A : Option Addr) (c : Nat) (w : World) (hA : RdB w w.heap.size A m.2) (hn : m.2.length ≤ 1000000000) (hp0 : -9223372036854775808 ≤ k) (hp1 : k ≤ 9223372036854775807) :
    Calls Tryz.prog 74 #[.agg #[.int .i64 m.1, .slice A m.2.length c], .int .i64 k] w (ListPost w (eraL m k) (eraE m k)) := by
  obtain ⟨s, bs⟩ := m
  dsimp only at *
  have HA := Lib.hid hA
  clear hA
  have hB0 : Below w.heap.size w (w.alloc (.cells #[.int .i64 s, .slice A bs.length c] 24)) := (Below.refl _ w).alloc (Nat.le_refl _) _
  have k1 : Bk (w.alloc (.cells #[.int .i64 s, .slice A bs.length c] 24)) w.heap.size 24 #[.int .i64 s, .slice A bs.length c] := Bk.new _ _ _
  by_cases hv : validB s bs.length = true
  · have hv' := (valid_iff _ _).1 hv
    obtain ⟨v1, v2, v3, v4, v5⟩ := hv'
    have d0 : 0 ≤ (bs.length : Int) / s := Int.ediv_nonneg (by omega) (by omega)
    have d1 : (bs.length : Int) / s ≤ 4096 := Int.le_trans (Int.ediv_le_self _ (by omega)) (by omega)
    by_cases h0 : 0 ≤ k
    · by_cases h1 : k < (bs.length : Int) / s
      · obtain ⟨e1, e2⟩ := era_in (m := (s, bs)) hv h0 h1
        rw [e1, e2]
        clear e1 e2
        obtain ⟨q0, q1⟩ := sector_in v1 v5 h0 h1
        have HQ : Hid ((k * s).toNat + s.toNat ≤ bs.length) := by show (k * s).toNat + s.toNat ≤ bs.length; omega
        obtain ⟨x, hx⟩ := Int.eq_ofNat_of_zero_le q0
        have HX := Lib.hid hx
        have q2 : k * s ≤ 4096 := by omega
        clear v5 hx
        go_enter Tryz.func74, Tryz.ntmps74
        go_wp2_with fail
        refine (Valid_any _ _ _ _ _).mono ?_
        rintro e W2 ⟨rfl, hb2⟩
        have k3 := k1.next hb2
        have c0 := k3.cell 0
        have c1 := k3.cell 1
        simp only [List.getElem?_toArray, List.getElem?_cons_zero, List.getElem?_cons_succ] at c0 c1
        have hbb := bt hb2 hB0
        clear k1 hb2 hB0
        go_wp2_with fail
        refine (memories_any s A bs.length c (k * s) s _ ⟨_, _, rfl⟩ _).mono ?_
        rintro e W3 ⟨rfl, hW3⟩
        have hb3 : Below W2.heap.size W2 W3 := by
          rw [hW3]
          exact (((Below.refl _ _).alloc (Nat.le_refl _) _).alloc (by simp) _).alloc (by simp; omega) _ |>.alloc (by simp; omega) _
        have g1 : Bk W3 W2.heap.size 24 #[.int .i64 s, .slice A bs.length c] := by rw [hW3]; exact (((Bk.new _ _ _).alloc _).alloc _).alloc _
        have g2 : Bk W3 (W2.heap.size + 1) 3 #[.int .i64 ((k * s).toNat : Int)] := by rw [hW3, Int.toNat_of_nonneg q0]; exact bkOf (by simp [at?_alloc])
        have g3 : Bk W3 (W2.heap.size + 2) 3 #[.int .i64 (s.toNat : Int)] := by rw [hW3, Int.toNat_of_nonneg (by omega)]; exact bkOf (by simp [at?_alloc])
        have g4 : Bk W3 (W2.heap.size + 3) 104 #[.func (.func 88) #[] #[]] := by rw [hW3]; exact bkOf (by simp [at?_alloc])
        have hseq := memories_erase s bs (k * s).toNat s.toNat W2.heap.size (W2.heap.size + 2) (W2.heap.size + 3) (W2.heap.size + 1) A c W3 g1 ((HA.out.next hbb).next hb3) g3 g2 g4 HQ.out (by omega)
        have hbw3 := bt hb3 hbb
        clear hW3 g1 g2 g3 g4 c0 c1 k3 hb3
        go_wp2_with fail
        refine (collect_any s _ _ (s.toNat + 1) (by omega) W3 hseq).mono ?_
        rintro e W4 ⟨A4, c4, rfl, hc4, hr4, hb4⟩
        go_wp2
        go_ret2
        exact ⟨A4, c4, by simp, by simpa using hc4, by simpa using hr4, bt hb4 hbw3⟩
      · have h1' : (bs.length : Int) / s ≤ k := by omega
        obtain ⟨e1, e2⟩ := era_bad (m := (s, bs)) (k := k) (.inr (.inr h1))
        rw [e1, e2]
        clear e1 e2 v5
        go_enter Tryz.func74, Tryz.ntmps74
        go_wp2_with fail
        refine (Valid_any _ _ _ _ _).mono ?_
        rintro e W2 ⟨rfl, hb2⟩
        have k3 := k1.next hb2
        have c0 := k3.cell 0
        have c1 := k3.cell 1
        simp only [List.getElem?_toArray, List.getElem?_cons_zero, List.getElem?_cons_succ] at c0 c1
        have hbb := bt hb2 hB0
        clear k1 hb2 hB0 k3
        go_wp2
        go_ret2
        exact ⟨none, 0, rfl, Nat.le_refl _, RdFs.nil, hbb⟩
    · obtain ⟨e1, e2⟩ := era_bad (m := (s, bs)) (k := k) (.inr (.inl (by omega)))
      rw [e1, e2]
      clear e1 e2 v5
      go_enter Tryz.func74, Tryz.ntmps74
      go_wp2_with fail
      refine (Valid_any _ _ _ _ _).mono ?_
      rintro e W2 ⟨rfl, hb2⟩
      have k3 := k1.next hb2
      have c0 := k3.cell 0
      have c1 := k3.cell 1
      simp only [List.getElem?_toArray, List.getElem?_cons_zero, List.getElem?_cons_succ] at c0 c1
      have hbb := bt hb2 hB0
      clear k1 hb2 hB0 k3
      go_wp2
      go_ret2
      exact ⟨none, 0, rfl, Nat.le_refl _, RdFs.nil, hbb⟩
  · have hv' : validB s bs.length = false := by simpa using hv
    obtain ⟨e1, e2⟩ := era_bad (m := (s, bs)) (k := k) (.inl hv')
    rw [e1, e2]
    clear e1 e2 hv
    go_enter Tryz.func74, Tryz.ntmps74
    go_wp2_with fail
    refine (Valid_any _ _ _ _ _).mono ?_
    rintro e W2 ⟨rfl, hb2⟩
    have k3 := k1.next hb2
    have c0 := k3.cell 0
    have c1 := k3.cell 1
    simp only [List.getElem?_toArray, List.getElem?_cons_zero, List.getElem?_cons_succ] at c0 c1
    have hbb := bt hb2 hB0
    clear k1 hb2 hB0 k3
    go_wp2
    go_ret2
    exact ⟨none, 0, rfl, Nat.le_refl _, RdFs.nil, hbb⟩
end Go.Proofs.YthebojaminploaaGreatDoor

/- flash.New: an erased memory. -/
set_option maxRecDepth 100000
set_option linter.unusedVariables false
namespace Go.Proofs.YthebojaminploaaGreatDoor
open Go.RowKit

def newE (s k : Int) : Int := if 1 ≤ s ∧ s ≤ 512 ∧ 1 ≤ k ∧ k ≤ 4096 / s then 0 else 1
def newM (s k : Int) : Mem := if newE s k = 0 then (s, List.replicate (s * k).toNat 255) else (0, [])
theorem new_in {s k : Int} (h1 : 1 ≤ s) (h2 : s ≤ 512) (h3 : 1 ≤ k) (h4 : k ≤ 4096 / s) : newE s k = 0 ∧ newM s k = (s, List.replicate (s * k).toNat 255) := by simp [newE, newM, h1, h2, h3, h4]
theorem new_out {s k : Int} (h : ¬ (1 ≤ s ∧ s ≤ 512 ∧ 1 ≤ k ∧ k ≤ 4096 / s)) : newE s k = 1 ∧ newM s k = (0, []) := by simp [newE, newM, h]
theorem new_bd {s k : Int} (h1 : 1 ≤ s) (h3 : 1 ≤ k) (h4 : k ≤ 4096 / s) : 1 ≤ s * k ∧ s * k ≤ 4096 ∧ s ≤ s * k := by
  have e : s * (4096 / s) ≤ 4096 := by have := Int.mul_ediv_self_le (x := 4096) (k := s) (by omega); omega
  have a : s * k ≤ s * (4096 / s) := Int.mul_le_mul_of_nonneg_left h4 (by omega)
  have b : s * 1 ≤ s * k := Int.mul_le_mul_of_nonneg_left h3 (by omega)
  omega

/-- an array in the middle of the loop -/
def half (n k : Nat) : Array Value := (u8s (List.replicate k 255 ++ List.replicate (n - k) 0)).toArray
theorem half_zero (n : Nat) : half n 0 = zeros n := by
  apply Array.ext'
  simp [half, zeros, u8s, u8]
theorem half_set (n k : Nat) (h : k < n) : (half n k).setIfInBounds k (.int .u8 255) = half n (k + 1) := by
  unfold half
  rw [show (Value.int .u8 255) = .int .u8 ((255 : UInt8).toNat : Int) from rfl]
  rw [u8s_set]
  congr 2
  rw [List.set_append_right _ _ (by simp)]
  simp only [List.length_replicate, Nat.sub_self]
  rw [show n - k = (n - (k + 1)) + 1 from by omega, List.replicate_succ, List.set_cons_zero, List.replicate_succ']
  simp
theorem half_size (n k : Nat) (h : k ≤ n) : (half n k).size = n := by simp [half]; omega
theorem half_full (n : Nat) : half n n = (u8s (List.replicate n 255)).toArray := by simp [half]

def NewPost (w : World) (s k : Int) (e : Ending) (w' : World) : Prop :=
  ∃ A c, e = .returned (.tuple #[.agg #[.int .i64 (newM s k).1, .slice A (newM s k).2.length c], .int .i64 (newE s k)]) ∧ (newM s k).2.length ≤ c ∧ RdB w' w'.heap.size A (newM s k).2 ∧ Below w.heap.size w w' ∧
    (newE s k = 0 → ∃ g, A = some ⟨g, 0, none⟩ ∧ w.heap.size ≤ g ∧ c = (newM s k).2.length ∧ Bk w' g 5 (u8s (newM s k).2).toArray)

set_option maxHeartbeats 2000000 in
theorem New_any (s k : Int) (w : World) (hs0 : -9223372036854775808 ≤ s) (hs1 : s ≤ 9223372036854775807) (hp0 : -9223372036854775808 ≤ k) (hp1 : k ≤ 9223372036854775807) :
    Calls Tryz.prog 60 #[.int .i64 s, .int .i64 k] w (NewPost w s k) := by
  by_cases h1 : 1 ≤ s
  · by_cases h2 : s ≤ 512
    · have d0 : 0 ≤ 4096 / s := Int.ediv_nonneg (by omega) (by omega)
      have d1 : 4096 / s ≤ 4096 := Int.ediv_le_self _ (by omega)
      by_cases h3 : 1 ≤ k
      · by_cases h4 : k ≤ 4096 / s
        · obtain ⟨b1, b2, b3⟩ := new_bd h1 h3 h4
          obtain ⟨e1, e2⟩ := new_in h1 h2 h3 h4
          obtain ⟨n, hn⟩ := Int.eq_ofNat_of_zero_le (a := s * k) (by omega)
          have hn' : (s * k).toNat = n := by omega
          have hmk := run_make_u8 n (by omega)
          have HE : Hid (newE s k = 0 ∧ newM s k = (s, List.replicate n 255)) := ⟨e1, by rw [e2, hn']⟩
          have hn1 : 1 ≤ n := by omega
          have hn2 : n ≤ 4096 := by omega
          clear e1 e2 hn' b1 b2 b3
          go_enter Tryz.func60, Tryz.ntmps60
          go_wp2
          go_loopw [34] (fun i wr => ∃ j : Nat, i = .int .i64 (j : Int) ∧ j ≤ n ∧ Bk wr w.heap.size 24 #[.int .i64 0, .slice none 0 0] ∧ Bk wr (w.heap.size + 1) 5 (half n j) ∧ Bk wr (w.heap.size + 2) 24 #[.int .i64 s, .slice (some ⟨w.heap.size + 1, 0, none⟩) n n] ∧ Below w.heap.size w wr) (fun i _ => n - (intOf i).toNat)
          case atStart => exact ⟨0, rfl, Nat.zero_le _, ((Bk.new _ _ _).alloc _).alloc _, by rw [half_zero]; exact bkOf (by simp [at?_alloc]), bkOf (by simp [at?_alloc]), (((Below.refl _ w).alloc (Nat.le_refl _) _).alloc (by simp) _).alloc (by simp; omega) _⟩
          case round =>
            obtain ⟨j, rfl, hj, k1, k2, k3, hb⟩ := hrel
            have c0 := k3.cell 0
            have c1 := k3.cell 1
            have t0 := k1.cell 0
            have t1 := k1.cell 1
            have f0 := k1.frozen 0
            have f1 := k1.frozen 1
            simp only [List.getElem?_toArray, List.getElem?_cons_zero, List.getElem?_cons_succ] at c0 c1 t0 t1
            by_cases hlt : j < n
            · have hcj : ∃ u, wr.cell? ⟨w.heap.size + 1, j, none⟩ = some u := ⟨_, (k2.cell j).trans (Array.getElem?_eq_getElem (by rw [half_size n j hj]; exact hlt))⟩
              obtain ⟨u, hu⟩ := hcj
              have fj := k2.frozen j
              go_wp2
              go_roundw
              case rel => exact ⟨j + 1, by go_num, by omega, k1.far (p := ⟨w.heap.size + 1, j, none⟩) (by show w.heap.size ≠ w.heap.size + 1; omega) _, by rw [← half_set n j hlt]; exact k2.set j _, k3.far (p := ⟨w.heap.size + 1, j, none⟩) (by show w.heap.size + 2 ≠ w.heap.size + 1; omega) _, hb.setCell (p := ⟨w.heap.size + 1, j, none⟩) (by show _ ≤ w.heap.size + 1; omega) _⟩
              case measure => simp [intOf]; omega
            · obtain rfl : j = n := by omega
              have k4 := k2
              rw [half_full] at k4
              go_wp2
              refine bodyPost_ret (v := .tuple #[.agg #[.int .i64 s, .slice (some ⟨w.heap.size + 1, 0, none⟩) j j], .int .i64 0]) (by simp [results, Tryz.results60, go_sem, t0, t1]) rfl ?_
              unfold NewPost
              rw [HE.out.1, HE.out.2]
              have k5 : Bk ((wr.setCell ⟨w.heap.size, 0, none⟩ (.int .i64 s)).setCell ⟨w.heap.size, 1, none⟩ (.slice (some ⟨w.heap.size + 1, 0, none⟩) j j)) (w.heap.size + 1) 5 (u8s (List.replicate j 255)).toArray := (k4.far (p := ⟨w.heap.size, 0, none⟩) (by show w.heap.size + 1 ≠ w.heap.size; omega) _).far (p := ⟨w.heap.size, 1, none⟩) (by show w.heap.size + 1 ≠ w.heap.size; omega) _
              refine ⟨some ⟨w.heap.size + 1, 0, none⟩, j, by simp, by simp, RdB.of_bk k5 k5.lt, (hb.setCell (p := ⟨w.heap.size, 0, none⟩) (Nat.le_refl _) _).setCell (p := ⟨w.heap.size, 1, none⟩) (Nat.le_refl _) _, fun _ => ⟨w.heap.size + 1, rfl, by omega, by simp, k5⟩⟩
        · have h4' : 4096 / s < k := by omega
          obtain ⟨e1, e2⟩ := new_out (s := s) (k := k) (by omega)
          have HE : Hid (newE s k = 1 ∧ newM s k = (0, [])) := ⟨e1, e2⟩
          clear e1 e2
          go_enter Tryz.func60, Tryz.ntmps60
          go_wp2
          refine bodyPost_ret (v := .tuple #[.agg #[.int .i64 0, .slice none 0 0], .int .i64 1]) (by simp [results, Tryz.results60, go_sem]) rfl ?_
          unfold NewPost
          rw [HE.out.1, HE.out.2]
          exact ⟨none, 0, rfl, Nat.le_refl _, RdS.nil, (Below.refl _ _).alloc (Nat.le_refl _) _, fun h => by simp at h⟩
      · have h3' : k < 1 := by omega
        obtain ⟨e1, e2⟩ := new_out (s := s) (k := k) (by omega)
        have HE : Hid (newE s k = 1 ∧ newM s k = (0, [])) := ⟨e1, e2⟩
        clear e1 e2
        go_enter Tryz.func60, Tryz.ntmps60
        go_wp2
        refine bodyPost_ret (v := .tuple #[.agg #[.int .i64 0, .slice none 0 0], .int .i64 1]) (by simp [results, Tryz.results60, go_sem]) rfl ?_
        unfold NewPost
        rw [HE.out.1, HE.out.2]
        exact ⟨none, 0, rfl, Nat.le_refl _, RdS.nil, (Below.refl _ _).alloc (Nat.le_refl _) _, fun h => by simp at h⟩
    · have h2' : 512 < s := by omega
      obtain ⟨e1, e2⟩ := new_out (s := s) (k := k) (by omega)
      have HE : Hid (newE s k = 1 ∧ newM s k = (0, [])) := ⟨e1, e2⟩
      clear e1 e2
      go_enter Tryz.func60, Tryz.ntmps60
      go_wp2
      refine bodyPost_ret (v := .tuple #[.agg #[.int .i64 0, .slice none 0 0], .int .i64 1]) (by simp [results, Tryz.results60, go_sem]) rfl ?_
      unfold NewPost
      rw [HE.out.1, HE.out.2]
      exact ⟨none, 0, rfl, Nat.le_refl _, RdS.nil, (Below.refl _ _).alloc (Nat.le_refl _) _, fun h => by simp at h⟩
  · have h1' : s < 1 := by omega
    obtain ⟨e1, e2⟩ := new_out (s := s) (k := k) (by omega)
    have HE : Hid (newE s k = 1 ∧ newM s k = (0, [])) := ⟨e1, e2⟩
    clear e1 e2
    go_enter Tryz.func60, Tryz.ntmps60
    go_wp2
    refine bodyPost_ret (v := .tuple #[.agg #[.int .i64 0, .slice none 0 0], .int .i64 1]) (by simp [results, Tryz.results60, go_sem]) rfl ?_
    unfold NewPost
    rw [HE.out.1, HE.out.2]
    exact ⟨none, 0, rfl, Nat.le_refl _, RdS.nil, (Below.refl _ _).alloc (Nat.le_refl _) _, fun h => by simp at h⟩
end Go.Proofs.YthebojaminploaaGreatDoor

/- The reference's New and With. -/
set_option maxRecDepth 100000
set_option linter.unusedVariables false
namespace Go.Proofs.YthebojaminploaaGreatDoor
open Go.RowKit

theorem news1 (W : World) (t : TypeId) (a : Value) : ∀ j u, [a][j]? = some u → (W.alloc (.cells #[a] t)).cell? ((⟨W.heap.size, 0, none⟩ : Addr).add j) = some u := by
  intro j u hj
  rw [add_mk, (Bk.new W t #[a]).cell]
  simpa using hj

/-- a row of the call's own lies in another block than one of another type -/
theorem own_ne {W : World} {base size k g : Nat} {e t : TypeId} {v : Value} {xs : List Value} {cs : Array Value} (hr : W.ownsRow base e size v k xs) (hk : Bk W g t cs) (hne : t ≠ e) : some g ≠ v.ownBlock := by
  intro he
  rcases hr.2 with ⟨rfl, _⟩ | ⟨g', cap, cur, rfl, _, hh, _⟩
  · simp [Value.ownBlock] at he
  · obtain rfl : g = g' := by simpa [Value.ownBlock] using he
    exact Bk.ne hk (t' := e) (cs' := cur) hh hne rfl
theorem own_ge {W : World} {base size k : Nat} {e : TypeId} {v : Value} {xs : List Value} (hr : W.ownsRow base e size v k xs) : ∀ g, v.ownBlock = some g → base ≤ g := by
  intro g hg
  rcases hr.2 with ⟨rfl, _⟩ | ⟨g', cap, cur, rfl, hb, _⟩
  · simp [Value.ownBlock] at hg
  · obtain rfl : g' = g := by simpa [Value.ownBlock] using hg
    exact hb
theorem own_set_far {W : World} {base size k : Nat} {e : TypeId} {v : Value} {xs : List Value} (hr : W.ownsRow base e size v k xs) {p : Addr} (hp : some p.block ≠ v.ownBlock) (u : Value) : (W.setCell p u).ownsRow base e size v k xs := by
  obtain ⟨h1, h2⟩ := hr
  refine ⟨h1, ?_⟩
  rcases h2 with h2 | ⟨g, cap, cur, rfl, hg, hh, r⟩
  · exact .inl h2
  · exact .inr ⟨g, cap, cur, rfl, hg, (Below.heap_setCell W p u g (fun e => hp (by rw [← e]; rfl))).trans hh, r⟩

/-- one byte more in a field's slice: the box at b, its second cell the slice -/
theorem field_append {w W w1 : World} {b base : Nat} {s : Int} {v v' : Value} {k m : Nat} {xs ys : List Value} {tmp : Obj} (hbox : Bk W b 24 #[.int .i64 s, v]) (hr : W.ownsRow base 5 1 v k xs) (hB : base ≤ W.heap.size) (hlow : w.heap.size ≤ base) (hwb : w.heap.size ≤ b) (hbl : Below w.heap.size w W)
    (hown : w1.ownsRow base 5 1 v' m ys) (hgrow : (W.alloc tmp).grownBy w1 v.ownBlock) :
    Bk w1 b 24 #[.int .i64 s, v] ∧ Bk (w1.setCell ⟨b, 1, none⟩ v') b 24 #[.int .i64 s, v'] ∧ (w1.setCell ⟨b, 1, none⟩ v').ownsRow base 5 1 v' m ys ∧ Below w.heap.size w (w1.setCell ⟨b, 1, none⟩ v') ∧ W.heap.size ≤ w1.heap.size := by
  have h1 : Bk w1 b 24 #[.int .i64 s, v] := (hbox.alloc tmp).grown hgrow (own_ne hr hbox (by decide))
  have hsz : W.heap.size ≤ w1.heap.size := by have := hgrow.size; simp at this; omega
  refine ⟨h1, by simpa using h1.set 1 v', own_set_far hown (by exact own_ne hown h1 (by decide)) _, ?_, hsz⟩
  refine ((hbl.alloc (by omega) tmp).grown hgrow (by simp; omega) (fun g hg => ?_)).setCell (p := ⟨b, 1, none⟩) hwb _
  have := own_ge hr g hg
  omega

def rNewPost (w : World) (s k : Int) (e : Ending) (w' : World) : Prop :=
  ∃ A c, e = .returned (.tuple #[.agg #[.int .i64 (newM s k).1, .slice A (newM s k).2.length c], .int .i64 (newE s k)]) ∧ (newM s k).2.length ≤ c ∧ RdB w' w'.heap.size A (newM s k).2 ∧ Below w.heap.size w w' ∧
    w'.ownsRow w.heap.size 5 1 (.slice A (newM s k).2.length c) (newM s k).2.length (u8s (newM s k).2)

set_option maxHeartbeats 2000000 in
theorem rNew_any (s k : Int) (w : World) (hs0 : -9223372036854775808 ≤ s) (hs1 : s ≤ 9223372036854775807) (hp0 : -9223372036854775808 ≤ k) (hp1 : k ≤ 9223372036854775807) :
    Calls Tryz.prog 62 #[.int .i64 s, .int .i64 k] w (rNewPost w s k) := by
  obtain ⟨i0, hi, hz0, hz1, hz2⟩ := info_parts info_u8
  by_cases h1 : 1 ≤ s
  · by_cases h2 : s ≤ 512
    · have d0 : 0 ≤ 4096 / s := Int.ediv_nonneg (by omega) (by omega)
      have d1 : 4096 / s ≤ 4096 := Int.ediv_le_self _ (by omega)
      by_cases h3 : 1 ≤ k
      · by_cases h4 : k ≤ 4096 / s
        · obtain ⟨b1, b2, b3⟩ := new_bd h1 h3 h4
          obtain ⟨e1, e2⟩ := new_in h1 h2 h3 h4
          obtain ⟨n, hn⟩ := Int.eq_ofNat_of_zero_le (a := s * k) (by omega)
          have hn' : (s * k).toNat = n := by omega
          have HE : Hid (newE s k = 0 ∧ newM s k = (s, List.replicate n 255)) := ⟨e1, by rw [e2, hn']⟩
          have hn1 : 1 ≤ n := by omega
          have hn2 : n ≤ 4096 := by omega
          clear e1 e2 hn' b1 b2 b3
          go_enter Tryz.func62, Tryz.ntmps62
          go_wp2
          go_loopw [7] (fun i wr => ∃ (j : Nat) (v : Value), i = .int .i64 (j : Int) ∧ j ≤ n ∧ Bk wr w.heap.size 24 #[.int .i64 0, .slice none 0 0] ∧ Bk wr (w.heap.size + 1) 24 #[.int .i64 s, v] ∧ wr.ownsRow (w.heap.size + 2) 5 1 v j (u8s (List.replicate j 255)) ∧ Below w.heap.size w wr ∧ w.heap.size + 2 ≤ wr.heap.size) (fun i _ => n - (intOf i).toNat)
          case atStart => exact ⟨0, _, rfl, Nat.zero_le _, (Bk.new _ _ _).alloc _, bkOf (by simp [at?_alloc]), World.ownsRow_nil _ _ _ _, ((Below.refl _ w).alloc (Nat.le_refl _) _).alloc (by simp) _, by simp⟩
          case round =>
            obtain ⟨j, v, rfl, hj, k1, k2, hr, hb, hz⟩ := hrel
            have c0 := k2.cell 0
            have c1 := k2.cell 1
            have g0 := k2.frozen 0
            have g1 := k2.frozen 1
            have t0 := k1.cell 0
            have t1 := k1.cell 1
            have f0 := k1.frozen 0
            have f1 := k1.frozen 1
            simp only [List.getElem?_toArray, List.getElem?_cons_zero, List.getElem?_cons_succ] at c0 c1 t0 t1
            by_cases hlt : j < n
            · go_wp2_with (at_builtin; refine wpList_append_own _ rfl _ _ 22 rfl (w.heap.size + 2) 5 i0 (.int .u8 0) 1 1 Tryz.underlying22 hi hz0 hz1 hz2 rfl (by decide) v j (u8s (List.replicate j 255)) rfl (hr.alloc _) ⟨wr.heap.size, 0, none⟩ 1 1 [.int .u8 255] rfl rfl (news1 _ _ _) (by simp [Value.oneCell']) (by simp only [maxLen]; omega) (by omega) (by simp; omega) ?_; intro v' w1 hown' hgrow _; obtain ⟨g', cap', rfl⟩ := ownsRow_succ hown'; obtain ⟨r1, r2, r3, r4, r5⟩ := field_append (w := w) k2 hr hz (by omega) (by omega) hb hown' hgrow; have d2 := r1.cell 1; have d3 := r1.frozen 1; have d4 := (k1.alloc _).grown hgrow (own_ne hr k1 (by decide)))
              go_roundw
              case rel => exact ⟨j + 1, _, by go_num, by omega, d4.far (p := ⟨w.heap.size + 1, 1, none⟩) (by show w.heap.size ≠ w.heap.size + 1; omega) _, r2, by rw [List.replicate_succ']; simpa [u8s, u8] using r3, r4, by have : w1.heap.size = (w1.setCell ⟨w.heap.size + 1, 1, none⟩ (.slice (some ⟨g', 0, none⟩) (j + 1) cap')).heap.size := (by simp [World.setCell]); omega⟩
              case measure => simp [intOf]; omega
            · obtain rfl : j = n := by omega
              obtain ⟨g, cap, hv⟩ : ∃ g cap, v = .slice (some ⟨g, 0, none⟩) j cap := by
                obtain ⟨m, rfl⟩ : ∃ m, j = m + 1 := ⟨j - 1, by omega⟩
                exact ownsRow_succ hr
              subst hv
              have hcap : j ≤ cap := by
                rcases hr.2 with ⟨h, _⟩ | ⟨_, _, _, h, _, _, hh, _⟩
                · cases h
                · injection h with _ _ h; omega
              go_wp2
              refine bodyPost_ret (v := .tuple #[.agg #[.int .i64 s, .slice (some ⟨g, 0, none⟩) j cap], .int .i64 0]) (by simp [results, Tryz.results62, go_sem, t0, t1]) rfl ?_
              unfold rNewPost
              rw [HE.out.1, HE.out.2]
              have hr2 := own_set_far (p := ⟨w.heap.size, 1, none⟩) (own_set_far (p := ⟨w.heap.size, 0, none⟩) hr (by exact own_ne hr k1 (by decide)) (.int .i64 s)) (by exact own_ne hr k1 (by decide)) (.slice (some ⟨g, 0, none⟩) j cap)
              have hr3 : (((wr.setCell ⟨w.heap.size, 0, none⟩ (.int .i64 s)).setCell ⟨w.heap.size, 1, none⟩ (.slice (some ⟨g, 0, none⟩) j cap))).ownsRow w.heap.size 5 1 (.slice (some ⟨g, 0, none⟩) j cap) j (u8s (List.replicate j 255)) := by
                obtain ⟨x1, x2⟩ := hr2
                refine ⟨x1, ?_⟩
                rcases x2 with x2 | ⟨g', cap', cur, x3, x4, x5⟩
                · exact .inl x2
                · exact .inr ⟨g', cap', cur, x3, by omega, x5⟩
              refine ⟨some ⟨g, 0, none⟩, cap, by simp, by simpa using hcap, ?_, (hb.setCell (p := ⟨w.heap.size, 0, none⟩) (Nat.le_refl _) _).setCell (p := ⟨w.heap.size, 1, none⟩) (Nat.le_refl _) _, by simpa using hr3⟩
              have := RdS.of_own hr3
              simpa [RdB] using this
        · have h4' : 4096 / s < k := by omega
          obtain ⟨e1, e2⟩ := new_out (s := s) (k := k) (by omega)
          have HE : Hid (newE s k = 1 ∧ newM s k = (0, [])) := ⟨e1, e2⟩
          clear e1 e2
          go_enter Tryz.func62, Tryz.ntmps62
          go_wp2
          refine bodyPost_ret (v := .tuple #[.agg #[.int .i64 0, .slice none 0 0], .int .i64 1]) (by simp [results, Tryz.results62, go_sem]) rfl ?_
          unfold rNewPost
          rw [HE.out.1, HE.out.2]
          exact ⟨none, 0, rfl, Nat.le_refl _, RdS.nil, (Below.refl _ _).alloc (Nat.le_refl _) _, World.ownsRow_nil _ _ _ _⟩
      · have h3' : k < 1 := by omega
        obtain ⟨e1, e2⟩ := new_out (s := s) (k := k) (by omega)
        have HE : Hid (newE s k = 1 ∧ newM s k = (0, [])) := ⟨e1, e2⟩
        clear e1 e2
        go_enter Tryz.func62, Tryz.ntmps62
        go_wp2
        refine bodyPost_ret (v := .tuple #[.agg #[.int .i64 0, .slice none 0 0], .int .i64 1]) (by simp [results, Tryz.results62, go_sem]) rfl ?_
        unfold rNewPost
        rw [HE.out.1, HE.out.2]
        exact ⟨none, 0, rfl, Nat.le_refl _, RdS.nil, (Below.refl _ _).alloc (Nat.le_refl _) _, World.ownsRow_nil _ _ _ _⟩
    · have h2' : 512 < s := by omega
      obtain ⟨e1, e2⟩ := new_out (s := s) (k := k) (by omega)
      have HE : Hid (newE s k = 1 ∧ newM s k = (0, [])) := ⟨e1, e2⟩
      clear e1 e2
      go_enter Tryz.func62, Tryz.ntmps62
      go_wp2
      refine bodyPost_ret (v := .tuple #[.agg #[.int .i64 0, .slice none 0 0], .int .i64 1]) (by simp [results, Tryz.results62, go_sem]) rfl ?_
      unfold rNewPost
      rw [HE.out.1, HE.out.2]
      exact ⟨none, 0, rfl, Nat.le_refl _, RdS.nil, (Below.refl _ _).alloc (Nat.le_refl _) _, World.ownsRow_nil _ _ _ _⟩
  · have h1' : s < 1 := by omega
    obtain ⟨e1, e2⟩ := new_out (s := s) (k := k) (by omega)
    have HE : Hid (newE s k = 1 ∧ newM s k = (0, [])) := ⟨e1, e2⟩
    clear e1 e2
    go_enter Tryz.func62, Tryz.ntmps62
    go_wp2
    refine bodyPost_ret (v := .tuple #[.agg #[.int .i64 0, .slice none 0 0], .int .i64 1]) (by simp [results, Tryz.results62, go_sem]) rfl ?_
    unfold rNewPost
    rw [HE.out.1, HE.out.2]
    exact ⟨none, 0, rfl, Nat.le_refl _, RdS.nil, (Below.refl _ _).alloc (Nat.le_refl _) _, World.ownsRow_nil _ _ _ _⟩
end Go.Proofs.YthebojaminploaaGreatDoor

/- The reference's With: a memory in which one byte is another one. -/
set_option maxRecDepth 100000
set_option linter.unusedVariables false
set_option linter.unusedSimpArgs false
namespace Go.Proofs.YthebojaminploaaGreatDoor
open Go.RowKit

theorem en2 (n : Nat) : (n = n + 1 + 1) = False := by simp only [eq_iff_iff, iff_false]; omega
theorem en3 (n : Nat) : (n = n + 1 + 1 + 1) = False := by simp only [eq_iff_iff, iff_false]; omega
theorem en4 (n : Nat) : (n = n + 1 + 1 + 1 + 1) = False := by simp only [eq_iff_iff, iff_false]; omega
theorem own_empty {W : World} {g base : Nat} (h : at? W g = some (.cells #[] 5 (0, 0))) (hb : base ≤ g) : W.ownsRow base 5 1 (.slice (some ⟨g, 0, none⟩) 0 0) 0 [] :=
  ⟨rfl, .inr ⟨g, 0, #[], rfl, hb, h, Nat.le_refl _, by simp [maxLen], rfl, rfl⟩⟩

theorem boxFacts {w : World} {k : Nat} {t : TypeId} {a b : Value} (h : Bk w k t #[a, b]) : w.cell? ⟨k, 0, none⟩ = some a ∧ w.cell? ⟨k, 1, none⟩ = some b ∧ w.frozen? ⟨k, 0, none⟩ = false ∧ w.frozen? ⟨k, 1, none⟩ = false :=
  ⟨by simpa using h.cell 0, by simpa using h.cell 1, h.frozen 0, h.frozen 1⟩
/-- what a slice owns: its room, that it may be written, what it owns behind a store of one byte -/
theorem own_parts {W : World} {base g cap : Nat} {bs : List UInt8} (h : W.ownsRow base 5 1 (.slice (some ⟨g, 0, none⟩) bs.length cap) bs.length (u8s bs)) {q : Nat} (hq : q < bs.length) (x : UInt8) :
    bs.length ≤ cap ∧ base ≤ g ∧ W.frozen? ⟨g, q, none⟩ = false ∧ (W.setCell ⟨g, q, none⟩ (.int .u8 (x.toNat : Int))).ownsRow base 5 1 (.slice (some ⟨g, 0, none⟩) bs.length cap) bs.length (u8s (bs.set q x)) := by
  rcases h.2 with ⟨h, _⟩ | ⟨g', cap', cur, hv, hb, hh, hc, hm, hs, ht⟩
  · cases h
  · obtain ⟨rfl, rfl⟩ : g = g' ∧ cap = cap' := by injection hv with a _ b; injection a with a; injection a with a; exact ⟨a, b⟩
    have hk : Bk W g 5 cur := hh
    refine ⟨hc, hb, hk.frozen q, by simp, .inr ⟨g, cap, _, rfl, hb, hk.set q _, hc, hm, by simpa using hs, ?_⟩⟩
    have e : u8s (bs.set q x) = (u8s bs).set q (.int .u8 (x.toNat : Int)) := by simp [u8s, u8, List.map_set]
    rw [e, ← ht, Array.toList_setIfInBounds, List.take_set]
theorem keepF {w : World} {k : Nat} {t : TypeId} {a b : Value} (h : Bk w k t #[a, b]) : w.cell? ⟨k, 0, none⟩ = some a ∧ w.cell? ⟨k, 1, none⟩ = some b := ⟨(boxFacts h).1, (boxFacts h).2.1⟩
theorem boxAfter {W w1 : World} {row : Option Nat} (k : Nat) (a b : Value) (hg : W.grownBy w1 row) (h : at? W k = some (.cells #[a, b] 24 (0, 0))) (hne : some k ≠ row) :
    w1.cell? ⟨k, 0, none⟩ = some a ∧ w1.cell? ⟨k, 1, none⟩ = some b ∧ w1.frozen? ⟨k, 0, none⟩ = false ∧ w1.frozen? ⟨k, 1, none⟩ = false := boxFacts (Bk.grown (bkOf h) hg hne)

set_option maxHeartbeats 2000000 in
theorem With_any (s : Int) (bs : List UInt8) (A : Option Addr) (c q : Nat) (x : UInt8) (w : World) (hA : RdB w w.heap.size A bs) (hq : q < bs.length) (hn : bs.length ≤ 1000000) :
    Calls Tryz.prog 79 #[.agg #[.int .i64 s, .slice A bs.length c], .int .i64 (q : Int), .int .u8 (x.toNat : Int)] w fun e w' => ∃ g cap, e = .returned (.agg #[.int .i64 s, .slice (some ⟨g, 0, none⟩) bs.length cap]) ∧ bs.length ≤ cap ∧ w.heap.size ≤ g ∧ RdB w' w'.heap.size (some ⟨g, 0, none⟩) (bs.set q x) ∧ Below w.heap.size w w' := by
  obtain ⟨i0, hi, hz0, hz1, hz2⟩ := info_parts info_u8
  obtain ⟨b, o, rfl, hb, hcell⟩ := hA.2 (by omega)
  have HC := Lib.hid hcell
  clear hcell hA
  go_enter Tryz.func79, Tryz.ntmps79
  go_wp2
  go_region_held3 (fun w' => w'.cell? ⟨w.heap.size, 0, none⟩ = some (.int .i64 s) ∧ w'.cell? ⟨w.heap.size, 1, none⟩ = some (.slice (some ⟨b, o, none⟩) bs.length c))
    (first
      | (simp [go_sem, World.cell?_alloc_past]; done)
      | exact keepF yB
      | exact keepF (yB.alloc _)
      | exact keepF ((yB.far (p := ⟨w.heap.size + 1 + 1, 0, none⟩) (by simp [en2]) _).far (p := ⟨w.heap.size + 1 + 1, 1, none⟩) (by simp [en2]) _)
      | exact keepF ((yB.far (p := ⟨w.heap.size + 1 + 1 + 1, 0, none⟩) (by simp [en3]) _).far (p := ⟨w.heap.size + 1 + 1 + 1, 1, none⟩) (by simp [en3]) _)
      | fail)
    ((refine step_append_lies _ (by rfl) _ _ _ (by rfl) w.heap.size 5 i0 _ 1 1 Tryz.underlying22 hi hz0 hz1 hz2 rfl (by omega) _ 0 [] (by rfl) (own_empty (by simp [at?_alloc, at?_drew]) (by omega)) ⟨b, o, none⟩ bs.length c (u8s bs) (by rfl) (by simp) (fun j u hj => by rw [add_mk]; refine Eq.trans (Below.cell (B := w.heap.size) (w := w) ?_ hb) (HC.out j u hj); repeat (first | exact Below.refl _ _ | refine Below.drew ?_ | refine Below.alloc ?_ (by simp <;> omega) _)) (u8s_one bs) (by omega) (by simp only [maxLen]; omega) (by omega) (by simp; omega) _ rfl ?_; intro g cap w1 hown hgrow hat hlt; have yB : Bk w1 w.heap.size 24 #[.int .i64 s, .slice (some ⟨b, o, none⟩) bs.length c] := Bk.grown (bkOf (by simp [at?_alloc, at?_drew, en2, en3])) hgrow (by simp [Value.ownBlock, en2, en3]); have ya := boxAfter (w.heap.size + 1 + 1) (.int .i64 0) (.slice none 0 0) hgrow; have yb := boxAfter (w.heap.size + 1 + 1 + 1) (.int .i64 0) (.slice none 0 0) hgrow; simp [at?_alloc, at?_drew, Value.ownBlock, ne2, ne3, en2, en3] at ya yb))
  · obtain ⟨W, hW⟩ : ∃ W, (w1.alloc (.cells #[.int .i64 s, .slice (some ⟨g, 0, none⟩) bs.length cap] 24)) = W := ⟨_, rfl⟩
    rw [hW]
    obtain ⟨p, hp⟩ : ∃ p, p = w1.heap.size := ⟨_, rfl⟩
    have h1 : Bk W p 24 #[.int .i64 s, .slice (some ⟨g, 0, none⟩) bs.length cap] := by rw [← hW, hp]; exact Bk.new _ _ _
    have h2 : W.ownsRow w.heap.size 5 1 (.slice (some ⟨g, 0, none⟩) bs.length cap) bs.length (u8s bs) := by rw [← hW]; exact (by simpa using hown.alloc _)
    have h3 : Bk W (w.heap.size + 1) 24 #[.int .i64 0, .slice none 0 0] := by rw [← hW]; exact (Bk.grown (t := 24) (cs := #[.int .i64 0, .slice none 0 0]) (bkOf (by simp [at?_alloc, at?_drew, en2, en3])) hgrow (by simp [Value.ownBlock])).alloc _
    have h4 : Below w.heap.size w W := by rw [← hW]; exact Below.alloc (((by repeat (first | exact Below.refl _ _ | refine Below.drew ?_ | refine Below.alloc ?_ (by simp <;> omega) _)) : Below w.heap.size w _).grown hgrow (by simp; omega) (by simp [Value.ownBlock]; omega)) (by have := hgrow.size; simp at this; omega) _
    have hp1 : p ≠ w.heap.size + 1 := by have := hgrow.size; simp at this; omega
    rw [← hp]
    clear hW hp hown hgrow hat hlt yB ya yb
    obtain ⟨c0, c1, c2, c3⟩ := boxFacts h1
    obtain ⟨t0, t1, t2, t3⟩ := boxFacts h3
    have hgne1 : some (w.heap.size + 1) ≠ (Value.slice (some ⟨g, 0, none⟩) bs.length cap).ownBlock := own_ne h2 h3 (by decide)
    have e0 : W.cell? ⟨g, q, none⟩ = some (.int .u8 (bs[q].toNat : Int)) := by have := h2.cells (g := g) rfl q _ (u8s_get bs q hq); rwa [add_mk, Nat.zero_add] at this
    obtain ⟨hcap, hgw, hgfz, hst⟩ := own_parts h2 hq x
    have HST := Lib.hid hst
    have HNE := Lib.hid hgne1
    have HP1 := Lib.hid hp1
    clear hst hgne1 hp1
    have d0 : (W.setCell ⟨g, q, none⟩ (.int .u8 (x.toNat : Int))).cell? ⟨p, 0, none⟩ = some (.int .i64 s) := (World.cell?_setCell_other _ _ _ _ (fun e => own_ne h2 h1 (by decide) (by injection e with e; rw [e]; rfl))).trans c0
    have d1 : (W.setCell ⟨g, q, none⟩ (.int .u8 (x.toNat : Int))).cell? ⟨p, 1, none⟩ = some (.slice (some ⟨g, 0, none⟩) bs.length cap) := (World.cell?_setCell_other _ _ _ _ (fun e => own_ne h2 h1 (by decide) (by injection e with e; rw [e]; rfl))).trans c1
    have d2 : (W.setCell ⟨g, q, none⟩ (.int .u8 (x.toNat : Int))).cell? ⟨w.heap.size + 1, 0, none⟩ = some (.int .i64 0) := (World.cell?_setCell_other _ _ _ _ (fun e => HNE.out (by injection e with e; rw [e]; rfl))).trans t0
    have d3 : (W.setCell ⟨g, q, none⟩ (.int .u8 (x.toNat : Int))).cell? ⟨w.heap.size + 1, 1, none⟩ = some (.slice none 0 0) := (World.cell?_setCell_other _ _ _ _ (fun e => HNE.out (by injection e with e; rw [e]; rfl))).trans t1
    go_wp2
    refine bodyPost_ret (v := .agg #[.int .i64 s, .slice (some ⟨g, 0, none⟩) bs.length cap]) (by simp [results, Tryz.results79, go_sem, d2, d3]) rfl ⟨g, cap, rfl, hcap, hgw, ?_, ?_⟩
    · have r := own_set_far (own_set_far HST.out (p := ⟨w.heap.size + 1, 0, none⟩) (by exact HNE.out) (.int .i64 s)) (p := ⟨w.heap.size + 1, 1, none⟩) (by exact HNE.out) (.slice (some ⟨g, 0, none⟩) bs.length cap)
      have := RdS.of_own r
      simpa [RdB] using this
    · exact ((h4.setCell (p := ⟨g, q, none⟩) hgw _).setCell (p := ⟨w.heap.size + 1, 0, none⟩) (by show _ ≤ w.heap.size + 1; omega) _).setCell (p := ⟨w.heap.size + 1, 1, none⟩) (by show _ ≤ w.heap.size + 1; omega) _
  · obtain ⟨W, hW⟩ : ∃ W, (w1.setCell ⟨w.heap.size + 1 + 1 + 1, 0, none⟩ (.int .i64 s)).setCell ⟨w.heap.size + 1 + 1 + 1, 1, none⟩ (.slice (some ⟨g, 0, none⟩) bs.length cap) = W := ⟨_, rfl⟩
    rw [hW]
    obtain ⟨p, hp⟩ : ∃ p, p = w.heap.size + 1 + 1 + 1 := ⟨_, rfl⟩
    have h1 : Bk W p 24 #[.int .i64 s, .slice (some ⟨g, 0, none⟩) bs.length cap] := by rw [← hW, hp]; exact by simpa using ((Bk.grown (g := w.heap.size + 1 + 1 + 1) (t := 24) (cs := #[.int .i64 0, .slice none 0 0]) (bkOf (by simp [at?_alloc, at?_drew, ne2, ne3])) hgrow (by simp [Value.ownBlock])).set 0 (.int .i64 s)).set 1 (.slice (some ⟨g, 0, none⟩) bs.length cap)
    have h2 : W.ownsRow w.heap.size 5 1 (.slice (some ⟨g, 0, none⟩) bs.length cap) bs.length (u8s bs) := by rw [← hW]; exact (by have hB : Bk w1 (w.heap.size + 1 + 1 + 1) 24 #[.int .i64 0, .slice none 0 0] := Bk.grown (bkOf (by simp [at?_alloc, at?_drew, ne2, ne3])) hgrow (by simp [Value.ownBlock]); have h0 := own_ne hown hB (by decide); simpa using own_set_far (own_set_far hown (p := ⟨w.heap.size + 1 + 1 + 1, 0, none⟩) (by exact h0) (.int .i64 s)) (p := ⟨w.heap.size + 1 + 1 + 1, 1, none⟩) (by exact h0) (.slice (some ⟨g, 0, none⟩) bs.length cap))
    have h3 : Bk W (w.heap.size + 1) 24 #[.int .i64 0, .slice none 0 0] := by rw [← hW]; exact ((Bk.grown (t := 24) (cs := #[.int .i64 0, .slice none 0 0]) (bkOf (by simp [at?_alloc, at?_drew, en2, en3])) hgrow (by simp [Value.ownBlock])).far (p := ⟨w.heap.size + 1 + 1 + 1, 0, none⟩) (by simp) _).far (p := ⟨w.heap.size + 1 + 1 + 1, 1, none⟩) (by simp) _
    have h4 : Below w.heap.size w W := by rw [← hW]; exact ((((by repeat (first | exact Below.refl _ _ | refine Below.drew ?_ | refine Below.alloc ?_ (by simp <;> omega) _)) : Below w.heap.size w _).grown hgrow (by simp; omega) (by simp [Value.ownBlock]; omega)).setCell (p := ⟨w.heap.size + 1 + 1 + 1, 0, none⟩) (by simp; omega) _).setCell (p := ⟨w.heap.size + 1 + 1 + 1, 1, none⟩) (by simp; omega) _
    have hp1 : p ≠ w.heap.size + 1 := by have := hgrow.size; simp at this; omega
    rw [← hp]
    clear hW hp hown hgrow hat hlt yB ya yb
    obtain ⟨c0, c1, c2, c3⟩ := boxFacts h1
    obtain ⟨t0, t1, t2, t3⟩ := boxFacts h3
    have hgne1 : some (w.heap.size + 1) ≠ (Value.slice (some ⟨g, 0, none⟩) bs.length cap).ownBlock := own_ne h2 h3 (by decide)
    have e0 : W.cell? ⟨g, q, none⟩ = some (.int .u8 (bs[q].toNat : Int)) := by have := h2.cells (g := g) rfl q _ (u8s_get bs q hq); rwa [add_mk, Nat.zero_add] at this
    obtain ⟨hcap, hgw, hgfz, hst⟩ := own_parts h2 hq x
    have HST := Lib.hid hst
    have HNE := Lib.hid hgne1
    have HP1 := Lib.hid hp1
    clear hst hgne1 hp1
    have d0 : (W.setCell ⟨g, q, none⟩ (.int .u8 (x.toNat : Int))).cell? ⟨p, 0, none⟩ = some (.int .i64 s) := (World.cell?_setCell_other _ _ _ _ (fun e => own_ne h2 h1 (by decide) (by injection e with e; rw [e]; rfl))).trans c0
    have d1 : (W.setCell ⟨g, q, none⟩ (.int .u8 (x.toNat : Int))).cell? ⟨p, 1, none⟩ = some (.slice (some ⟨g, 0, none⟩) bs.length cap) := (World.cell?_setCell_other _ _ _ _ (fun e => own_ne h2 h1 (by decide) (by injection e with e; rw [e]; rfl))).trans c1
    have d2 : (W.setCell ⟨g, q, none⟩ (.int .u8 (x.toNat : Int))).cell? ⟨w.heap.size + 1, 0, none⟩ = some (.int .i64 0) := (World.cell?_setCell_other _ _ _ _ (fun e => HNE.out (by injection e with e; rw [e]; rfl))).trans t0
    have d3 : (W.setCell ⟨g, q, none⟩ (.int .u8 (x.toNat : Int))).cell? ⟨w.heap.size + 1, 1, none⟩ = some (.slice none 0 0) := (World.cell?_setCell_other _ _ _ _ (fun e => HNE.out (by injection e with e; rw [e]; rfl))).trans t1
    go_wp2
    refine bodyPost_ret (v := .agg #[.int .i64 s, .slice (some ⟨g, 0, none⟩) bs.length cap]) (by simp [results, Tryz.results79, go_sem, d2, d3]) rfl ⟨g, cap, rfl, hcap, hgw, ?_, ?_⟩
    · have r := own_set_far (own_set_far HST.out (p := ⟨w.heap.size + 1, 0, none⟩) (by exact HNE.out) (.int .i64 s)) (p := ⟨w.heap.size + 1, 1, none⟩) (by exact HNE.out) (.slice (some ⟨g, 0, none⟩) bs.length cap)
      have := RdS.of_own r
      simpa [RdB] using this
    · exact ((h4.setCell (p := ⟨g, q, none⟩) hgw _).setCell (p := ⟨w.heap.size + 1, 0, none⟩) (by show _ ≤ w.heap.size + 1; omega) _).setCell (p := ⟨w.heap.size + 1, 1, none⟩) (by show _ ≤ w.heap.size + 1; omega) _
  · obtain ⟨W, hW⟩ : ∃ W, (w1.setCell ⟨w.heap.size + 1 + 1, 0, none⟩ (.int .i64 s)).setCell ⟨w.heap.size + 1 + 1, 1, none⟩ (.slice (some ⟨g, 0, none⟩) bs.length cap) = W := ⟨_, rfl⟩
    rw [hW]
    obtain ⟨p, hp⟩ : ∃ p, p = w.heap.size + 1 + 1 := ⟨_, rfl⟩
    have h1 : Bk W p 24 #[.int .i64 s, .slice (some ⟨g, 0, none⟩) bs.length cap] := by rw [← hW, hp]; exact by simpa using ((Bk.grown (g := w.heap.size + 1 + 1) (t := 24) (cs := #[.int .i64 0, .slice none 0 0]) (bkOf (by simp [at?_alloc, at?_drew, ne2, ne3])) hgrow (by simp [Value.ownBlock])).set 0 (.int .i64 s)).set 1 (.slice (some ⟨g, 0, none⟩) bs.length cap)
    have h2 : W.ownsRow w.heap.size 5 1 (.slice (some ⟨g, 0, none⟩) bs.length cap) bs.length (u8s bs) := by rw [← hW]; exact (by have hB : Bk w1 (w.heap.size + 1 + 1) 24 #[.int .i64 0, .slice none 0 0] := Bk.grown (bkOf (by simp [at?_alloc, at?_drew, ne2, ne3])) hgrow (by simp [Value.ownBlock]); have h0 := own_ne hown hB (by decide); simpa using own_set_far (own_set_far hown (p := ⟨w.heap.size + 1 + 1, 0, none⟩) (by exact h0) (.int .i64 s)) (p := ⟨w.heap.size + 1 + 1, 1, none⟩) (by exact h0) (.slice (some ⟨g, 0, none⟩) bs.length cap))
    have h3 : Bk W (w.heap.size + 1) 24 #[.int .i64 0, .slice none 0 0] := by rw [← hW]; exact ((Bk.grown (t := 24) (cs := #[.int .i64 0, .slice none 0 0]) (bkOf (by simp [at?_alloc, at?_drew, en2, en3])) hgrow (by simp [Value.ownBlock])).far (p := ⟨w.heap.size + 1 + 1, 0, none⟩) (by simp) _).far (p := ⟨w.heap.size + 1 + 1, 1, none⟩) (by simp) _
    have h4 : Below w.heap.size w W := by rw [← hW]; exact ((((by repeat (first | exact Below.refl _ _ | refine Below.drew ?_ | refine Below.alloc ?_ (by simp <;> omega) _)) : Below w.heap.size w _).grown hgrow (by simp; omega) (by simp [Value.ownBlock]; omega)).setCell (p := ⟨w.heap.size + 1 + 1, 0, none⟩) (by simp; omega) _).setCell (p := ⟨w.heap.size + 1 + 1, 1, none⟩) (by simp; omega) _
    have hp1 : p ≠ w.heap.size + 1 := by have := hgrow.size; simp at this; omega
    rw [← hp]
    clear hW hp hown hgrow hat hlt yB ya yb
    obtain ⟨c0, c1, c2, c3⟩ := boxFacts h1
    obtain ⟨t0, t1, t2, t3⟩ := boxFacts h3
    have hgne1 : some (w.heap.size + 1) ≠ (Value.slice (some ⟨g, 0, none⟩) bs.length cap).ownBlock := own_ne h2 h3 (by decide)
    have e0 : W.cell? ⟨g, q, none⟩ = some (.int .u8 (bs[q].toNat : Int)) := by have := h2.cells (g := g) rfl q _ (u8s_get bs q hq); rwa [add_mk, Nat.zero_add] at this
    obtain ⟨hcap, hgw, hgfz, hst⟩ := own_parts h2 hq x
    have HST := Lib.hid hst
    have HNE := Lib.hid hgne1
    have HP1 := Lib.hid hp1
    clear hst hgne1 hp1
    have d0 : (W.setCell ⟨g, q, none⟩ (.int .u8 (x.toNat : Int))).cell? ⟨p, 0, none⟩ = some (.int .i64 s) := (World.cell?_setCell_other _ _ _ _ (fun e => own_ne h2 h1 (by decide) (by injection e with e; rw [e]; rfl))).trans c0
    have d1 : (W.setCell ⟨g, q, none⟩ (.int .u8 (x.toNat : Int))).cell? ⟨p, 1, none⟩ = some (.slice (some ⟨g, 0, none⟩) bs.length cap) := (World.cell?_setCell_other _ _ _ _ (fun e => own_ne h2 h1 (by decide) (by injection e with e; rw [e]; rfl))).trans c1
    have d2 : (W.setCell ⟨g, q, none⟩ (.int .u8 (x.toNat : Int))).cell? ⟨w.heap.size + 1, 0, none⟩ = some (.int .i64 0) := (World.cell?_setCell_other _ _ _ _ (fun e => HNE.out (by injection e with e; rw [e]; rfl))).trans t0
    have d3 : (W.setCell ⟨g, q, none⟩ (.int .u8 (x.toNat : Int))).cell? ⟨w.heap.size + 1, 1, none⟩ = some (.slice none 0 0) := (World.cell?_setCell_other _ _ _ _ (fun e => HNE.out (by injection e with e; rw [e]; rfl))).trans t1
    go_wp2
    refine bodyPost_ret (v := .agg #[.int .i64 s, .slice (some ⟨g, 0, none⟩) bs.length cap]) (by simp [results, Tryz.results79, go_sem, d2, d3]) rfl ⟨g, cap, rfl, hcap, hgw, ?_, ?_⟩
    · have r := own_set_far (own_set_far HST.out (p := ⟨w.heap.size + 1, 0, none⟩) (by exact HNE.out) (.int .i64 s)) (p := ⟨w.heap.size + 1, 1, none⟩) (by exact HNE.out) (.slice (some ⟨g, 0, none⟩) bs.length cap)
      have := RdS.of_own r
      simpa [RdB] using this
    · exact ((h4.setCell (p := ⟨g, q, none⟩) hgw _).setCell (p := ⟨w.heap.size + 1, 0, none⟩) (by show _ ≤ w.heap.size + 1; omega) _).setCell (p := ⟨w.heap.size + 1, 1, none⟩) (by show _ ≤ w.heap.size + 1; omega) _
end Go.Proofs.YthebojaminploaaGreatDoor

/- The reference's Program and Erase: the same lists of memories. -/
set_option maxRecDepth 100000
set_option linter.unusedVariables false
set_option linter.unusedSimpArgs false
namespace Go.Proofs.YthebojaminploaaGreatDoor
open Go.RowKit

/-- elements of a list of memories: where the bytes are, the room, the bytes -/
abbrev Elt := Option Addr × Nat × List UInt8
def cellsE (s : Int) (its : List Elt) : List Value := its.flatMap fun x => [.int .i64 s, .slice x.1 x.2.2.length x.2.1]
theorem cellsE_snoc (s : Int) (its : List Elt) (x : Elt) : cellsE s (its ++ [x]) = cellsE s its ++ [.int .i64 s, .slice x.1 x.2.2.length x.2.1] := by simp [cellsE]
theorem cellsE_get (s : Int) : ∀ (its : List Elt) (i : Nat) (x : Elt), its[i]? = some x → (cellsE s its)[i * 2]? = some (.int .i64 s) ∧ (cellsE s its)[i * 2 + 1]? = some (.slice x.1 x.2.2.length x.2.1)
  | [], i, x, h => by simp at h
  | y :: l, 0, x, h => by
    simp at h; subst h
    simp [cellsE]
  | y :: l, i + 1, x, h => by
    simp at h
    have := cellsE_get s l i x h
    simp only [cellsE, List.flatMap_cons] at this ⊢
    rw [show (i + 1) * 2 = i * 2 + 1 + 1 from by omega]
    simpa using this
def EltOk (w : World) (x : Elt) : Prop := RdB w w.heap.size x.1 x.2.2 ∧ x.2.2.length ≤ x.2.1

/-- the slice of what has been made so far -/
def Lst (s : Int) (base : Nat) (its : List Elt) (v : Value) (W : World) : Prop := W.ownsRow base 24 2 v its.length (cellsE s its) ∧ (∀ x ∈ its, EltOk W x) ∧ ∀ x ∈ its, 0 < x.2.2.length → ∀ b o, x.1 = some ⟨b, o, none⟩ → some b ≠ v.ownBlock

theorem Lst.reads {s : Int} {base : Nat} {its : List Elt} {A : Option Addr} {c : Nat} {W : World} (h : Lst s base its (.slice A its.length c) W) : RdFs W W.heap.size A (its.map fun x => (s, x.2.2)) := by
  intro hn
  have hn' : 0 < its.length := by simpa using hn
  obtain ⟨g, cap, hv, _, hlt⟩ := h.1.form hn'
  have hA : A = some ⟨g, 0, none⟩ := by injection hv
  subst hA
  refine ⟨g, 0, rfl, hlt, fun i m hm => ?_⟩
  simp only [List.getElem?_map, Option.map_eq_some_iff] at hm
  obtain ⟨x, hx, rfl⟩ := hm
  obtain ⟨q1, q2⟩ := cellsE_get s its i x hx
  have hc : ∀ j u, (cellsE s its)[j]? = some u → W.cell? ⟨g, 0 + j, none⟩ = some u := fun j u hu => by have := h.1.cells (g := g) rfl j u hu; rwa [add_mk] at this
  obtain ⟨o1, o2⟩ := h.2.1 x (List.mem_of_getElem? hx)
  exact ⟨x.1, x.2.1, hc _ _ q1, hc _ _ q2, o2, o1⟩

theorem Lst.at_ {s : Int} {base g : Nat} {its : List Elt} {c : Nat} {W : World} (h : Lst s base its (.slice (some ⟨g, 0, none⟩) its.length c) W) {k : Nat} (hk : k < its.length) :
    ∃ A1 c1, W.cell? ⟨g, k * 2, none⟩ = some (.int .i64 s) ∧ W.cell? ⟨g, k * 2 + 1, none⟩ = some (.slice A1 its[k].2.2.length c1) ∧ its[k].2.2.length ≤ c1 ∧ RdB W W.heap.size A1 its[k].2.2 ∧ (0 < its[k].2.2.length → ∀ b o, A1 = some ⟨b, o, none⟩ → b ≠ g) := by
  obtain ⟨q1, q2⟩ := cellsE_get s its k its[k] (List.getElem?_eq_getElem hk)
  have hc : ∀ j u, (cellsE s its)[j]? = some u → W.cell? ⟨g, j, none⟩ = some u := fun j u hu => by have := h.1.cells (g := g) rfl j u hu; rwa [add_mk, Nat.zero_add] at this
  obtain ⟨o1, o2⟩ := h.2.1 its[k] (List.getElem_mem hk)
  refine ⟨its[k].1, its[k].2.1, hc _ _ q1, hc _ _ q2, o2, o1, fun hn b o e he => h.2.2 its[k] (List.getElem_mem hk) hn b o e ?_⟩
  rw [he]; rfl

theorem EltOk.next {w w' : World} {x : Elt} (h : EltOk w x) (hb : Below w.heap.size w w') : EltOk w' x := ⟨h.1.next hb, h.2⟩

/-- a row of memories stays what it is over a step that keeps what was there -/
theorem own_next {W W' : World} {base size k : Nat} {e : TypeId} {v : Value} {xs : List Value} (h : W.ownsRow base e size v k xs) (hb : Below W.heap.size W W') : W'.ownsRow base e size v k xs := by
  obtain ⟨h1, h2⟩ := h
  refine ⟨h1, ?_⟩
  rcases h2 with h2 | ⟨g, cap, cur, rfl, hg, hh, r⟩
  · exact .inl h2
  · exact .inr ⟨g, cap, cur, rfl, hg, (hb.block g (Array.getElem?_eq_some_iff.1 hh).1).trans hh, r⟩
theorem Lst.next {s : Int} {base : Nat} {its : List Elt} {v : Value} {W W' : World} (h : Lst s base its v W) (hb : Below W.heap.size W W') : Lst s base its v W' := ⟨own_next h.1 hb, fun x hx => (h.2.1 x hx).next hb, h.2.2⟩

/-- a byte array is not written by an append to a row of memories -/
theorem EltOk.grown {W w1 : World} {base k : Nat} {v : Value} {xs : List Value} {x : Elt} (h : EltOk W x) (hr : W.ownsRow base 24 2 v k xs) (hg : W.grownBy w1 v.ownBlock) (hby : ∀ b o, x.1 = some ⟨b, o, none⟩ → 0 < x.2.2.length → some b ≠ v.ownBlock) : EltOk w1 x := by
  refine ⟨⟨h.1.1, fun hn => ?_⟩, h.2⟩
  obtain ⟨b, o, e, hb, hc⟩ := h.1.2 hn
  exact ⟨b, o, e, Nat.lt_of_lt_of_le hb hg.size, fun j u hu => (World.cell?_of_block (a := ⟨b, o + j, none⟩) (hg.block b hb (hby b o e hn))).trans (hc j u hu)⟩

/-- one memory more -/
theorem Lst.snoc {s : Int} {base : Nat} {its : List Elt} {x : Elt} {v v' : Value} {W w1 : World} {tmp : Obj} (h : Lst s base its v W) (hx : EltOk W x) (hsep : 0 < x.2.2.length → ∀ b o, x.1 = some ⟨b, o, none⟩ → some b ≠ v.ownBlock)
    (hown : w1.ownsRow base 24 2 v' (its.length + 1) (cellsE s its ++ [.int .i64 s, .slice x.1 x.2.2.length x.2.1])) (hgrow : (W.alloc tmp).grownBy w1 v.ownBlock) (hat : v'.ownBlock = v.ownBlock ∨ v'.ownBlock = some (W.alloc tmp).heap.size) :
    Lst s base (its ++ [x]) v' w1 := by
  have hal : Below W.heap.size W (W.alloc tmp) := (Below.refl _ _).alloc (Nat.le_refl _) _
  have key : ∀ y ∈ its ++ [x], EltOk W y ∧ (0 < y.2.2.length → ∀ b o, y.1 = some ⟨b, o, none⟩ → some b ≠ v.ownBlock) := by
    intro y hy
    rcases List.mem_append.1 hy with hy | hy
    · exact ⟨h.2.1 y hy, h.2.2 y hy⟩
    · obtain rfl : y = x := by simpa using hy
      exact ⟨hx, hsep⟩
  refine ⟨by rw [cellsE_snoc]; simpa using hown, fun y hy => ?_, fun y hy hn b o e => ?_⟩
  · obtain ⟨k1, k2⟩ := key y hy
    exact (k1.next hal).grown (own_next h.1 hal) hgrow (fun b o e hn => k2 hn b o e)
  · obtain ⟨k1, k2⟩ := key y hy
    rcases hat with q | q
    · rw [q]; exact k2 hn b o e
    · rw [q]
      intro he
      obtain ⟨b', o', e', hb', _⟩ := k1.1.2 hn
      rw [e] at e'
      injection e' with e'
      injection e' with e'
      simp at he
      omega

theorem keep4 {W W' : World} {nb b2 o2 b3 o3 : Nat} {x0 x1 x2 x3 : Value} (y0 : W.cell? ⟨nb, 0, none⟩ = some x0) (y1 : W.cell? ⟨nb, 1, none⟩ = some x1) (y2 : W.cell? ⟨b2, o2, none⟩ = some x2) (y3 : W.cell? ⟨b3, o3, none⟩ = some x3)
    (h1 : W'.heap[nb]? = W.heap[nb]?) (h2 : W'.heap[b2]? = W.heap[b2]?) (h3 : W'.heap[b3]? = W.heap[b3]?) : W'.cell? ⟨nb, 0, none⟩ = some x0 ∧ W'.cell? ⟨nb, 1, none⟩ = some x1 ∧ W'.cell? ⟨b2, o2, none⟩ = some x2 ∧ W'.cell? ⟨b3, o3, none⟩ = some x3 :=
  ⟨(World.cell?_of_block (a := ⟨nb, 0, none⟩) h1).trans y0, (World.cell?_of_block (a := ⟨nb, 1, none⟩) h1).trans y1, (World.cell?_of_block (a := ⟨b2, o2, none⟩) h2).trans y2, (World.cell?_of_block (a := ⟨b3, o3, none⟩) h3).trans y3⟩

set_option maxHeartbeats 4000000 in
theorem rProgram_any (m : Mem) (p : Int) (ds : List UInt8) (A Ad : Option Addr) (c cd : Nat) (w : World) (hA : RdB w w.heap.size A m.2) (hAd : RdB w w.heap.size Ad ds) (hcap : m.2.length ≤ c) (hn : m.2.length ≤ 1000000000) (hd : ds.length ≤ 1000000000) (hp0 : -9223372036854775808 ≤ p) (hp1 : p ≤ 9223372036854775807) :
    Calls Tryz.prog 76 #[.agg #[.int .i64 m.1, .slice A m.2.length c], .int .i64 p, .slice Ad ds.length cd] w (ListPost w (progL m p ds) (progE m p ds)) := by
  obtain ⟨tI, hi, hz0, hz1, hz2⟩ := info_parts info_flash
  obtain ⟨s, bs⟩ := m
  dsimp only at *
  have HA := Lib.hid hA
  have HD := Lib.hid hAd
  clear hA hAd
  have hB0 : Below w.heap.size w (w.alloc (.cells #[.int .i64 s, .slice A bs.length c] 24)) := (Below.refl _ w).alloc (Nat.le_refl _) _
  have k1 : Bk (w.alloc (.cells #[.int .i64 s, .slice A bs.length c] 24)) w.heap.size 24 #[.int .i64 s, .slice A bs.length c] := Bk.new _ _ _
  by_cases hv : validB s bs.length = true
  · have hv' := (valid_iff _ _).1 hv
    obtain ⟨v1, v2, v3, v4, v5⟩ := hv'
    by_cases h0 : 0 ≤ p
    · by_cases h1 : p ≤ (bs.length : Int) - (ds.length : Int)
      · obtain ⟨e1, e2⟩ := prog_in (m := (s, bs)) hv h0 h1
        rw [e1, e2]
        clear e1 e2 v5
        obtain ⟨q, rfl⟩ := Int.eq_ofNat_of_zero_le h0
        have h2 : (ds.length : Int) ≤ (bs.length : Int) - (q : Int) := by omega
        have z1 : decide (bs.length < q) = false := by simp; omega
        have z2 : decide ((q : Int) < 0) = false := by simp
        have z3 : decide ((bs.length : Int) - (q : Int) < (ds.length : Int)) = false := by simp; omega
        have qe : ((q : Int)).toNat = q := by omega
        rw [qe]
        clear qe
        go_enter Tryz.func76, Tryz.ntmps76
        go_wp2_with fail
        refine (rValid_any _ _ _ _ _).mono ?_
        rintro e W2 ⟨rfl, hb2⟩
        have k3 := k1.next hb2
        obtain ⟨c0, c1, _, _⟩ := boxFacts k3
        have hbb := bt hb2 hB0
        have RA := HA.out.next hbb
        clear k1 hb2 hB0 k3
        have hz := hbb.size
        go_wp2
        go_loopw [8, 9] (fun v i wr => ∃ (k : Nat) (its : List Elt), i = .int .i64 (k : Int) ∧ k ≤ ds.length ∧ its.length = k + 1 ∧ its.map (·.2.2) = memos (andF ds) bs q k ∧ Lst s w.heap.size its v wr ∧ Below w.heap.size w wr) (fun _ i _ => ds.length - (intOf i).toNat)
        case atStart =>
          refine ⟨0, [(A, c, bs)], rfl, Nat.zero_le _, rfl, rfl, ⟨?_, ?_, ?_⟩, hbb.alloc hz _⟩
          · exact ⟨rfl, .inr ⟨W2.heap.size, 1, _, rfl, hz, Bk.new _ _ _, Nat.le_refl _, by simp [maxLen], rfl, rfl⟩⟩
          · intro x hx
            obtain rfl : x = (A, c, bs) := by simpa using hx
            exact ⟨RA.next ((Below.refl _ _).alloc (Nat.le_refl _) _), hcap⟩
          · intro x hx hlen b o e
            obtain rfl : x = (A, c, bs) := by simpa using hx
            obtain ⟨b', o', e', hb', _⟩ := HA.out.2 hlen
            rw [show A = some ⟨b, o, none⟩ from e] at e'
            injection e' with e'; injection e' with e'
            simp [Value.ownBlock]
            omega
        case round =>
          obtain ⟨k, its, rfl, hk, hil, him, hl, hb⟩ := hrel
          have HIM := Lib.hid him
          have HIL := Lib.hid hil
          obtain ⟨g, cap, hvs⟩ := ownsRow_succ (by rw [← hil]; exact hl.1)
          rw [hvs] at hl ⊢
          have HL := Lib.hid hl
          by_cases hlt : k < ds.length
          · have hl' := hl
            rw [← hil] at hl'
            obtain ⟨A1, c1', r1, r2, r3, r4, r5⟩ := Lst.at_ hl' (k := k) (by omega)
            have hm : (its[k]'(by omega)).2.2 = memo (andF ds) bs q k := by
              have h5 := memos_get (andF ds) bs q k k (by omega)
              rw [← him] at h5
              simp only [List.getElem?_map, Option.map_eq_some_iff] at h5
              obtain ⟨y, hy, hy2⟩ := h5
              obtain ⟨hk', hy'⟩ := List.getElem?_eq_some_iff.1 hy
              rw [hy']; exact hy2
            rw [hm] at r2 r3 r4 r5
            have hml := memo_length (andF ds) bs q k
            obtain ⟨mb, hmb⟩ : ∃ mb, mb = memo (andF ds) bs q k := ⟨_, rfl⟩
            rw [← hmb] at r2 r3 r4 r5 hml
            have hqk : q + k < mb.length := by omega
            have n4 : mb.length ≤ 4096 := by omega
            have HML := Lib.hid hml
            have HMB := Lib.hid hmb
            clear hm hil him hl hl' hml hmb hvs
            have R5s := Lib.hid (r5 (by omega))
            clear r5
            go_wp2
            obtain ⟨W5, hW5⟩ : ∃ W5, wr.alloc (.cells #[.int .i64 s, .slice A1 mb.length c1'] 24) = W5 := ⟨_, rfl⟩
            rw [hW5]
            obtain ⟨nb, hnb⟩ : ∃ nb, nb = wr.heap.size := ⟨_, rfl⟩
            rw [← hnb]
            have h5 : Bk W5 nb 24 #[.int .i64 s, .slice A1 mb.length c1'] := by rw [← hW5, hnb]; exact Bk.new _ _ _
            have hb5 : Below wr.heap.size wr W5 := by rw [← hW5]; exact (Below.refl _ _).alloc (Nat.le_refl _) _
            have hbw5 : Below w.heap.size w W5 := bt hb5 hb
            have L5 := HL.out.next hb5
            have R5 := r4.next hb5
            obtain ⟨y0, y1, _, _⟩ := boxFacts h5
            obtain ⟨b2, o2, rfl, hb2', y2⟩ := R5.at_ hqk
            obtain ⟨b3, o3, rfl, hb3w, y3w⟩ := HD.out.at_ hlt
            have y3 := (hbw5.cell (p := ⟨b3, o3 + k, none⟩) hb3w).trans y3w
            have hb3' : b3 < W5.heap.size := by have := hbw5.size; omega
            clear y3w
            have hand := and_u8 mb[q + k] ds[k]
            have hmemo : memo (andF ds) bs q (k + 1) = mb.set (q + k) (mb[q + k] &&& ds[k]) := by
              simp only [memo]
              rw [← HMB.out, List.getD_eq_getElem?_getD, List.getElem?_eq_getElem hqk, Option.getD_some]
              simp [andF, hlt]
            have hwith := With_any s mb (some ⟨b2, o2, none⟩) c1' (q + k) (mb[q + k] &&& ds[k]) W5.drew R5 hqk (by omega)
            rw [Int.natCast_add] at hwith
            have HW := Lib.hid hwith
            have HMM := Lib.hid hmemo
            have HL5 := Lib.hid L5
            have hnl : nb < W5.heap.size := h5.lt
            have hgnb : g ≠ nb := by
              obtain ⟨_, _, h8, _, h9⟩ := HL.out.1.form (by have := HIL.out; omega)
              injection h8 with h8; injection h8 with h8; injection h8 with h8
              omega
            clear hW5 hnb h5 hb5 L5 R5 hwith hmemo r1 r2 r4 HL hbb RA
            have i1 : (0 : Int) ≤ (q : Int) + (k : Int) := by omega
            have i2 : (q : Int) + (k : Int) < (mb.length : Int) := by omega
            have i3 : ((q : Int) + (k : Int)).toNat = q + k := by omega
            have i0 : IntKind.i64.wrap ((q : Int) + (k : Int)) = (q : Int) + (k : Int) := IntWalk.i64_in _ (by omega)
            have hgl : g < W5.heap.size := by
              obtain ⟨_, _, h8, _, h9⟩ := HL5.out.1.form (by have := HIL.out; omega)
              injection h8 with h8; injection h8 with h8; injection h8 with h8
              omega
            have hg0 : w.heap.size ≤ g := own_ge HL5.out.1 g rfl
            have hszw := hbw5.size
            have hsb : b2 ≠ g := R5s.out b2 o2 rfl
            go_region_held3 (fun w' => w'.cell? ⟨nb, 0, none⟩ = some (.int .i64 s) ∧ w'.cell? ⟨nb, 1, none⟩ = some (.slice (some ⟨b2, o2, none⟩) mb.length c1') ∧ w'.cell? ⟨b2, o2 + (q + k), none⟩ = some (.int .u8 (mb[q + k].toNat : Int)) ∧ w'.cell? ⟨b3, o3 + k, none⟩ = some (.int .u8 (ds[k].toNat : Int)))
              (first
                | exact ⟨y0, y1, y2, y3⟩
                | exact keep4 y0 y1 y2 y3 (hb6.block nb hnl) (hb6.block b2 hb2') (hb6.block b3 hb3')
                | exact keep4 y0 y1 y2 y3 ((Below.heap_alloc W6 _ nb (by omega)).trans (hb6.block nb hnl)) ((Below.heap_alloc W6 _ b2 (by omega)).trans (hb6.block b2 hb2')) ((Below.heap_alloc W6 _ b3 (by omega)).trans (hb6.block b3 hb3'))
                | exact keep4 y0 y1 y2 y3 ((hgrow.block nb (by simp; omega) (by simp [Value.ownBlock]; omega)).trans ((Below.heap_alloc W6 _ nb (by omega)).trans (hb6.block nb hnl))) ((hgrow.block b2 (by simp; omega) (by simp [Value.ownBlock]; omega)).trans ((Below.heap_alloc W6 _ b2 (by omega)).trans (hb6.block b2 hb2'))) ((hgrow.block b3 (by simp; omega) (by simp [Value.ownBlock]; omega)).trans ((Below.heap_alloc W6 _ b3 (by omega)).trans (hb6.block b3 hb3')))
                | fail)
              (first
                | (go_at_call 79; refine HW.out.mono ?_; rintro e W6 ⟨g6, cap6, rfl, hcap6, hg6, R6, hb6⟩; have hb6 : Below W5.heap.size W5 W6 := ⟨hb6.os, hb6.tape, hb6.output, hb6.size, hb6.block⟩; have hsz6 := hb6.size; have hrow := (HL5.out.next hb6).1; rw [HIL.out] at hrow)
                | (refine step_append_lies _ (by rfl) _ _ _ (by rfl) w.heap.size 24 tI (.agg #[.int .i64 0, .slice none 0 0]) 2 32 Tryz.underlying28 hi hz0 hz1 hz2 rfl (by omega) (.slice (some ⟨g, 0, none⟩) (k + 1) cap) (k + 1) (cellsE s its) (by rfl) (hrow.alloc _) ⟨W6.heap.size, 0, none⟩ 1 1 [.int .i64 s, .slice (some ⟨g6, 0, none⟩) mb.length cap6] (by rfl) (by rfl) (news2 _ _ _ _) (by simp [Value.oneCell']) (by omega) (by simp only [maxLen]; omega) (by omega) (by simp; omega) _ rfl ?_; intro g' cap' w1 hown' hgrow hat hlt'))
            have HB6 := Lib.hid hb6
            have HL6 := Lib.hid (HL5.out.next hb6)
            have HX : Hid (EltOk W6 (some ⟨g6, 0, none⟩, cap6, mb.set (q + k) (mb[q + k] &&& ds[k]))) := ⟨R6, by simpa using hcap6⟩
            have HS6 : Hid (∀ b o, (some ⟨g6, 0, none⟩ : Option Addr) = some ⟨b, o, none⟩ → some b ≠ (Value.slice (some ⟨g, 0, none⟩) (k + 1) cap).ownBlock) := by
              intro b o e he
              injection e with e; injection e with e
              have h7 : b = g := by simpa [Value.ownBlock] using he
              have : W5.drew.heap.size = W5.heap.size := rfl
              omega
            have HG := Lib.hid hgrow
            have HO := Lib.hid hown'
            have HAT : Hid ((Value.slice (some ⟨g', 0, none⟩) (k + 1 + 1) cap').ownBlock = (Value.slice (some ⟨g, 0, none⟩) (k + 1) cap).ownBlock ∨ (Value.slice (some ⟨g', 0, none⟩) (k + 1 + 1) cap').ownBlock = some (W6.alloc (.cells #[.int .i64 s, .slice (some ⟨g6, 0, none⟩) mb.length cap6] 24)).heap.size) := by
              rcases hat with e | e
              · exact .inl e.symm
              · exact .inr (by rw [← e]; rfl)
            clear hgrow hown' hat R6 hb6 i0 i1 i2 i3 y0 y1 y2 y3 hrow
            go_wp2
            go_roundw
            case rel =>
              refine ⟨k + 1, its ++ [(some ⟨g6, 0, none⟩, cap6, mb.set (q + k) (mb[q + k] &&& ds[k]))], by go_num, by omega, by simp [HIL.out], ?_, ?_, ?_⟩
              · rw [List.map_append, HIM.out, memos_succ, HMM.out]; rfl
              · refine Lst.snoc HL6.out HX.out (fun _ => HS6.out) ?_ HG.out HAT.out
                rw [HIL.out]
                simpa using HO.out
              · exact ((bt HB6.out hbw5).alloc (by omega) _).grown HG.out (by simp; omega) (fun j hj => (by have : g = j := (by simpa [Value.ownBlock] using hj); omega))
            case measure => simp [intOf]; omega
          · obtain rfl : k = ds.length := by omega
            have HB := Lib.hid hb
            clear hil him hl
            go_wp2
            go_ret2
            refine ⟨some ⟨g, 0, none⟩, cap, ?_, ?_, ?_, HB.out⟩
            · simp [memos_length]
            · have := HL.out.1
              rw [HIL.out] at this
              rcases this.2 with ⟨h, _⟩ | ⟨_, _, _, h, _, _, hh, _⟩
              · cases h
              · injection h with _ _ h; simp [memos_length]; omega
            · have h9 := HL.out
              rw [← HIL.out] at h9
              have := Lst.reads h9
              rw [← HIM.out, List.map_map]
              exact this
      · obtain ⟨e1, e2⟩ := prog_far (m := (s, bs)) (ds := ds) hv h0 h1
        rw [e1, e2]
        clear e1 e2 v5
        by_cases hlt : (bs.length : Int) < p
        · obtain ⟨q, rfl⟩ := Int.eq_ofNat_of_zero_le h0
          go_enter Tryz.func76, Tryz.ntmps76
          go_wp2_with fail
          refine (rValid_any _ _ _ _ _).mono ?_
          rintro e W2 ⟨rfl, hb2⟩
          have k3 := k1.next hb2
          obtain ⟨c0, c1, _, _⟩ := boxFacts k3
          have hbb := bt hb2 hB0
          clear k1 hb2 hB0 k3
          go_wp2
          go_ret2
          exact ⟨none, 0, rfl, Nat.le_refl _, RdFs.nil, hbb⟩
        · have h2 : (bs.length : Int) - p < (ds.length : Int) := by omega
          go_enter Tryz.func76, Tryz.ntmps76
          go_wp2_with fail
          refine (rValid_any _ _ _ _ _).mono ?_
          rintro e W2 ⟨rfl, hb2⟩
          have k3 := k1.next hb2
          obtain ⟨c0, c1, _, _⟩ := boxFacts k3
          have hbb := bt hb2 hB0
          clear k1 hb2 hB0 k3
          go_wp2
          go_ret2
          exact ⟨none, 0, rfl, Nat.le_refl _, RdFs.nil, hbb⟩
    · obtain ⟨e1, e2⟩ := prog_bad (m := (s, bs)) (p := p) (ds := ds) (.inr (by omega))
      rw [e1, e2]
      clear e1 e2 v5
      go_enter Tryz.func76, Tryz.ntmps76
      go_wp2_with fail
      refine (rValid_any _ _ _ _ _).mono ?_
      rintro e W2 ⟨rfl, hb2⟩
      have k3 := k1.next hb2
      obtain ⟨c0, c1, _, _⟩ := boxFacts k3
      have hbb := bt hb2 hB0
      clear k1 hb2 hB0 k3
      go_wp2
      go_ret2
      exact ⟨none, 0, rfl, Nat.le_refl _, RdFs.nil, hbb⟩
  · have hv' : validB s bs.length = false := by simpa using hv
    obtain ⟨e1, e2⟩ := prog_bad (m := (s, bs)) (p := p) (ds := ds) (.inl hv')
    rw [e1, e2]
    clear e1 e2 hv
    go_enter Tryz.func76, Tryz.ntmps76
    go_wp2_with fail
    refine (rValid_any _ _ _ _ _).mono ?_
    rintro e W2 ⟨rfl, hb2⟩
    have k3 := k1.next hb2
    obtain ⟨c0, c1, _, _⟩ := boxFacts k3
    have hbb := bt hb2 hB0
    clear k1 hb2 hB0 k3
    go_wp2
    go_ret2
    exact ⟨none, 0, rfl, Nat.le_refl _, RdFs.nil, hbb⟩
end Go.Proofs.YthebojaminploaaGreatDoor

/- The reference's Erase: the same list of memories. -/
set_option maxRecDepth 100000
set_option linter.unusedVariables false
set_option linter.unusedSimpArgs false
namespace Go.Proofs.YthebojaminploaaGreatDoor
open Go.RowKit

set_option maxHeartbeats 4000000 in
theorem rErase_any (m : Mem) (z : Int) (A : Option Addr) (c : Nat) (w : World) (hA : RdB w w.heap.size A m.2) (hcap : m.2.length ≤ c) (hn : m.2.length ≤ 1000000000) (hp0 : -9223372036854775808 ≤ z) (hp1 : z ≤ 9223372036854775807) :
    Calls Tryz.prog 56 #[.agg #[.int .i64 m.1, .slice A m.2.length c], .int .i64 z] w (ListPost w (eraL m z) (eraE m z)) := by
  obtain ⟨tI, hi, hz0, hz1, hz2⟩ := info_parts info_flash
  obtain ⟨s, bs⟩ := m
  dsimp only at *
  have HA := Lib.hid hA
  clear hA
  have hB0 : Below w.heap.size w (w.alloc (.cells #[.int .i64 s, .slice A bs.length c] 24)) := (Below.refl _ w).alloc (Nat.le_refl _) _
  have k1 : Bk (w.alloc (.cells #[.int .i64 s, .slice A bs.length c] 24)) w.heap.size 24 #[.int .i64 s, .slice A bs.length c] := Bk.new _ _ _
  by_cases hv : validB s bs.length = true
  · have hv' := (valid_iff _ _).1 hv
    obtain ⟨v1, v2, v3, v4, v5⟩ := hv'
    have d0 : 0 ≤ (bs.length : Int) / s := Int.ediv_nonneg (by omega) (by omega)
    have d1 : (bs.length : Int) / s ≤ 4096 := Int.le_trans (Int.ediv_le_self _ (by omega)) (by omega)
    by_cases h0 : 0 ≤ z
    · by_cases h1 : z < (bs.length : Int) / s
      · obtain ⟨e1, e2⟩ := era_in (m := (s, bs)) hv h0 h1
        rw [e1, e2]
        clear e1 e2
        obtain ⟨q0, q1⟩ := sector_in v1 v5 h0 h1
        obtain ⟨n, hns⟩ := Int.eq_ofNat_of_zero_le (a := s) (by omega)
        obtain ⟨q, hq⟩ := Int.eq_ofNat_of_zero_le q0
        have hqn : q + n ≤ bs.length := by omega
        have hn1 : 1 ≤ n := by omega
        have hn2 : n ≤ 512 := by omega
        have HR : Hid ((memos eraF bs (z * s).toNat s.toNat) = memos eraF bs q n) := by show _ = _; rw [hq, hns]; rfl
        rw [HR.out]
        have z2 : decide (z < 0) = false := by simp; omega
        have z3 : decide ((bs.length : Int) / s ≤ z) = false := by simp; omega
        have HN := Lib.hid hns
        clear v5 q0 q1 hns
        go_enter Tryz.func56, Tryz.ntmps56
        go_wp2_with fail
        refine (rValid_any _ _ _ _ _).mono ?_
        rintro e W2 ⟨rfl, hb2⟩
        have k3 := k1.next hb2
        obtain ⟨c0, c1, _, _⟩ := boxFacts k3
        have hbb := bt hb2 hB0
        have RA := HA.out.next hbb
        have hz : w.heap.size + 1 ≤ W2.heap.size := by have := k3.lt; omega
        clear k1 hb2 hB0
        go_wp2
        go_loopw [6, 7] (fun v i wr => ∃ (k : Nat) (its : List Elt), i = .int .i64 (k : Int) ∧ k ≤ n ∧ its.length = k + 1 ∧ its.map (·.2.2) = memos eraF bs q k ∧ Lst s (w.heap.size + 1) its v wr ∧ Bk wr w.heap.size 24 #[.int .i64 s, .slice A bs.length c] ∧ Below w.heap.size w wr) (fun _ i _ => n - (intOf i).toNat)
        case atStart =>
          refine ⟨0, [(A, c, bs)], rfl, Nat.zero_le _, rfl, rfl, ⟨?_, ?_, ?_⟩, k3.alloc _, hbb.alloc (by omega) _⟩
          · exact ⟨rfl, .inr ⟨W2.heap.size, 1, _, rfl, hz, Bk.new _ _ _, Nat.le_refl _, by simp [maxLen], rfl, rfl⟩⟩
          · intro x hx
            obtain rfl : x = (A, c, bs) := by simpa using hx
            exact ⟨RA.next ((Below.refl _ _).alloc (Nat.le_refl _) _), hcap⟩
          · intro x hx hlen b o e
            obtain rfl : x = (A, c, bs) := by simpa using hx
            obtain ⟨b', o', e', hb', _⟩ := HA.out.2 hlen
            rw [show A = some ⟨b, o, none⟩ from e] at e'
            injection e' with e'; injection e' with e'
            simp [Value.ownBlock]
            omega
        case round =>
          obtain ⟨k, its, rfl, hk, hil, him, hl, kb, hb⟩ := hrel
          have HIM := Lib.hid him
          have HIL := Lib.hid hil
          obtain ⟨g, cap, hvs⟩ := ownsRow_succ (by rw [← hil]; exact hl.1)
          rw [hvs] at hl ⊢
          have HL := Lib.hid hl
          obtain ⟨x0, x1, _, _⟩ := boxFacts kb
          have HKB := Lib.hid kb
          by_cases hlt : k < n
          · have hks : (k : Int) < s := by have := HN.out; omega
            have hl' := hl
            rw [← hil] at hl'
            obtain ⟨A1, c1', r1, r2, r3, r4, r5⟩ := Lst.at_ hl' (k := k) (by omega)
            have hm : (its[k]'(by omega)).2.2 = memo eraF bs q k := by
              have h5 := memos_get eraF bs q k k (by omega)
              rw [← him] at h5
              simp only [List.getElem?_map, Option.map_eq_some_iff] at h5
              obtain ⟨y, hy, hy2⟩ := h5
              obtain ⟨hk', hy'⟩ := List.getElem?_eq_some_iff.1 hy
              rw [hy']; exact hy2
            rw [hm] at r2 r3 r4 r5
            have hml := memo_length eraF bs q k
            obtain ⟨mb, hmb⟩ : ∃ mb, mb = memo eraF bs q k := ⟨_, rfl⟩
            rw [← hmb] at r2 r3 r4 r5 hml
            have hqk : q + k < mb.length := by omega
            have n4 : mb.length ≤ 4096 := by omega
            have hmemo : memo eraF bs q (k + 1) = mb.set (q + k) 255 := by
              simp only [memo]
              rw [← hmb]; rfl
            have HML := Lib.hid hml
            have HMM := Lib.hid hmemo
            have hwith := With_any s mb A1 c1' (q + k) 255 wr.drew r4 hqk (by omega)
            rw [Int.natCast_add] at hwith
            have HW := Lib.hid hwith
            have hgl : g < wr.heap.size := by
              obtain ⟨_, _, h8, _, h9⟩ := HL.out.1.form (by have := HIL.out; omega)
              injection h8 with h8; injection h8 with h8; injection h8 with h8
              omega
            have hg0 : w.heap.size + 1 ≤ g := own_ge HL.out.1 g rfl
            have hszw := hb.size
            clear hm hil him hl hl' hml hmb hvs hwith hmemo r4 r5 kb
            have i1 : (0 : Int) ≤ (q : Int) + (k : Int) := by omega
            have i3 : ((q : Int) + (k : Int)).toNat = q + k := by omega
            have i5 : (k : Int) < (k : Int) + 1 := by omega
            have i6 : (0 : Int) ≤ (k : Int) := by omega
            have i7 : (k : Int) < ((k + 1 : Nat) : Int) := by omega
            have i4 : IntKind.i64.wrap ((q : Int)) = (q : Int) := IntWalk.i64_in _ (by omega)
            have i0 : IntKind.i64.wrap ((q : Int) + (k : Int)) = (q : Int) + (k : Int) := IntWalk.i64_in _ (by omega)
            go_wp2
            go_region_law (first
                | (refine step_append_lies _ (by rfl) _ _ _ (by rfl) (w.heap.size + 1) 24 tI (.agg #[.int .i64 0, .slice none 0 0]) 2 32 Tryz.underlying28 hi hz0 hz1 hz2 rfl (by omega) (.slice (some ⟨g, 0, none⟩) (k + 1) cap) (k + 1) (cellsE s its) (by rfl) (hrow.alloc _) ⟨W6.heap.size, 0, none⟩ 1 1 [.int .i64 s, .slice (some ⟨g6, 0, none⟩) mb.length cap6] (by rfl) (by rfl) (news2 _ _ _ _) (by simp [Value.oneCell']) (by omega) (by simp only [maxLen]; omega) (by omega) (by simp; omega) _ rfl ?_; intro g' cap' w1 hown' hgrow hat hlt')
                | (go_simp; go_at_call 79; refine HW.out.mono ?_; rintro e W6 ⟨g6, cap6, rfl, hcap6, hg6, R6, hb6⟩; have hb6 : Below wr.heap.size wr W6 := ⟨hb6.os, hb6.tape, hb6.output, hb6.size, hb6.block⟩; have hsz6 := hb6.size; have hrow := (HL.out.next hb6).1; rw [HIL.out] at hrow))
            all_goals
              have HB6 := Lib.hid hb6
              have HL6 := Lib.hid (HL.out.next hb6)
              have HX : Hid (EltOk W6 (some ⟨g6, 0, none⟩, cap6, mb.set (q + k) 255)) := ⟨R6, by simpa using hcap6⟩
              have HS6 : Hid (∀ b o, (some ⟨g6, 0, none⟩ : Option Addr) = some ⟨b, o, none⟩ → some b ≠ (Value.slice (some ⟨g, 0, none⟩) (k + 1) cap).ownBlock) := by
                intro b o e he
                injection e with e; injection e with e
                have h7 : b = g := by simpa [Value.ownBlock] using he
                have : wr.drew.heap.size = wr.heap.size := rfl
                omega
              have HG := Lib.hid hgrow
              have HO := Lib.hid hown'
              have HAT : Hid ((Value.slice (some ⟨g', 0, none⟩) (k + 1 + 1) cap').ownBlock = (Value.slice (some ⟨g, 0, none⟩) (k + 1) cap).ownBlock ∨ (Value.slice (some ⟨g', 0, none⟩) (k + 1 + 1) cap').ownBlock = some (W6.alloc (.cells #[.int .i64 s, .slice (some ⟨g6, 0, none⟩) mb.length cap6] 24)).heap.size) := by
                rcases hat with e | e
                · exact .inl e.symm
                · exact .inr (by rw [← e]; rfl)
              have HK6 : Hid (Bk w1 w.heap.size 24 #[.int .i64 s, .slice A bs.length c]) := ((HKB.out.next hb6).alloc _).grown hgrow (by simp [Value.ownBlock]; omega)
              clear hgrow hown' hat R6 hb6 i0 i1 i3 i4 i5 i6 i7 r1 r2 hrow
              go_wp2
              go_roundw
              case rel =>
                refine ⟨k + 1, its ++ [(some ⟨g6, 0, none⟩, cap6, mb.set (q + k) 255)], by go_num, by omega, by simp [HIL.out], ?_, ?_, HK6.out, ?_⟩
                · rw [List.map_append, HIM.out, memos_succ, HMM.out]; rfl
                · refine Lst.snoc HL6.out HX.out (fun _ => HS6.out) ?_ HG.out HAT.out
                  rw [HIL.out]
                  simpa using HO.out
                · exact ((bt HB6.out hb).alloc (by omega) _).grown HG.out (by simp; omega) (fun j hj => (by have : g = j := (by simpa [Value.ownBlock] using hj); omega))
              case measure => simp [intOf]; omega
          · obtain rfl : k = n := by omega
            have hks : ¬ (k : Int) < s := by have := HN.out; omega
            have HB := Lib.hid hb
            clear hil him hl kb
            go_wp2
            go_ret2
            refine ⟨some ⟨g, 0, none⟩, cap, ?_, ?_, ?_, HB.out⟩
            · simp [memos_length]
            · have := HL.out.1
              rw [HIL.out] at this
              rcases this.2 with ⟨h, _⟩ | ⟨_, _, _, h, _, _, hh, _⟩
              · cases h
              · injection h with _ _ h; simp [memos_length]; omega
            · have h9 := HL.out
              rw [← HIL.out] at h9
              have := Lst.reads h9
              rw [← HIM.out, List.map_map]
              exact this
      · have h1' : (bs.length : Int) / s ≤ z := by omega
        obtain ⟨e1, e2⟩ := era_bad (m := (s, bs)) (k := z) (.inr (.inr h1))
        rw [e1, e2]
        clear e1 e2 v5
        go_enter Tryz.func56, Tryz.ntmps56
        go_wp2_with fail
        refine (rValid_any _ _ _ _ _).mono ?_
        rintro e W2 ⟨rfl, hb2⟩
        have k3 := k1.next hb2
        obtain ⟨c0, c1, _, _⟩ := boxFacts k3
        have hbb := bt hb2 hB0
        clear k1 hb2 hB0 k3
        go_wp2
        go_ret2
        exact ⟨none, 0, rfl, Nat.le_refl _, RdFs.nil, hbb⟩
    · obtain ⟨e1, e2⟩ := era_bad (m := (s, bs)) (k := z) (.inr (.inl (by omega)))
      rw [e1, e2]
      clear e1 e2 v5
      go_enter Tryz.func56, Tryz.ntmps56
      go_wp2_with fail
      refine (rValid_any _ _ _ _ _).mono ?_
      rintro e W2 ⟨rfl, hb2⟩
      have k3 := k1.next hb2
      obtain ⟨c0, c1, _, _⟩ := boxFacts k3
      have hbb := bt hb2 hB0
      clear k1 hb2 hB0 k3
      go_wp2
      go_ret2
      exact ⟨none, 0, rfl, Nat.le_refl _, RdFs.nil, hbb⟩
  · have hv' : validB s bs.length = false := by simpa using hv
    obtain ⟨e1, e2⟩ := era_bad (m := (s, bs)) (k := z) (.inl hv')
    rw [e1, e2]
    clear e1 e2 hv
    go_enter Tryz.func56, Tryz.ntmps56
    go_wp2_with fail
    refine (rValid_any _ _ _ _ _).mono ?_
    rintro e W2 ⟨rfl, hb2⟩
    have k3 := k1.next hb2
    obtain ⟨c0, c1, _, _⟩ := boxFacts k3
    have hbb := bt hb2 hB0
    clear k1 hb2 hB0 k3
    go_wp2
    go_ret2
    exact ⟨none, 0, rfl, Nat.le_refl _, RdFs.nil, hbb⟩
end Go.Proofs.YthebojaminploaaGreatDoor
