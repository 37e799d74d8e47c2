/- flash.collect over the iterator of flash.memories, and flash.Program and flash.Erase: the list of all memories. -/
import Derived.Test.YtpcklbmhblmjpaaFc
import Derived.Maps.OwnIn
import Derived.RangeFuncBox
set_option maxRecDepth 100000
set_option linter.unusedVariables false
namespace Go.Proofs.Ytpcklbmhblmjpaa
open Go.RowKit Go.Shelf
attribute [local go_sem] Oper.semAt_some

theorem info_flash : (Try.prog.info? 24).map (fun i => (i.zero, i.size, i.bytes)) = some (some (.agg #[.int .i64 0, .slice none 0 0]), 2, 32) := by kernel_rfl

/-- the cells of what has been collected -/
def cellsF (s : Int) (pre : List Item) : List Value := pre.flatMap fun x => [.int .i64 s, .slice (some ⟨x.1, 0, none⟩) x.2.length x.2.length]
theorem cellsF_snoc (s : Int) (pre : List Item) (x : Item) : cellsF s (pre ++ [x]) = cellsF s pre ++ [.int .i64 s, .slice (some ⟨x.1, 0, none⟩) x.2.length x.2.length] := by simp [cellsF]
theorem cellsF_length (s : Int) (pre : List Item) : (cellsF s pre).length = pre.length * 2 := by
  induction pre with
  | nil => rfl
  | cons x l ih => simp only [cellsF, List.flatMap_cons, List.length_append, List.length_cons, List.length_nil] at ih ⊢; omega
theorem cellsF_get (s : Int) : ∀ (pre : List Item) (i : Nat) (x : Item), pre[i]? = some x → (cellsF s pre)[i * 2]? = some (.int .i64 s) ∧ (cellsF s pre)[i * 2 + 1]? = some (.slice (some ⟨x.1, 0, none⟩) x.2.length x.2.length)
  | [], i, x, h => by simp at h
  | y :: l, 0, x, h => by
    simp at h; subst h
    simp [cellsF]
  | y :: l, i + 1, x, h => by
    simp at h
    have := cellsF_get s l i x h
    simp only [cellsF, List.flatMap_cons] at this ⊢
    rw [show (i + 1) * 2 = i * 2 + 1 + 1 from by omega]
    simpa using this

/-- what holds of the collecting variable's box between two rounds -/
def Coll (s : Int) (w : World) (Pv : Nat → Prop) (pre : List Item) (W : World) : Prop :=
  ∃ v, Boxed W w.heap.size 35 v ∧ (∀ k, Pv k → w.heap.size < k) ∧ W.ownsRow w.heap.size 24 2 v pre.length (cellsF s pre) ∧ (∀ g, v.ownBlock = some g → ¬ Pv g) ∧ (∀ x ∈ pre, OkF w.heap.size Pv x W) ∧ Below w.heap.size w W

theorem OkF.same {B : Nat} {Pv Pv' : Nat → Prop} {x : Item} {W W' : World} (h : OkF B Pv x W) (hs : SameOut Pv W W') (hp : ∀ k, Pv' k → Pv k ∨ W.heap.size ≤ k) : OkF B Pv' x W' := by
  obtain ⟨h1, h2, h3⟩ := h
  refine ⟨(hs.block _ h1.lt h2).trans h1, fun h => ?_, h3⟩
  rcases hp _ h with h | h
  · exact h2 h
  · have := h1.lt; omega

theorem Coll.steady (s : Int) (w : World) : Steady (Coll s w) := by
  rintro Pv Pv' pre W W' ⟨v, hb, np, hr, hv, hx, hbl⟩ hs hp
  have lift : ∀ k, k < W.heap.size → ¬ Pv k → ¬ Pv' k := fun k hk hn h => by
    rcases hp k h with h | h
    · exact hn h
    · omega
  refine ⟨v, (hs.block _ hb.lt (fun h => by have := np _ h; omega)).trans hb, ?_, ?_, ?_, fun x h => (hx x h).same hs hp, ?_⟩
  · intro k h
    rcases hp k h with h | h
    · exact np k h
    · have := hb.lt; omega
  · obtain ⟨h1, h2⟩ := hr
    refine ⟨h1, ?_⟩
    rcases h2 with h2 | ⟨g, cap, cur, rfl, hg, hh, r⟩
    · exact .inl h2
    · exact .inr ⟨g, cap, cur, rfl, hg, (hs.block g (Array.getElem?_eq_some_iff.1 hh).1 (hv g rfl)).trans hh, r⟩
  · intro g hg
    rcases hr.2 with ⟨rfl, _⟩ | ⟨g', cap, cur, rfl, _, hh, _⟩
    · simp [Value.ownBlock] at hg
    · obtain rfl : g' = g := by simpa [Value.ownBlock] using hg
      exact lift _ (Array.getElem?_eq_some_iff.1 hh).1 (hv _ rfl)
  · refine hbl.trans ⟨hs.os, hs.tape, hs.output, hs.size, fun k hk => hs.block k (by have := hbl.size; omega) (fun h => by have := np _ h; omega)⟩


theorem news2 (W : World) (t : TypeId) (a b : Value) : ∀ j u, [a, b][j]? = some u → (W.alloc (.cells #[a, b] t)).cell? ((⟨W.heap.size, 0, none⟩ : Addr).add j) = some u := by
  intro j u hj
  rw [add_mk, (Bk.new W t #[a, b]).cell]
  simpa using hj

/-- one element more -/
theorem Coll.snoc {s : Int} {w W w1 : World} {Pv : Nat → Prop} {pre : List Item} {x : Item} {v v' : Value} {tmp : Obj} (hb : Boxed W w.heap.size 35 v) (np : ∀ k, Pv k → w.heap.size < k)
    (hr : W.ownsRow w.heap.size 24 2 v pre.length (cellsF s pre)) (hv : ∀ g, v.ownBlock = some g → ¬ Pv g) (hx : ∀ y ∈ pre, OkF w.heap.size Pv y W) (hok : OkF w.heap.size Pv x W) (hbl : Below w.heap.size w W) (hPw : ∀ k, Pv k → k < W.heap.size)
    (hown : w1.ownsRow w.heap.size 24 2 v' (pre.length + 1) (cellsF s pre ++ [.int .i64 s, .slice (some ⟨x.1, 0, none⟩) x.2.length x.2.length])) (hgrow : (W.alloc tmp).grownBy w1 v.ownBlock)
    (hat : v'.ownBlock = v.ownBlock ∨ v'.ownBlock = some (W.alloc tmp).heap.size) :
    Boxed w1 w.heap.size 35 v ∧ SameIn Pv W (w1.setCell ⟨w.heap.size, 0, none⟩ v') ∧ Below w.heap.size W (w1.setCell ⟨w.heap.size, 0, none⟩ v') ∧ Coll s w Pv (pre ++ [x]) (w1.setCell ⟨w.heap.size, 0, none⟩ v') := by
  obtain ⟨hv1, hv2, hr2, hk2, hb2⟩ := hb.appended (by decide) hr hbl.size (Nat.le_refl _) hown hgrow
  have hrowp : ∀ k, v.ownBlock = some k → ¬ Pv k := fun k h => hv k h
  have keep : ∀ y : Item, OkF w.heap.size Pv y W → OkF w.heap.size Pv y (w1.setCell ⟨w.heap.size, 0, none⟩ v') := by
    rintro y ⟨k1, k2, k3⟩
    have l1 : y.1 < W.heap.size := k1.lt
    refine ⟨?_, k2, k3⟩
    have e1 : some y.1 ≠ v.ownBlock := by
      intro e
      rcases hr.2 with ⟨rfl, _⟩ | ⟨g, cap, cur, rfl, _, hh, _⟩
      · simp [Value.ownBlock] at e
      · obtain rfl : y.1 = g := by simpa [Value.ownBlock] using e
        exact Bk.ne k1 (t' := 24) (cs' := cur) hh (by decide) rfl
    have e2 : y.1 ≠ w.heap.size := Bk.ne k1 (t' := 35) (cs' := #[v]) hb (by decide)
    exact ((k1.alloc tmp).grown hgrow e1).far (p := ⟨w.heap.size, 0, none⟩) e2 _
  refine ⟨hv1, ?_, hb2, v', hv2, np, by rw [cellsF_snoc]; simpa using hr2, ?_, ?_, hbl.trans hb2⟩
  · exact ((SameIn.alloc Pv W tmp).trans (SameIn.grown hgrow hrowp)).trans (SameIn.setCell _ (a := ⟨w.heap.size, 0, none⟩) (fun h => by have := np _ h; simp at this) _)
  · intro g hg h
    rcases hat with e | e
    · exact hv g (e ▸ hg) h
    · rw [hg] at e
      have := hPw g h
      simp at e
      omega
  · intro y hy
    rcases List.mem_append.1 hy with h | h
    · exact keep y (hx y h)
    · obtain rfl : y = x := by simpa using h
      exact keep _ hok


/-- ahead of a round's body: the loop variable's box -/
def MidC (s : Int) (w : World) (tm : Item → Value → Array Value) (Pv : Nat → Prop) (pre : List Item) (x : Item) (a : Act) (W : World) : Prop :=
  Coll s w Pv pre W ∧ OkF w.heap.size Pv x W ∧ (∀ k, Pv k → k < W.heap.size) ∧ ∃ Bx, Bk W Bx 24 #[.int .i64 s, .slice (some ⟨x.1, 0, none⟩) x.2.length x.2.length] ∧ ¬ Pv Bx ∧ a = { tmps := tm x (.pointer (some ⟨Bx, 0, none⟩)), defers := [] }

theorem MidC.steady (s : Int) (w : World) (tm : Item → Value → Array Value) (Pv : Nat → Prop) (pre : List Item) (x : Item) (a : Act) (W W' : World) (h : MidC s w tm Pv pre x a W) (hs : SameOut Pv W W') : MidC s w tm Pv pre x a W' := by
  obtain ⟨h1, h2, h3, Bx, h4, h5, h6⟩ := h
  exact ⟨Coll.steady s w _ _ _ _ _ h1 hs (fun k h => .inl h), h2.same hs (fun k h => .inl h), fun k h => Nat.lt_of_lt_of_le (h3 k h) hs.size, Bx, (hs.block _ h4.lt h5).trans h4, h5, h6⟩

set_option maxRecDepth 100000 in
set_option maxHeartbeats 4000000 in
/-- collect: a slice of all that the iterator yields -/
theorem collect_any (s : Int) (ms : List (List UInt8)) (lb : Array Value) (N : Nat) (hN : N ≤ 1000000) (w : World) (hseq : SeqSep Try.prog 65 lb (encF s) (OkF w.heap.size) (fun xs => xs.map (·.2) = ms) (fun _ => True) N w) :
    Calls Try.prog 60 #[.func (.func 65) #[] lb] w fun e w' => ∃ A c, e = .returned (.slice A ms.length c) ∧ ms.length ≤ c ∧ RdFs w' w'.heap.size A (ms.map fun b => (s, b)) ∧ Below w.heap.size w w' := by
  obtain ⟨i0, hi, hz0, hz1, hz2⟩ := info_parts info_flash
  have HS := Lib.hid hseq
  clear hseq
  refine (callsIn_wide (n := 9)).1 ?_
  refine callsIn_of_wp_marks Try.func60 rfl trivial ?_ rfl
  simp only [Try.ntmps60, List.size_toArray, List.length_cons, List.length_nil, Nat.reduceAdd, Nat.reduceSub, Array.replicate_succ, Array.replicate_zero, List.push_toArray, List.append_toArray, List.nil_append, List.cons_append]
  gi_wp2
  refine wpIn_rangeFunc_sep (gf := 65) (lb := lb) rfl (enters_of Try.func65 (by kernel_rfl) rfl) HS.out
    ((Below.refl _ w).alloc (Nat.le_refl _) _) (fun _ => rfl) ?hOk (Coll s w) (fun _ _ _ _ => False) (Coll.steady s w) (fun _ _ _ _ _ _ h _ _ => h) ?h0
    (MidC s w (fun x q => #[.func (.func 65) #[] lb, undef, .slice none 0 0, .pointer (some ⟨w.heap.size, 0, none⟩), q, .func (.func 65) #[] lb, .agg #[.int .i64 s, .slice (some ⟨x.1, 0, none⟩) x.2.length x.2.length], undef, undef, undef, undef, undef])) (MidC.steady s w _) ?assign ?body ?done ?stop
  case hOk =>
    rintro Pv Pv' x W W' ⟨k1, k2, k3⟩ hs hp hD ⟨r, hl⟩
    have np : ¬ Pv' x.1 := fun h => by
      rcases hp _ h with h | h | h
      · exact k2 h
      · rw [← h] at hD; rw [show W.heap[x.1]? = _ from k1] at hD; cases hD
      · rw [← h] at hl; rw [show W.heap[x.1]? = _ from k1] at hl; cases hl
    exact ⟨(hs.block _ k1.lt np).trans k1, np, k3⟩
  case h0 =>
    intro Pv hP
    exact ⟨.slice none 0 0, Boxed.new w _ _, fun k h => by have := hP k h; simp at this; omega, World.ownsRow_nil _ _ _ _, by simp [Value.ownBlock], by simp, (Below.refl _ w).alloc (Nat.le_refl _) _⟩
  case assign =>
    intro l Pv pre x W hc hok hPw hlen hsz
    have hc' := hc
    obtain ⟨v, hb, np, hr, hv, hx, hbl⟩ := hc'
    dsimp only [encF]
    gi_wp2
    refine ⟨SameIn.alloc _ _ _, (Below.refl _ W).alloc hbl.size _, Coll.steady s w _ _ _ _ _ hc (SameOut.alloc _ _ _) (fun k h => .inl h), hok.same (SameOut.alloc _ _ _) (fun k h => .inl h), fun k h => by have := hPw k h; simp; omega, W.heap.size, Bk.new _ _ _, fun h => by have := hPw _ h; omega, rfl⟩
  case body =>
    rintro l Pv pre x a₁ W ⟨⟨v, hb, np, hr, hv, hx, hbl⟩, hok, hPw, Bx, kx, npx, rfl⟩ hlen hsz
    have c0 := hb.cell
    have c1 := kx.cell 0
    have c2 := kx.cell 1
    simp only [List.getElem?_toArray, List.getElem?_cons_zero, List.getElem?_cons_succ] at c1 c2
    have HX := Lib.hid hx
    have HV := Lib.hid hv
    have NP := Lib.hid np
    have HP := Lib.hid hPw
    clear hx hv np hPw
    gi_wp2_with (gi_at_builtin; refine wpListIn_append_own_at _ rfl _ _ 35 rfl w.heap.size 24 i0 (.agg #[.int .i64 0, .slice none 0 0]) 2 32 Try.underlying35 hi hz0 hz1 hz2 rfl (by decide) v pre.length (cellsF s pre) rfl (hr.alloc _) ⟨W.heap.size, 0, none⟩ 1 1 [.int .i64 s, .slice (some ⟨x.1, 0, none⟩) x.2.length x.2.length] rfl rfl (news2 _ _ _ _) (by simp [Value.oneCell']) (by simp only [maxLen]; omega) (by omega) (by have := hbl.size; simp; omega) ?_; intro v' w1 hown' hgrow _ hat; obtain ⟨g', cap', rfl⟩ := ownsRow_succ hown'; obtain ⟨hv1, hs1, hb1, hc1⟩ := Coll.snoc hb NP.out hr HV.out HX.out hok hbl HP.out hown' hgrow hat; have d0 := hv1.cell; have d1 := hv1.frozen)
    exact ⟨hs1, hb1, hc1⟩
  case done =>
    rintro D Pv xs W hD hS hPD ⟨v, hb, np, hr, hv, hx, hbl⟩ hK
    have c0 := hb.cell
    have hl : xs.length = ms.length := by rw [← hS]; simp
    gi_wp2
    refine ⟨by simp, .inl ⟨_, _, rfl, run_takeDeferred hK, ?_⟩⟩
    refine ⟨_, results_tmp rfl _ _ _, ?_⟩
    have hb' : Below w.heap.size w (W.putObj D (.deferred none)) := hbl.trans (belowK_b (w := w) (Nat.le_refl _) W D _ _ (by simp at hD; omega) hK rfl rfl)
    have hr' := ownsRow_putObj hr (.deferred none) hK rfl
    have hx' : ∀ y ∈ xs, Bk (W.putObj D (.deferred none)) y.1 5 (u8s y.2).toArray := fun y hy => by
      have k := (hx y hy).1
      exact (World.putObj_heap_other (fun e => by rw [← e, show W.heap[y.1]? = _ from k] at hK; cases hK)).trans k
    generalize W.putObj D (.deferred none) = W9 at *
    rcases hr'.2 with ⟨rfl, h0⟩ | ⟨g, cap, cur, rfl, hg, hh, hcap, hmax, hsz, htk⟩
    · have : ms = [] := List.eq_nil_of_length_eq_zero (by omega)
      subst this
      exact ⟨none, 0, rfl, Nat.le_refl _, RdFs.nil, hb'⟩
    · refine ⟨some ⟨g, 0, none⟩, cap, by rw [← hl]; rfl, by omega, fun hn => ⟨g, 0, rfl, (Array.getElem?_eq_some_iff.1 hh).1, fun i m hm => ?_⟩, hb'⟩
      rw [← hS] at hm
      simp only [List.map_map, List.getElem?_map, Option.map_eq_some_iff, Function.comp] at hm
      obtain ⟨y, hy, rfl⟩ := hm
      obtain ⟨q1, q2⟩ := cellsF_get s xs i y hy
      have hc : ∀ j u, (cellsF s xs)[j]? = some u → W9.cell? ⟨g, 0 + j, none⟩ = some u := fun j u hu => by have := hr'.cells (g := g) rfl j u hu; rwa [add_mk] at this
      have ky := hx' y (List.mem_of_getElem? hy)
      exact ⟨some ⟨y.1, 0, none⟩, y.2.length, hc _ _ q1, hc _ _ q2, Nat.le_refl _, RdB.of_bk ky ky.lt⟩
  case stop =>
    rintro D Pv c pre W _ _ _ h _
    exact h.elim

end Go.Proofs.Ytpcklbmhblmjpaa
