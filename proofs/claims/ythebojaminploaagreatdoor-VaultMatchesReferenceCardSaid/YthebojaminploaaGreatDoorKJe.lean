/- flash.Program and flash.Erase once more: what they return is owned. -/
import Derived.Test.YthebojaminploaaGreatDoorKJS
import Derived.Test.YthebojaminploaaGreatDoorKFZ
set_option maxRecDepth 100000
set_option linter.unusedVariables false
namespace Go.Proofs.YthebojaminploaaGreatDoor
open Go.RowKit Go.Sort Go.Shelf
attribute [local go_sem] Oper.semAt_some

/-- a row of memories of one kind of sector, each with bytes of its own -/
def Ms (base : Nat) (s : Int) (its : List Itm) (v : Value) (W : World) : Prop :=
  W.ownsRow base 24 2 v its.length (cellsE s its) ∧ ∀ x ∈ its, W.ownsRow 0 5 1 (cellB x) x.2.2.length (u8s x.2.2)
theorem cellsF_E (s : Int) (pre : List Item) : cellsE s (pre.map fun x => (some ⟨x.1, 0, none⟩, x.2.length, x.2)) = cellsF s pre := by
  unfold cellsE cellsF
  rw [List.flatMap_map]
theorem own_mono {w : World} {base base' n sz : Nat} {e : TypeId} {v : Value} {xs : List Value} (h : w.ownsRow base e sz v n xs) (hb : base' ≤ base) : w.ownsRow base' e sz v n xs := by
  obtain ⟨hl, h | ⟨g, cap, cur, rfl, hg, hh⟩⟩ := h
  · exact ⟨hl, .inl h⟩
  · exact ⟨hl, .inr ⟨g, cap, cur, rfl, by omega, hh⟩⟩
theorem Ms.mono {base base' : Nat} {s : Int} {its : List Itm} {v : Value} {W : World} (h : Ms base s its v W) (hb : base' ≤ base) : Ms base' s its v W := ⟨own_mono h.1 hb, h.2⟩
theorem Ms.keep {base : Nat} {s : Int} {its : List Itm} {v : Value} {W W' : World} (h : Ms base s its v W) (hk : ∀ g, v.ownBlock = some g → W'.heap[g]? = W.heap[g]?) (hi : ∀ x ∈ its, ∀ g, (cellB x).ownBlock = some g → W'.heap[g]? = W.heap[g]?) : Ms base s its v W' :=
  ⟨own_keep h.1 hk, fun x hx => own_keep (h.2 x hx) (hi x hx)⟩
theorem Ms.next {base : Nat} {s : Int} {its : List Itm} {v : Value} {W W' : World} (h : Ms base s its v W) (hb : Below W.heap.size W W') : Ms base s its v W' :=
  h.keep (fun g hg => hb.block g (own_lt h.1 hg).2) (fun x hx g hg => hb.block g (own_lt (h.2 x hx) hg).2)
theorem Ms.rd {base : Nat} {s : Int} {its : List Itm} {v : Value} {W : World} (h : Ms base s its v W) : ∃ A c, v = .slice A its.length c ∧ its.length ≤ c ∧ RdFs W W.heap.size A (its.map fun x => (s, x.2.2)) := by
  obtain ⟨A, c, rfl, hc, hr⟩ := own_read h.1
  refine ⟨A, c, rfl, hc, fun hn => ?_⟩
  obtain ⟨b, o, e, hb, hcell⟩ := hr.2 (by simpa using hn)
  refine ⟨b, o, e, hb, fun i m hm => ?_⟩
  rw [List.getElem?_map, Option.map_eq_some_iff] at hm
  obtain ⟨x, hx, rfl⟩ := hm
  obtain ⟨q1, q2⟩ := cellsE_get s its i x hx
  obtain ⟨A', c', e', hc', hr'⟩ := own_read (h.2 x (List.mem_of_getElem? hx))
  have ea : x.1 = A' ∧ x.2.1 = c' := by simpa [cellB] using e'
  refine ⟨x.1, x.2.1, hcell _ _ q1, ?_, by rw [ea.2]; exact hc', by rw [ea.1]; exact hr'⟩
  have := hcell _ _ q2
  rw [← Nat.add_assoc] at this
  exact this
def OwnPost (w : World) (s : Int) (ms : List (List UInt8)) (e : Ending) (w' : World) : Prop :=
  ∃ v its, e = .returned (.tuple #[v, .int .i64 0]) ∧ Ms w.heap.size s its v w' ∧ its.map (·.2.2) = ms ∧ Below w.heap.size w w'

set_option maxRecDepth 100000 in
set_option maxHeartbeats 4000000 in
/-- collect: a slice of all that the iterator yields -/
theorem collect_own (s : Int) (ms : List (List UInt8)) (lb : Array Value) (N : Nat) (hN : N ≤ 1000000) (hms : ∀ b ∈ ms, b.length ≤ 1000000000) (w : World) (hseq : SeqSep Tryz.prog 90 lb (encF s) (OkF w.heap.size) (fun xs => xs.map (·.2) = ms) (fun _ => True) N w) :
    Calls Tryz.prog 83 #[.func (.func 90) #[] lb] w fun e w' => ∃ v its, e = .returned v ∧ Ms w.heap.size s its v w' ∧ its.map (·.2.2) = ms ∧ Below w.heap.size w w' := by
  obtain ⟨i0, hi, hz0, hz1, hz2⟩ := info_parts info_flash
  have HS := Lib.hid hseq
  clear hseq
  refine (callsIn_wide (n := 9)).1 ?_
  refine callsIn_of_wp_marks Tryz.func83 rfl trivial ?_ rfl
  simp only [Tryz.ntmps83, List.size_toArray, List.length_cons, List.length_nil, Nat.reduceAdd, Nat.reduceSub, Array.replicate_succ, Array.replicate_zero, List.push_toArray, List.append_toArray, List.nil_append, List.cons_append]
  gi_wp2
  refine wpIn_rangeFunc_sep (gf := 90) (lb := lb) rfl (enters_of Tryz.func90 (by kernel_rfl) rfl) HS.out
    ((Below.refl _ w).alloc (Nat.le_refl _) _) (fun _ => rfl) ?hOk (Coll s w) (fun _ _ _ _ => False) (Coll.steady s w) (fun _ _ _ _ _ _ h _ _ => h) ?h0
    (MidC s w (fun x q => #[.func (.func 90) #[] lb, undef, .slice none 0 0, .pointer (some ⟨w.heap.size, 0, none⟩), q, .func (.func 90) #[] lb, .agg #[.int .i64 s, .slice (some ⟨x.1, 0, none⟩) x.2.length x.2.length], undef, undef, undef, undef, undef])) (MidC.steady s w _) ?assign ?body ?done ?stop
  case hOk =>
    rintro Pv Pv' x W W' ⟨k1, k2, k3⟩ hs hp hD ⟨r, hl⟩
    have np : ¬ Pv' x.1 := fun h => by
      rcases hp _ h with h | h | h
      · exact k2 h
      · rw [← h] at hD; rw [show W.heap[x.1]? = _ from k1] at hD; cases hD
      · rw [← h] at hl; rw [show W.heap[x.1]? = _ from k1] at hl; cases hl
    exact ⟨(hs.block _ k1.lt np).trans k1, np, k3⟩
  case h0 =>
    intro Pv hP
    exact ⟨.slice none 0 0, Boxed.new w _ _, fun k h => by have := hP k h; simp at this; omega, World.ownsRow_nil _ _ _ _, by simp [Value.ownBlock], by simp, (Below.refl _ w).alloc (Nat.le_refl _) _⟩
  case assign =>
    intro l Pv pre x W hc hok hPw hlen hsz
    have hc' := hc
    obtain ⟨v, hb, np, hr, hv, hx, hbl⟩ := hc'
    dsimp only [encF]
    gi_wp2
    refine ⟨SameIn.alloc _ _ _, (Below.refl _ W).alloc hbl.size _, Coll.steady s w _ _ _ _ _ hc (SameOut.alloc _ _ _) (fun k h => .inl h), hok.same (SameOut.alloc _ _ _) (fun k h => .inl h), fun k h => by have := hPw k h; simp; omega, W.heap.size, Bk.new _ _ _, fun h => by have := hPw _ h; omega, rfl⟩
  case body =>
    rintro l Pv pre x a₁ W ⟨⟨v, hb, np, hr, hv, hx, hbl⟩, hok, hPw, Bx, kx, npx, rfl⟩ hlen hsz
    have c0 := hb.cell
    have c1 := kx.cell 0
    have c2 := kx.cell 1
    simp only [List.getElem?_toArray, List.getElem?_cons_zero, List.getElem?_cons_succ] at c1 c2
    have HX := Lib.hid hx
    have HV := Lib.hid hv
    have NP := Lib.hid np
    have HP := Lib.hid hPw
    clear hx hv np hPw
    gi_wp2_with (gi_at_builtin; refine wpListIn_append_own_at _ rfl _ _ 28 rfl w.heap.size 24 i0 (.agg #[.int .i64 0, .slice none 0 0]) 2 32 Tryz.underlying28 hi hz0 hz1 hz2 rfl (by decide) v pre.length (cellsF s pre) rfl (hr.alloc _) ⟨W.heap.size, 0, none⟩ 1 1 [.int .i64 s, .slice (some ⟨x.1, 0, none⟩) x.2.length x.2.length] rfl rfl (news2 _ _ _ _) (by simp [Value.oneCell']) (by simp only [maxLen]; omega) (by omega) (by have := hbl.size; simp; omega) ?_; intro v' w1 hown' hgrow _ hat; obtain ⟨g', cap', rfl⟩ := ownsRow_succ hown'; obtain ⟨hv1, hs1, hb1, hc1⟩ := Coll.snoc hb NP.out hr HV.out HX.out hok hbl HP.out hown' hgrow hat; have d0 := hv1.cell; have d1 := hv1.frozen)
    exact ⟨hs1, hb1, hc1⟩
  case done =>
    rintro D Pv xs W hD hS hPD ⟨v, hb, np, hr, hv, hx, hbl⟩ hK
    have c0 := hb.cell
    have hlens : ∀ x ∈ xs, x.2.length ≤ 1000000000 := fun x hx => hms _ (by rw [← hS]; exact List.mem_map.2 ⟨x, hx, rfl⟩)
    gi_wp2
    refine ⟨by simp, .inl ⟨_, _, rfl, run_takeDeferred hK, ?_⟩⟩
    refine ⟨_, results_tmp rfl _ _ _, ?_⟩
    have hb' : Below w.heap.size w (W.putObj D (.deferred none)) := hbl.trans (belowK_b (w := w) (Nat.le_refl _) W D _ _ (by simp at hD; omega) hK rfl rfl)
    have hr' := ownsRow_putObj hr (.deferred none) hK rfl
    have hx' : ∀ y ∈ xs, Bk (W.putObj D (.deferred none)) y.1 5 (u8s y.2).toArray := fun y hy => by
      have k := (hx y hy).1
      exact (World.putObj_heap_other (fun e => by rw [← e, show W.heap[y.1]? = _ from k] at hK; cases hK)).trans k
    generalize W.putObj D (.deferred none) = W9 at *
    refine ⟨v, xs.map (fun x => (some ⟨x.1, 0, none⟩, x.2.length, x.2)), rfl, ⟨?_, ?_⟩, ?_, hb'⟩
    · rw [List.length_map, cellsF_E]; exact hr'
    · intro y hy
      obtain ⟨x, hx, rfl⟩ := List.mem_map.1 hy
      have k := own_block (base := 0) (hx' x hx) (Nat.zero_le _) (by have := hlens x hx; simp; omega)
      simpa [cellB] using k
    · rw [List.map_map]; exact hS
  case stop =>
    rintro D Pv c pre W _ _ _ h _
    exact h.elim


theorem Program_own (s : Int) (bs : List UInt8) (q : Nat) (ds : List UInt8) (A Ad : Option Addr) (c cd : Nat) (w : World) (hA : RdB w w.heap.size A bs) (hAd : RdB w w.heap.size Ad ds) (hv : validB s bs.length = true) (hq : q + ds.length ≤ bs.length) :
    Calls Tryz.prog 69 #[.agg #[.int .i64 s, .slice A bs.length c], .int .i64 (q : Int), .slice Ad ds.length cd] w (OwnPost w s (memos (andF ds) bs q ds.length)) := by
  have HA := Lib.hid hA
  have HD := Lib.hid hAd
  clear hA hAd
  have hB0 : Below w.heap.size w ((w.alloc (.cells #[.int .i64 s, .slice A bs.length c] 24)).alloc (.cells #[.slice Ad ds.length cd] 22)) := ((Below.refl _ w).alloc (Nat.le_refl _) _).alloc (by simp) _
  have k1 : Bk ((w.alloc (.cells #[.int .i64 s, .slice A bs.length c] 24)).alloc (.cells #[.slice Ad ds.length cd] 22)) w.heap.size 24 #[.int .i64 s, .slice A bs.length c] := bkOf (by simp [at?_alloc])
  have k2 : Bk ((w.alloc (.cells #[.int .i64 s, .slice A bs.length c] 24)).alloc (.cells #[.slice Ad ds.length cd] 22)) (w.heap.size + 1) 22 #[.slice Ad ds.length cd] := bkOf (by simp [at?_alloc])
  obtain ⟨v1, v2, v3, v4, v5⟩ := (valid_iff _ _).1 hv
  have h0 : (0 : Int) ≤ (q : Int) := by omega
  have h1 : (q : Int) ≤ (bs.length : Int) - (ds.length : Int) := by omega
  clear v5 hq
  go_enter Tryz.func69, Tryz.ntmps69
  go_wp2_with fail
  refine (Valid_any _ _ _ _ _).mono ?_
  rintro e W2 ⟨rfl, hb2⟩
  have k3 := k1.next hb2
  have k4 := k2.next hb2
  have c0 := k3.cell 0
  have c1 := k3.cell 1
  have c2 := k4.cell 0
  simp only [List.getElem?_toArray, List.getElem?_cons_zero, List.getElem?_cons_succ] at c0 c1 c2
  have hbb := bt hb2 hB0
  clear k1 k2 hb2 hB0
  go_wp2_with fail
  refine (memories_any s A bs.length c q ds.length _ ⟨_, _, rfl⟩ _).mono ?_
  rintro e W3 ⟨rfl, hW3⟩
  have hb3 : Below W2.heap.size W2 W3 := by
    rw [hW3]
    exact (((Below.refl _ _).alloc (Nat.le_refl _) _).alloc (by simp) _).alloc (by simp; omega) _ |>.alloc (by simp; omega) _
  have g1 : Bk W3 W2.heap.size 24 #[.int .i64 s, .slice A bs.length c] := by rw [hW3]; exact (((Bk.new _ _ _).alloc _).alloc _).alloc _
  have g2 : Bk W3 (W2.heap.size + 1) 3 #[.int .i64 (q : Int)] := by rw [hW3]; exact bkOf (by simp [at?_alloc])
  have g3 : Bk W3 (W2.heap.size + 2) 3 #[.int .i64 (ds.length : Int)] := by rw [hW3]; exact bkOf (by simp [at?_alloc])
  have g4 : Bk W3 (W2.heap.size + 3) 104 #[.func (.func 82) #[] #[.pointer (some ⟨w.heap.size + 1, 0, none⟩)]] := by rw [hW3]; exact bkOf (by simp [at?_alloc])
  have hseq := memories_prog s bs q ds Ad cd (w.heap.size + 1) W2.heap.size (W2.heap.size + 2) (W2.heap.size + 3) (W2.heap.size + 1) A c W3 g1 ((HA.out.next hbb).next hb3) g3 g2 g4 (k4.next hb3) ((HD.out.next hbb).next hb3) (by omega) (by omega)
  have hbw3 := bt hb3 hbb
  clear hW3 g1 g2 g3 g4 c0 c1 c2 k3 k4 hb3
  go_wp2_with fail
  refine (collect_own s _ _ (ds.length + 1) (by omega) (fun b hb => by obtain ⟨i, _, rfl⟩ := List.mem_map.1 hb; rw [memo_length]; omega) W3 hseq).mono ?_
  rintro e W4 ⟨v4, its, rfl, hms, hmap, hb4⟩
  obtain ⟨A4, c4, rfl, hc4, _⟩ := own_read hms.1
  go_wp2
  go_ret2
  exact ⟨_, its, rfl, hms.mono (by have := hbw3.size; omega), hmap, bt hb4 hbw3⟩

theorem Erase_own (s : Int) (bs : List UInt8) (k : Int) (A : Option Addr) (c : Nat) (w : World) (hA : RdB w w.heap.size A bs) (hv : validB s bs.length = true) (h0 : 0 ≤ k) (h1 : k < (bs.length : Int) / s) :
    Calls Tryz.prog 74 #[.agg #[.int .i64 s, .slice A bs.length c], .int .i64 k] w (OwnPost w s (memos eraF bs (k * s).toNat s.toNat)) := by
  have HA := Lib.hid hA
  clear hA
  have hB0 : Below w.heap.size w (w.alloc (.cells #[.int .i64 s, .slice A bs.length c] 24)) := (Below.refl _ w).alloc (Nat.le_refl _) _
  have k1 : Bk (w.alloc (.cells #[.int .i64 s, .slice A bs.length c] 24)) w.heap.size 24 #[.int .i64 s, .slice A bs.length c] := Bk.new _ _ _
  obtain ⟨v1, v2, v3, v4, v5⟩ := (valid_iff _ _).1 hv
  have d0 : 0 ≤ (bs.length : Int) / s := Int.ediv_nonneg (by omega) (by omega)
  have d1 : (bs.length : Int) / s ≤ 4096 := Int.le_trans (Int.ediv_le_self _ (by omega)) (by omega)
  obtain ⟨q0, q1⟩ := sector_in v1 v5 h0 h1
  have HQ : Hid ((k * s).toNat + s.toNat ≤ bs.length) := by show (k * s).toNat + s.toNat ≤ bs.length; omega
  obtain ⟨x, hx⟩ := Int.eq_ofNat_of_zero_le q0
  have HX := Lib.hid hx
  have q2 : k * s ≤ 4096 := by omega
  clear v5 hx
  go_enter Tryz.func74, Tryz.ntmps74
  go_wp2_with fail
  refine (Valid_any _ _ _ _ _).mono ?_
  rintro e W2 ⟨rfl, hb2⟩
  have k3 := k1.next hb2
  have c0 := k3.cell 0
  have c1 := k3.cell 1
  simp only [List.getElem?_toArray, List.getElem?_cons_zero, List.getElem?_cons_succ] at c0 c1
  have hbb := bt hb2 hB0
  clear k1 hb2 hB0
  go_wp2_with fail
  refine (memories_any s A bs.length c (k * s) s _ ⟨_, _, rfl⟩ _).mono ?_
  rintro e W3 ⟨rfl, hW3⟩
  have hb3 : Below W2.heap.size W2 W3 := by
    rw [hW3]
    exact (((Below.refl _ _).alloc (Nat.le_refl _) _).alloc (by simp) _).alloc (by simp; omega) _ |>.alloc (by simp; omega) _
  have g1 : Bk W3 W2.heap.size 24 #[.int .i64 s, .slice A bs.length c] := by rw [hW3]; exact (((Bk.new _ _ _).alloc _).alloc _).alloc _
  have g2 : Bk W3 (W2.heap.size + 1) 3 #[.int .i64 ((k * s).toNat : Int)] := by rw [hW3, Int.toNat_of_nonneg q0]; exact bkOf (by simp [at?_alloc])
  have g3 : Bk W3 (W2.heap.size + 2) 3 #[.int .i64 (s.toNat : Int)] := by rw [hW3, Int.toNat_of_nonneg (by omega)]; exact bkOf (by simp [at?_alloc])
  have g4 : Bk W3 (W2.heap.size + 3) 104 #[.func (.func 88) #[] #[]] := by rw [hW3]; exact bkOf (by simp [at?_alloc])
  have hseq := memories_erase s bs (k * s).toNat s.toNat W2.heap.size (W2.heap.size + 2) (W2.heap.size + 3) (W2.heap.size + 1) A c W3 g1 ((HA.out.next hbb).next hb3) g3 g2 g4 HQ.out (by omega)
  have hbw3 := bt hb3 hbb
  clear hW3 g1 g2 g3 g4 c0 c1 k3 hb3
  go_wp2_with fail
  refine (collect_own s _ _ (s.toNat + 1) (by omega) (fun b hb => by obtain ⟨i, _, rfl⟩ := List.mem_map.1 hb; rw [memo_length]; omega) W3 hseq).mono ?_
  rintro e W4 ⟨v4, its, rfl, hms, hmap, hb4⟩
  obtain ⟨A4, c4, rfl, hc4, _⟩ := own_read hms.1
  go_wp2
  go_ret2
  exact ⟨_, its, rfl, hms.mono (by have := hbw3.size; omega), hmap, bt hb4 hbw3⟩
end Go.Proofs.YthebojaminploaaGreatDoor
