/- A charger whose clock has any drift, and to which a lease that was given in a tick arrives in that tick or in one of the ten ticks after it, is allowed more than its Fallback only in ticks in which the lease may be alive by lease.Alive: the law TopLeaseEnds returns true at every input. No condition but what the card ties. -/
import Derived.Test.YtlfogcidklpeiaaDoorCards
import Derived.Test.YtlfogcidklpeiaaDoorTie
import Derived.Test.YtlfogcidklpeiaaDoorEr
import Derived.Test.YtlfogcidklpeiaaDoorEd
set_option linter.unusedVariables false
set_option linter.unusedSimpArgs false
namespace Go.Proofs.YtlfogcidklpeiaaDoor.TopLeaseEnds
open Go.ChangeShapes Go.WideShapes Go.ChangeAt Go.RowKit

theorem law_read (t : TypeId) (ht : t ∈ (#[23, 25, 3, 26, 5, 3, 5, 27] : Array TypeId).toList) : Tryd.prog.readableRec t = true ∧ t < Tryd.prog.types.size := by
  simp at ht
  rcases ht with rfl | rfl | rfl | rfl | rfl | rfl | rfl | rfl <;> exact ⟨by kernel_rfl, of_decide_eq_true (by kernel_rfl)⟩
theorem law_plain (t : TypeId) (ht : t ∈ (#[23, 25, 3, 26, 5, 3, 5, 27] : Array TypeId).toList) : Tryd.prog.wantsStandIn t = false := by
  simp at ht
  rcases ht with rfl | rfl | rfl | rfl | rfl | rfl | rfl | rfl <;> kernel_rfl

set_option maxRecDepth 100000 in
theorem lifted (os : Os) (started : os.Started) (H : Type) (enc : TypeId × Value → H) :
    ReturnsInHanded {} Tryd.checked os 3 .any (fun w args => (Rows.topLeaseEndsSpec.pre enc Tryd.prog Tryd.f3 [] false w args ∧ laidMetH Tryd.prog [("chargepark/charger.afterwards", Rows.laid_chargepark_charger_afterwards)] w) ∧ sizedMet enc Tryd.prog Tryd.f3 (OpenSpec.ofChange Rows.topLeaseEndsSpec) false w args) (Rows.topLeaseEndsSpec.post enc Tryd.prog Tryd.f3 false true false false) := by
  refine returnsInHanded_of_change_and (C := Tryd.checked) (X := fun w _ => laidMetH Tryd.prog [("chargepark/charger.afterwards", Rows.laid_chargepark_charger_afterwards)] w) (fun _ _ _ hh h => h.of_heap hh) lawOwn started (by kernel_rfl) Tryd.func3
    (ChangeSpec.witness_shaped (enc := enc) (C := Tryd.checked) (os := os) (X := fun w _ => laidMetH Tryd.prog [("chargepark/charger.afterwards", Rows.laid_chargepark_charger_afterwards)] w) false (World.doorLaid Tryd.prog 14 os) #[.agg #[.string ByteArray.empty, .int .i64 0, .int .i64 0, .int .i64 0, .int .i64 0, .int .i64 0, .int .i64 0, .int .i64 0], .agg #[.int .i64 0, .int .i64 0, .int .i64 0, .bool false], .int .i64 0, .int .u32 0, .int .u8 0, .int .i64 0, .int .u8 0, .slice none 0 0] 8 rfl (World.shaped_of_RefB (by kernel_rfl) (by kernel_rfl)) (by kernel_rfl) (by kernel_rfl) (by kernel_rfl) (door_met os _)) ?_
  intro W base args ds gs before hval0 hW _ _ hL _
  have hval : ∀ (j : Nat) t v, Tryd.f3.params[j]? = some t → args[j]? = some v → Value.okWide Tryd.prog W .any base t v := hval0
  have hW' := hW
  obtain ⟨p, q, hA0, hV, rfl, hfz, hnd⟩ := hW
  have hA : DataW.TrodAll enc Tryd.prog W 0 (fun _ => true) true Tryd.f3.params.toList args.toList ds p := hA0
  rw [Tryd.params3] at hA hval
  obtain ⟨v0, vs0, d0, ds0, p0, q0, hargs, rfl, rfl, h0, t0⟩ := trodAll_cons hA
  obtain ⟨v1, vs1, d1, ds1, p1, q1, rfl, rfl, rfl, h1, t1⟩ := trodAll_cons t0
  obtain ⟨v2, vs2, d2, ds2, p2, q2, rfl, rfl, rfl, h2, t2⟩ := trodAll_cons t1
  obtain ⟨v3, vs3, d3, ds3, p3, q3, rfl, rfl, rfl, h3, t3⟩ := trodAll_cons t2
  obtain ⟨v4, vs4, d4, ds4, p4, q4, rfl, rfl, rfl, h4, t4⟩ := trodAll_cons t3
  obtain ⟨v5, vs5, d5, ds5, p5, q5, rfl, rfl, rfl, h5, t5⟩ := trodAll_cons t4
  obtain ⟨v6, vs6, d6, ds6, p6, q6, rfl, rfl, rfl, h6, t6⟩ := trodAll_cons t5
  obtain ⟨v7, vs7, d7, ds7, p7, q7, rfl, rfl, rfl, h7, t7⟩ := trodAll_cons t6
  obtain ⟨rfl, rfl, rfl⟩ := trodAll_nil t7
  obtain rfl : args = #[v0, v1, v2, v3, v4, v5, v6, v7] := by cases args; simp_all
  obtain ⟨rfl, rfl⟩ := trodVars_none hV
  have hfn : Rows.topLeaseEndsSpec.fn H ([d0, d1, d2, d3, d4, d5, d6, d7] ++ []) = { results := [.lit (.bool true)], args := [d0, d1, d2, d3, d4, d5, d6, d7] } := rfl
  have hpost : ∀ W', Below W.heap.size W W' → Rows.topLeaseEndsSpec.post enc Tryd.prog Tryd.f3 false true false false W #[v0, v1, v2, v3, v4, v5, v6, v7] (.bool true) W' := fun W' hb => law_post (t := 4) rfl rfl Tryd.underlying4 (fun t ht => by rw [Tryd.params3] at ht; exact law_read t ht) hfn hW' hb
  clear hA0 hval0 hA hW' hfn
  have WW := af_of hL
  obtain ⟨c0, rfl⟩ := open_charger (hval 0 23 v0 rfl rfl) h0
  obtain ⟨p01, a01, l01, wd1, rfl⟩ := open_cstate (hval 1 25 v1 rfl rfl) h1
  obtain ⟨a2, rfl, hd2, hp2, w2⟩ := open_int Tryd.underlying3 (hval 2 3 v2 rfl rfl) h2
  obtain ⟨lo2, hi2⟩ := bounds_i64 w2
  obtain ⟨a3, rfl, hd3, hp3, w3⟩ := open_int Tryd.underlying26 (hval 3 26 v3 rfl rfl) h3
  have bu3 := bounds_u32 w3
  obtain ⟨a4, rfl, hd4, hp4, w4⟩ := open_int Tryd.underlying5 (hval 4 5 v4 rfl rfl) h4
  obtain ⟨lo4, hi4⟩ := bounds_u8 w4
  obtain ⟨a5, rfl, hd5, hp5, w5⟩ := open_int Tryd.underlying3 (hval 5 3 v5 rfl rfl) h5
  obtain ⟨lo5, hi5⟩ := bounds_i64 w5
  obtain ⟨a6, rfl, hd6, hp6, w6⟩ := open_int Tryd.underlying5 (hval 6 5 v6 rfl rfl) h6
  obtain ⟨lo6, hi6⟩ := bounds_u8 w6
  obtain ⟨A7, b7, c7, rfl, hc7, hx7, r7⟩ := open_slice_bytes (hval 7 27 v7 rfl rfl) h7
  refine (TopLeaseEnds_walk c0 p01 a01 l01 wd1 a2 a3 a4 a5 a6 b7 A7 c7 W (by omega) (by omega) lo4 (by omega) lo6 (by omega) r7 (by unfold maxLen at hx7; omega) WW).mono fun e W' ⟨he, hb⟩ => ?_
  subst he
  exact ⟨_, rfl, hpost W' hb⟩

theorem row : Rows.TopLeaseEndsSaid :=
  OpenClaim.holds_of_wide 3 Tryd.f3 rfl rfl rfl rfl rfl rfl rfl ⟨rfl, rfl, rfl, rfl, rfl⟩ rfl rfl rfl rfl rfl (by kernel_rfl) Tryd.func3 (by kernel_rfl)
    (of_decide_eq_true (by kernel_rfl)) (by unfold Func.isWrapper; rw [if_neg (by decide +kernel)]; exact ⟨rfl, rfl⟩)
    (fun os started H enc _ => lifted os started H enc)
theorem proved : Rows.TopLeaseEndsCardSaid :=
  Claim7.holds_tied_plain_at .later [] [.data] true (true, "c43c4b715faf52ac86dab993235a7834b4797012acd056afd76fb93ad7fb1736") false
    row (fun _ h => by cases h) (by kernel_rfl) (fun _ h => by cases h) topLeaseEnds_row_tie rfl ⟨rfl, rfl⟩ (by kernel_rfl) rfl
    (fun f fn hf hfn => by
      obtain rfl : f = 3 := Option.some.inj ((show Tryd.prog.funcNamed "chargepark/chargeparktop.TopLeaseEnds" = some 3 by kernel_rfl).symm.trans hf) |>.symm
      obtain rfl : fn = Tryd.f3 := (Option.some.inj (Tryd.func3.symm.trans hfn)).symm
      exact ⟨by kernel_rfl, fun j t ht => by
        rw [Tryd.params3] at ht
        exact law_plain t (Array.mem_toList_iff.2 (Array.mem_of_getElem? ht))⟩)
    (by kernel_rfl)
#print axioms proved
end Go.Proofs.YtlfogcidklpeiaaDoor.TopLeaseEnds
