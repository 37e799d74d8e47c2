/- If cars with one plate come one after the other, each after the one before has left, or in the same minute, each entry is matched with its own exit, and there is no contradiction: the law TopVisits returns true at every input. No condition but what the card ties. -/
import Derived.Test.YthmipmdpdfdlaaaDoorCards
import Derived.Test.YthmipmdpdfdlaaaDoorTie
import Derived.Test.YthmipmdpdfdlaaaDoorTr
import Derived.Test.YthmipmdpdfdlaaaDoorTw
set_option linter.unusedVariables false
set_option linter.unusedSimpArgs false
namespace Go.Proofs.YthmipmdpdfdlaaaDoor.TopVisits
open Go.ChangeShapes Go.WideShapes Go.ChangeAt Go.RowKit

theorem law_read (t : TypeId) (ht : t ∈ (#[9, 44] : Array TypeId).toList) : Tryd.prog.readableRec t = true ∧ t < Tryd.prog.types.size := by
  simp at ht
  rcases ht with rfl | rfl <;> exact ⟨by kernel_rfl, of_decide_eq_true (by kernel_rfl)⟩
theorem law_plain (t : TypeId) (ht : t ∈ (#[9, 44] : Array TypeId).toList) : Tryd.prog.wantsStandIn t = false := by
  simp at ht
  rcases ht with rfl | rfl <;> kernel_rfl

set_option maxRecDepth 100000 in
theorem lifted (os : Os) (started : os.Started) (H : Type) (enc : TypeId × Value → H) :
    ReturnsInHanded {} Tryd.checked os 5 .any (fun w args => (Rows.topVisitsSpec.pre enc Tryd.prog Tryd.f5 [] false w args ∧ laidMetH Tryd.prog [("chargepark/plate.confusable", Rows.laid_chargepark_plate_confusable)] w) ∧ sizedMet enc Tryd.prog Tryd.f5 (OpenSpec.ofChange Rows.topVisitsSpec) false w args) (Rows.topVisitsSpec.post enc Tryd.prog Tryd.f5 false true false false) := by
  refine returnsInHanded_of_change_and (C := Tryd.checked) (X := fun w _ => laidMetH Tryd.prog [("chargepark/plate.confusable", Rows.laid_chargepark_plate_confusable)] w) (fun _ _ _ hh h => h.of_heap hh) lawOwn started (by kernel_rfl) Tryd.func5
    (ChangeSpec.witness_shaped (enc := enc) (C := Tryd.checked) (os := os) (X := fun w _ => laidMetH Tryd.prog [("chargepark/plate.confusable", Rows.laid_chargepark_plate_confusable)] w) false (World.doorLaid Tryd.prog 14 os) #[.string ByteArray.empty, .slice none 0 0] 8 rfl (World.shaped_of_RefB (by kernel_rfl) (by kernel_rfl)) (by kernel_rfl) (by kernel_rfl) (by kernel_rfl) (door_met os _)) ?_
  intro W base args ds gs before hval0 hW _ _ hL _
  have hval : ∀ (j : Nat) t v, Tryd.f5.params[j]? = some t → args[j]? = some v → Value.okWide Tryd.prog W .any base t v := hval0
  have hW' := hW
  obtain ⟨p, q, hA0, hV, rfl, hfz, hnd⟩ := hW
  have hA : DataW.TrodAll enc Tryd.prog W 0 (fun _ => true) true Tryd.f5.params.toList args.toList ds p := hA0
  rw [Tryd.params5] at hA hval
  obtain ⟨v0, vs0, d0, ds0, p0, q0, hargs, rfl, rfl, h0, t0⟩ := trodAll_cons hA
  obtain ⟨v1, vs1, d1, ds1, p1, q1, rfl, rfl, rfl, h1, t1⟩ := trodAll_cons t0
  obtain ⟨rfl, rfl, rfl⟩ := trodAll_nil t1
  obtain rfl : args = #[v0, v1] := by cases args; simp_all
  obtain ⟨rfl, rfl⟩ := trodVars_none hV
  have hfn : Rows.topVisitsSpec.fn H ([d0, d1] ++ []) = { results := [.lit (.bool true)], args := [d0, d1] } := rfl
  have hpost : ∀ W', Below W.heap.size W W' → Rows.topVisitsSpec.post enc Tryd.prog Tryd.f5 false true false false W #[v0, v1] (.bool true) W' := fun W' hb => law_post (t := 4) rfl rfl Tryd.underlying4 (fun t ht => by rw [Tryd.params5] at ht; exact law_read t ht) hfn hW' hb
  clear hA0 hval0 hA hW' hfn
  have WW := cf_of hL
  obtain ⟨s0, rfl, _, _, hx0⟩ := Go.ChangeMaps.open_string Tryd.underlying9 (hval 0 9 v0 rfl rfl) h0
  obtain ⟨A1, l1, c1, rfl, hc1, hx1, r1⟩ := open_stays (hval 1 44 v1 rfl rfl) h1
  refine (TopVisits_walk s0 l1 A1 c1 W (by unfold maxLen at hx0; omega) (by unfold maxLen at hx1; omega) WW r1).mono fun e W' ⟨he, hb⟩ => ?_
  subst he
  exact ⟨_, rfl, hpost W' hb⟩

theorem row : Rows.TopVisitsSaid :=
  OpenClaim.holds_of_wide 5 Tryd.f5 rfl rfl rfl rfl rfl rfl rfl ⟨rfl, rfl, rfl, rfl, rfl⟩ rfl rfl rfl rfl rfl (by kernel_rfl) Tryd.func5 (by kernel_rfl)
    (of_decide_eq_true (by kernel_rfl)) (by unfold Func.isWrapper; rw [if_neg (by decide +kernel)]; exact ⟨rfl, rfl⟩)
    (fun os started H enc _ => lifted os started H enc)
theorem proved : Rows.TopVisitsCardSaid :=
  Claim7.holds_tied_plain_at .later [] [.data] true (true, "c090009057c91f897d43f6aa6ec5d26bed54c2beb9fa9b2c1aa4ff2e2debdf2f") false
    row (fun _ h => by cases h) (by kernel_rfl) (fun _ h => by cases h) topVisits_row_tie rfl ⟨rfl, rfl⟩ (by kernel_rfl) rfl
    (fun f fn hf hfn => by
      obtain rfl : f = 5 := Option.some.inj ((show Tryd.prog.funcNamed "chargepark/chargeparktop.TopVisits" = some 5 by kernel_rfl).symm.trans hf) |>.symm
      obtain rfl : fn = Tryd.f5 := (Option.some.inj (Tryd.func5.symm.trans hfn)).symm
      exact ⟨by kernel_rfl, fun j t ht => by
        rw [Tryd.params5] at ht
        exact law_plain t (Array.mem_toList_iff.2 (Array.mem_of_getElem? ht))⟩)
    (by kernel_rfl)
#print axioms proved
end Go.Proofs.YthmipmdpdfdlaaaDoor.TopVisits
