/- If all plates differ by at least 12, at most 1 is wrong in each reading at the exit, and some cars are still there, or were not seen when they came: each entry whose car has left is matched with the exit of its car, and the contradiction is what is wrong, and 5 for each other pass: the law TopStrays returns true at every input. No condition but what the card ties. -/
import Derived.Test.YthmipmdpdfdlaaaDoorCards
import Derived.Test.YthmipmdpdfdlaaaDoorTie
import Derived.Test.YthmipmdpdfdlaaaDoorTs
import Derived.Test.YthmipmdpdfdlaaaDoorTz
set_option linter.unusedVariables false
set_option linter.unusedSimpArgs false
namespace Go.Proofs.YthmipmdpdfdlaaaDoor.TopStrays
open Go.ChangeShapes Go.WideShapes Go.ChangeAt Go.RowKit

theorem law_read (t : TypeId) (ht : t ∈ (#[22, 5, 5] : Array TypeId).toList) : Tryd.prog.readableRec t = true ∧ t < Tryd.prog.types.size := by
  simp at ht
  rcases ht with rfl | rfl | rfl <;> exact ⟨by kernel_rfl, of_decide_eq_true (by kernel_rfl)⟩
theorem law_plain (t : TypeId) (ht : t ∈ (#[22, 5, 5] : Array TypeId).toList) : Tryd.prog.wantsStandIn t = false := by
  simp at ht
  rcases ht with rfl | rfl | rfl <;> kernel_rfl

set_option maxRecDepth 100000 in
theorem lifted (os : Os) (started : os.Started) (H : Type) (enc : TypeId × Value → H) :
    ReturnsInHanded {} Tryd.checked os 4 .any (fun w args => (Rows.topStraysSpec.pre enc Tryd.prog Tryd.f4 [] false w args ∧ laidMetH Tryd.prog [("chargepark/plate.confusable", Rows.laid_chargepark_plate_confusable)] w) ∧ sizedMet enc Tryd.prog Tryd.f4 (OpenSpec.ofChange Rows.topStraysSpec) false w args) (Rows.topStraysSpec.post enc Tryd.prog Tryd.f4 false true false false) := by
  refine returnsInHanded_of_change_and (C := Tryd.checked) (X := fun w _ => laidMetH Tryd.prog [("chargepark/plate.confusable", Rows.laid_chargepark_plate_confusable)] w) (fun _ _ _ hh h => h.of_heap hh) lawOwn started (by kernel_rfl) Tryd.func4
    (ChangeSpec.witness_shaped (enc := enc) (C := Tryd.checked) (os := os) (X := fun w _ => laidMetH Tryd.prog [("chargepark/plate.confusable", Rows.laid_chargepark_plate_confusable)] w) false (World.doorLaid Tryd.prog 14 os) #[.slice none 0 0, .int .u8 0, .int .u8 0] 8 rfl (World.shaped_of_RefB (by kernel_rfl) (by kernel_rfl)) (by kernel_rfl) (by kernel_rfl) (by kernel_rfl) (door_met os _)) ?_
  intro W base args ds gs before hval0 hW _ hsz0 hL _
  have hval : ∀ (j : Nat) t v, Tryd.f4.params[j]? = some t → args[j]? = some v → Value.okWide Tryd.prog W .any base t v := hval0
  have hW' := hW
  obtain ⟨p, q, hA0, hV, rfl, hfz, hnd⟩ := hW
  have hA : DataW.TrodAll enc Tryd.prog W 0 (fun _ => true) true Tryd.f4.params.toList args.toList ds p := hA0
  rw [Tryd.params4] at hA hval
  obtain ⟨v0, vs0, d0, ds0, p0, q0, hargs, rfl, rfl, h0, t0⟩ := trodAll_cons hA
  obtain ⟨v1, vs1, d1, ds1, p1, q1, rfl, rfl, rfl, h1, t1⟩ := trodAll_cons t0
  obtain ⟨v2, vs2, d2, ds2, p2, q2, rfl, rfl, rfl, h2, t2⟩ := trodAll_cons t1
  obtain ⟨rfl, rfl, rfl⟩ := trodAll_nil t2
  obtain rfl : args = #[v0, v1, v2] := by cases args; simp_all
  obtain ⟨rfl, rfl⟩ := trodVars_none hV
  have hfn : Rows.topStraysSpec.fn H ([d0, d1, d2] ++ []) = { results := [.lit (.bool true)], args := [d0, d1, d2] } := rfl
  have hpost : ∀ W', Below W.heap.size W W' → Rows.topStraysSpec.post enc Tryd.prog Tryd.f4 false true false false W #[v0, v1, v2] (.bool true) W' := fun W' hb => law_post (t := 4) rfl rfl Tryd.underlying4 (fun t ht => by rw [Tryd.params4] at ht; exact law_read t ht) hfn hW' hb
  clear hA0 hval0 hA hW' hfn
  have WW := cf_of hL
  obtain ⟨A0, l0, c0, rfl, hd0, hx0, r0⟩ := open_cars (hval 0 22 v0 rfl rfl) h0
  have hn0 := cars_len hsz0 rfl rfl hd0
  obtain ⟨a1, rfl, hd1, hp1, w1⟩ := open_int Tryd.underlying5 (hval 1 5 v1 rfl rfl) h1
  obtain ⟨lo1, hi1⟩ := bounds_u8 w1
  obtain ⟨a2, rfl, hd2, hp2, w2⟩ := open_int Tryd.underlying5 (hval 2 5 v2 rfl rfl) h2
  obtain ⟨lo2, hi2⟩ := bounds_u8 w2
  refine (TopStrays_walk l0 a1 a2 A0 c0 W hn0 lo1 (by omega) lo2 (by omega) (fun x hx => by have := hx0 x hx; unfold maxLen at this; exact this) WW r0).mono fun e W' ⟨he, hb⟩ => ?_
  subst he
  exact ⟨_, rfl, hpost W' hb⟩

theorem row : Rows.TopStraysSaid :=
  OpenClaim.holds_of_wide 4 Tryd.f4 rfl rfl rfl rfl rfl rfl rfl ⟨rfl, rfl, rfl, rfl, rfl⟩ rfl rfl rfl rfl rfl (by kernel_rfl) Tryd.func4 (by kernel_rfl)
    (of_decide_eq_true (by kernel_rfl)) (by unfold Func.isWrapper; rw [if_neg (by decide +kernel)]; exact ⟨rfl, rfl⟩)
    (fun os started H enc _ => lifted os started H enc)
theorem proved : Rows.TopStraysCardSaid :=
  Claim7.holds_tied_plain_at .later [] [.data] true (true, "c090009057c91f897d43f6aa6ec5d26bed54c2beb9fa9b2c1aa4ff2e2debdf2f") false
    row (fun _ h => by cases h) (by kernel_rfl) (fun _ h => by cases h) topStrays_row_tie rfl ⟨rfl, rfl⟩ (by kernel_rfl) rfl
    (fun f fn hf hfn => by
      obtain rfl : f = 4 := Option.some.inj ((show Tryd.prog.funcNamed "chargepark/chargeparktop.TopStrays" = some 4 by kernel_rfl).symm.trans hf) |>.symm
      obtain rfl : fn = Tryd.f4 := (Option.some.inj (Tryd.func4.symm.trans hfn)).symm
      exact ⟨by kernel_rfl, fun j t ht => by
        rw [Tryd.params4] at ht
        exact law_plain t (Array.mem_toList_iff.2 (Array.mem_of_getElem? ht))⟩)
    (by kernel_rfl)
#print axioms proved
end Go.Proofs.YthmipmdpdfdlaaaDoor.TopStrays
