/- If leases are stored one after the other, each in the tick in which it is given, beginning with an empty vault, what is alive of those that are loaded, in a tick that is not earlier, is what is alive of all that were not refused: the law VaultSequence returns true at every input. No condition but what the card ties. -/
import Derived.Test.YtcnhmgcingmphaaDoorCards
import Derived.Test.YtcnhmgcingmphaaDoorTie
import Derived.Test.YtcnhmgcingmphaaDoorKVr
import Derived.Test.YtcnhmgcingmphaaDoorKOP
import Derived.Test.YtcnhmgcingmphaaDoorKVwe
set_option linter.unusedVariables false
set_option linter.unusedSimpArgs false
namespace Go.Proofs.YtcnhmgcingmphaaDoor.VaultSequence
open Go.ChangeShapes Go.WideShapes Go.ChangeAt Go.RowKit

theorem law_read (t : TypeId) (ht : t ∈ (#[28, 3] : Array TypeId).toList) : Tryd.prog.readableRec t = true ∧ t < Tryd.prog.types.size := by
  simp at ht
  rcases ht with rfl | rfl <;> exact ⟨by kernel_rfl, of_decide_eq_true (by kernel_rfl)⟩
theorem law_plain (t : TypeId) (ht : t ∈ (#[28, 3] : Array TypeId).toList) : Tryd.prog.wantsStandIn t = false := by
  simp at ht
  rcases ht with rfl | rfl <;> kernel_rfl

set_option maxRecDepth 100000 in
theorem lifted (os : Os) (started : os.Started) (H : Type) (enc : TypeId × Value → H) :
    ReturnsInHanded {} Tryd.checked os 8 .any (fun w args => (Rows.vaultSequenceSpec.pre enc Tryd.prog Tryd.f8 [] false w args ∧ laidMetH Tryd.prog [("chargepark/vault.widths", Rows.laid_chargepark_vault_widths)] w) ∧ sizedMet enc Tryd.prog Tryd.f8 (OpenSpec.ofChange Rows.vaultSequenceSpec) false w args) (Rows.vaultSequenceSpec.post enc Tryd.prog Tryd.f8 false true false false) := by
  refine returnsInHanded_of_change_and (C := Tryd.checked) (X := fun w _ => laidMetH Tryd.prog [("chargepark/vault.widths", Rows.laid_chargepark_vault_widths)] w) (fun _ _ _ hh h => h.of_heap hh) lawOwn started (by kernel_rfl) Tryd.func8
    (ChangeSpec.witness_shaped (enc := enc) (C := Tryd.checked) (os := os) (X := fun w _ => laidMetH Tryd.prog [("chargepark/vault.widths", Rows.laid_chargepark_vault_widths)] w) false (World.doorLaid Tryd.prog 14 os) #[.slice none 0 0, .int .i64 0] 8 rfl (World.shaped_of_RefB (by kernel_rfl) (by kernel_rfl)) (by kernel_rfl) (by kernel_rfl) (by kernel_rfl) (door_met os _)) ?_
  intro W base args ds gs before hval0 hW _ _ hL _
  have hval : ∀ (j : Nat) t v, Tryd.f8.params[j]? = some t → args[j]? = some v → Value.okWide Tryd.prog W .any base t v := hval0
  have hW' := hW
  obtain ⟨p, q, hA0, hV, rfl, hfz, hnd⟩ := hW
  have hA : DataW.TrodAll enc Tryd.prog W 0 (fun _ => true) true Tryd.f8.params.toList args.toList ds p := hA0
  rw [Tryd.params8] at hA hval
  obtain ⟨v0, vs0, d0, ds0, p0, q0, hargs, rfl, rfl, h0, t0⟩ := trodAll_cons hA
  obtain ⟨v1, vs1, d1, ds1, p1, q1, rfl, rfl, rfl, h1, t1⟩ := trodAll_cons t0
  obtain ⟨rfl, rfl, rfl⟩ := trodAll_nil t1
  obtain rfl : args = #[v0, v1] := by cases args; simp_all
  obtain ⟨rfl, rfl⟩ := trodVars_none hV
  have hfn : Rows.vaultSequenceSpec.fn H ([d0, d1] ++ []) = { results := [.lit (.bool true)], args := [d0, d1] } := rfl
  have hpost : ∀ W', Below W.heap.size W W' → Rows.vaultSequenceSpec.post enc Tryd.prog Tryd.f8 false true false false W #[v0, v1] (.bool true) W' := fun W' hb => law_post (t := 4) rfl rfl Tryd.underlying4 (fun t ht => by rw [Tryd.params8] at ht; exact law_read t ht) hfn hW' hb
  clear hA0 hval0 hA hW' hfn
  obtain WW := widths_of hL
  obtain ⟨A0, l0, c0, rfl, hc0, hx0, r0⟩ := open_leases (hval 0 28 v0 rfl rfl) h0
  obtain ⟨a1, rfl, hd1, hp1, w1⟩ := open_int Tryd.underlying3 (hval 1 3 v1 rfl rfl) h1
  obtain ⟨lo1, hi1⟩ := bounds_i64 w1
  refine (VaultSequence_walk l0 a1 A0 c0 W (by unfold maxLen at hx0; omega) WW r0).mono fun e W' ⟨he, hb⟩ => ?_
  subst he
  exact ⟨_, rfl, hpost W' hb⟩

theorem row : Rows.VaultSequenceSaid :=
  OpenClaim.holds_of_wide 8 Tryd.f8 rfl rfl rfl rfl rfl rfl rfl ⟨rfl, rfl, rfl, rfl, rfl⟩ rfl rfl rfl rfl rfl (by kernel_rfl) Tryd.func8 (by kernel_rfl)
    (of_decide_eq_true (by kernel_rfl)) (by unfold Func.isWrapper; rw [if_neg (by decide +kernel)]; exact ⟨rfl, rfl⟩)
    (fun os started H enc _ => lifted os started H enc)
theorem proved : Rows.VaultSequenceCardSaid :=
  Claim7.holds_tied_plain_at .later [] [.data] true (true, "118869ce1e8037fc0444ba4ca30f3cc6993daa77b216df2aa7c44cd87d5d016b") true
    row (fun _ h => by cases h) (by kernel_rfl) (fun _ h => by cases h) vaultSequence_row_tie rfl ⟨rfl, rfl⟩ (by kernel_rfl) rfl
    (fun f fn hf hfn => by
      obtain rfl : f = 8 := Option.some.inj ((show Tryd.prog.funcNamed "chargepark/chargeparklaw19.VaultSequence" = some 8 by kernel_rfl).symm.trans hf) |>.symm
      obtain rfl : fn = Tryd.f8 := (Option.some.inj (Tryd.func8.symm.trans hfn)).symm
      exact ⟨by kernel_rfl, fun j t ht => by
        rw [Tryd.params8] at ht
        exact law_plain t (Array.mem_toList_iff.2 (Array.mem_of_getElem? ht))⟩)
    (by kernel_rfl)
#print axioms proved
end Go.Proofs.YtcnhmgcingmphaaDoor.VaultSequence
