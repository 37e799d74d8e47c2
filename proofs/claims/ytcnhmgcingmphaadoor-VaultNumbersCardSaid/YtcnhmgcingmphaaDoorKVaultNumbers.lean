/- If leases are stored one after the other, beginning with an empty vault, and the power goes at any memory of each one, the number of the next lease is always greater than those of all leases that were stored completely: the law VaultNumbers returns true at every input. No condition but what the card ties. -/
import Derived.Test.YtcnhmgcingmphaaDoorCards
import Derived.Test.YtcnhmgcingmphaaDoorTie
import Derived.Test.YtcnhmgcingmphaaDoorKVr
import Derived.Test.YtcnhmgcingmphaaDoorKOP
import Derived.Test.YtcnhmgcingmphaaDoorKVo
set_option linter.unusedVariables false
set_option linter.unusedSimpArgs false
namespace Go.Proofs.YtcnhmgcingmphaaDoor.VaultNumbers
open Go.ChangeShapes Go.WideShapes Go.ChangeAt Go.RowKit

theorem law_read (t : TypeId) (ht : t ∈ (#[28, 37] : Array TypeId).toList) : Tryd.prog.readableRec t = true ∧ t < Tryd.prog.types.size := by
  simp at ht
  rcases ht with rfl | rfl <;> exact ⟨by kernel_rfl, of_decide_eq_true (by kernel_rfl)⟩
theorem law_plain (t : TypeId) (ht : t ∈ (#[28, 37] : Array TypeId).toList) : Tryd.prog.wantsStandIn t = false := by
  simp at ht
  rcases ht with rfl | rfl <;> kernel_rfl

set_option maxRecDepth 100000 in
theorem lifted (os : Os) (started : os.Started) (H : Type) (enc : TypeId × Value → H) :
    ReturnsInHanded {} Tryd.checked os 4 .any (fun w args => (Rows.vaultNumbersSpec.pre enc Tryd.prog Tryd.f4 [] false w args ∧ laidMetH Tryd.prog [("chargepark/vault.widths", Rows.laid_chargepark_vault_widths)] w) ∧ sizedMet enc Tryd.prog Tryd.f4 (OpenSpec.ofChange Rows.vaultNumbersSpec) false w args) (Rows.vaultNumbersSpec.post enc Tryd.prog Tryd.f4 false true false false) := by
  refine returnsInHanded_of_change_and (C := Tryd.checked) (X := fun w _ => laidMetH Tryd.prog [("chargepark/vault.widths", Rows.laid_chargepark_vault_widths)] w) (fun _ _ _ hh h => h.of_heap hh) lawOwn started (by kernel_rfl) Tryd.func4
    (ChangeSpec.witness_shaped (enc := enc) (C := Tryd.checked) (os := os) (X := fun w _ => laidMetH Tryd.prog [("chargepark/vault.widths", Rows.laid_chargepark_vault_widths)] w) false (World.doorLaid Tryd.prog 14 os) #[.slice none 0 0, .slice none 0 0] 8 rfl (World.shaped_of_RefB (by kernel_rfl) (by kernel_rfl)) (by kernel_rfl) (by kernel_rfl) (by kernel_rfl) (door_met os _)) ?_
  intro W base args ds gs before hval0 hW _ _ hL _
  have hval : ∀ (j : Nat) t v, Tryd.f4.params[j]? = some t → args[j]? = some v → Value.okWide Tryd.prog W .any base t v := hval0
  have hW' := hW
  obtain ⟨p, q, hA0, hV, rfl, hfz, hnd⟩ := hW
  have hA : DataW.TrodAll enc Tryd.prog W 0 (fun _ => true) true Tryd.f4.params.toList args.toList ds p := hA0
  rw [Tryd.params4] at hA hval
  obtain ⟨v0, vs0, d0, ds0, p0, q0, hargs, rfl, rfl, h0, t0⟩ := trodAll_cons hA
  obtain ⟨v1, vs1, d1, ds1, p1, q1, rfl, rfl, rfl, h1, t1⟩ := trodAll_cons t0
  obtain ⟨rfl, rfl, rfl⟩ := trodAll_nil t1
  obtain rfl : args = #[v0, v1] := by cases args; simp_all
  obtain ⟨rfl, rfl⟩ := trodVars_none hV
  have hfn : Rows.vaultNumbersSpec.fn H ([d0, d1] ++ []) = { results := [.lit (.bool true)], args := [d0, d1] } := rfl
  have hpost : ∀ W', Below W.heap.size W W' → Rows.vaultNumbersSpec.post enc Tryd.prog Tryd.f4 false true false false W #[v0, v1] (.bool true) W' := fun W' hb => law_post (t := 4) rfl rfl Tryd.underlying4 (fun t ht => by rw [Tryd.params4] at ht; exact law_read t ht) hfn hW' hb
  clear hA0 hval0 hA hW' hfn
  obtain WW := widths_of hL
  obtain ⟨A0, l0, c0, rfl, hc0, hx0, r0⟩ := open_leases (hval 0 28 v0 rfl rfl) h0
  obtain ⟨A1, l1, c1, rfl, hc1, hx1, r1, n1⟩ := open_halves (hval 1 37 v1 rfl rfl) h1
  refine (VaultNumbers_walk l0 l1 A0 A1 c0 c1 W (by unfold maxLen at hx0; omega) (by unfold maxLen at hx1; omega) n1 WW r0 r1).mono fun e W' ⟨he, hb⟩ => ?_
  subst he
  exact ⟨_, rfl, hpost W' hb⟩

theorem row : Rows.VaultNumbersSaid :=
  OpenClaim.holds_of_wide 4 Tryd.f4 rfl rfl rfl rfl rfl rfl rfl ⟨rfl, rfl, rfl, rfl, rfl⟩ rfl rfl rfl rfl rfl (by kernel_rfl) Tryd.func4 (by kernel_rfl)
    (of_decide_eq_true (by kernel_rfl)) (by unfold Func.isWrapper; rw [if_neg (by decide +kernel)]; exact ⟨rfl, rfl⟩)
    (fun os started H enc _ => lifted os started H enc)
theorem proved : Rows.VaultNumbersCardSaid :=
  Claim7.holds_tied_plain_at .later [] [.data] true (true, "118869ce1e8037fc0444ba4ca30f3cc6993daa77b216df2aa7c44cd87d5d016b") true
    row (fun _ h => by cases h) (by kernel_rfl) (fun _ h => by cases h) vaultNumbers_row_tie rfl ⟨rfl, rfl⟩ (by kernel_rfl) rfl
    (fun f fn hf hfn => by
      obtain rfl : f = 4 := Option.some.inj ((show Tryd.prog.funcNamed "chargepark/chargeparklaw19.VaultNumbers" = some 4 by kernel_rfl).symm.trans hf) |>.symm
      obtain rfl : fn = Tryd.f4 := (Option.some.inj (Tryd.func4.symm.trans hfn)).symm
      exact ⟨by kernel_rfl, fun j t ht => by
        rw [Tryd.params4] at ht
        exact law_plain t (Array.mem_toList_iff.2 (Array.mem_of_getElem? ht))⟩)
    (by kernel_rfl)
#print axioms proved
end Go.Proofs.YtcnhmgcingmphaaDoor.VaultNumbers
