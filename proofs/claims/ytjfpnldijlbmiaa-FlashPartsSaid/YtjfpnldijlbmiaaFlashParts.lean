/- Programming data in two parts, one after the other, leads through the same memories: the law FlashParts returns true at every input. No condition. -/
import Derived.Test.YtjfpnldijlbmiaaLaw
import Derived.Test.YtjfpnldijlbmiaaOpen
import Derived.Test.YtjfpnldijlbmiaaFwg
import Derived.OpenShut
set_option linter.unusedVariables false
set_option linter.unusedSimpArgs false
namespace Go.Proofs.Ytjfpnldijlbmiaa.FlashParts
open Go.ChangeShapes Go.WideShapes Go.ChangeAt Go.RowKit

theorem law_read (t : TypeId) (ht : t ∈ (#[24, 3, 22, 40] : Array TypeId).toList) : Try.prog.readableRec t = true ∧ t < Try.prog.types.size := by
  simp at ht
  rcases ht with rfl | rfl | rfl | rfl <;> exact ⟨by kernel_rfl, of_decide_eq_true (by kernel_rfl)⟩

set_option maxRecDepth 100000 in
theorem lifted (os : Os) (started : os.Started) (H : Type) (enc : TypeId × Value → H) :
    ReturnsInHanded {} Try.checked os 9 .any (Rows.flashPartsSpec.pre6 enc Try.prog Try.f9 Rows.flashPartsRow.domain false) (Rows.flashPartsSpec.post enc Try.prog Try.f9 false true false false) := by
  refine returnsInHanded_of_change (C := Try.checked) lawOwn started (by kernel_rfl) Try.func9
    (ChangeSpec.witness6 (enc := enc) (C := Try.checked) false ⟨#[], #[.agg #[.int .i64 0, .slice none 0 0], .int .i64 0, .slice none 0 0, .int .u16 0], []⟩ 8 (by kernel_rfl) (by kernel_rfl) (by kernel_rfl) (by kernel_rfl)) ?_
  intro W base args ds gs before hval0 hW hcnd _
  have hval : ∀ (j : Nat) t v, Try.f9.params[j]? = some t → args[j]? = some v → Value.okWide Try.prog W .any base t v := hval0
  have hW' := hW
  obtain ⟨p, q, hA0, hV, rfl, hfz, hnd⟩ := hW
  have hA : DataW.TrodAll enc Try.prog W 0 (fun _ => true) true Try.f9.params.toList args.toList ds p := hA0
  rw [Try.params9] at hA hval
  obtain ⟨v0, vs0, d0, ds0, p0, q0, hargs, rfl, rfl, h0, t0⟩ := trodAll_cons hA
  obtain ⟨v1, vs1, d1, ds1, p1, q1, rfl, rfl, rfl, h1, t1⟩ := trodAll_cons t0
  obtain ⟨v2, vs2, d2, ds2, p2, q2, rfl, rfl, rfl, h2, t2⟩ := trodAll_cons t1
  obtain ⟨v3, vs3, d3, ds3, p3, q3, rfl, rfl, rfl, h3, t3⟩ := trodAll_cons t2
  obtain ⟨rfl, rfl, rfl⟩ := trodAll_nil t3
  obtain rfl : args = #[v0, v1, v2, v3] := by cases args; simp_all
  obtain ⟨rfl, rfl⟩ := trodVars_none hV
  have hfn : Rows.flashPartsSpec.fn H ([d0, d1, d2, d3] ++ []) = { results := [.lit (.bool true)], args := [d0, d1, d2, d3] } := rfl
  have hpost : ∀ W', Below W.heap.size W W' → Rows.flashPartsSpec.post enc Try.prog Try.f9 false true false false W #[v0, v1, v2, v3] (.bool true) W' := fun W' hb => law_post (t := 4) rfl rfl Try.underlying4 (fun t ht => by rw [Try.params9] at ht; exact law_read t ht) hfn hW' hb
  clear hA0 hval0 hA hW' hfn
  obtain ⟨m0, A0, c0, rfl, hc0, hx0, r0, lo0, hi0⟩ := open_flash (hval 0 24 v0 rfl rfl) h0
  obtain ⟨a1, rfl, hd1, hp1, w1⟩ := open_int Try.underlying3 (hval 1 3 v1 rfl rfl) h1
  obtain ⟨lo1, hi1⟩ := bounds_i64 w1
  obtain ⟨A2, b2, c2, rfl, hc2, hx2, r2⟩ := open_slice_bytes (hval 2 22 v2 rfl rfl) h2
  obtain ⟨a3, rfl, hd3, hp3, w3⟩ := open_int Try.underlying40 (hval 3 40 v3 rfl rfl) h3
  obtain ⟨lo3, hi3⟩ := bounds_u16 w3
  refine (FlashParts_walk m0 A0 A2 c0 c2 a1 a3 b2 W r0 r2 lo1 hi1 lo3 hi3 (Nat.le_trans hc0 hx0) hc2 hx2).mono fun e W' ⟨he, hb⟩ => ?_
  subst he
  exact ⟨_, rfl, hpost W' hb⟩

theorem proved : Rows.FlashPartsSaid :=
  OpenClaim.holds_of_wide 9 Try.f9 rfl rfl rfl rfl rfl rfl rfl ⟨rfl, rfl, rfl, rfl, rfl⟩ rfl rfl rfl rfl rfl (by kernel_rfl) Try.func9 (by kernel_rfl)
    (of_decide_eq_true (by kernel_rfl)) (by unfold Func.isWrapper; rw [if_neg (by decide +kernel)]; exact ⟨rfl, rfl⟩)
    (fun os started H enc _ => lifted os started H enc)
#print axioms proved
end Go.Proofs.Ytjfpnldijlbmiaa.FlashParts
