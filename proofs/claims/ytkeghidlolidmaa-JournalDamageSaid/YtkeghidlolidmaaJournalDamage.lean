/- If one byte of the data or of the checksum of a record of the journal's area is changed, reading it returns ErrSum: the law JournalDamage returns true at every input. No condition. -/
import Derived.Test.YtkeghidlolidmaaLaw
import Derived.Test.YtkeghidlolidmaaOpen
import Derived.Test.YtkeghidlolidmaaJwd
import Derived.OpenShut
set_option linter.unusedVariables false
set_option linter.unusedSimpArgs false
namespace Go.Proofs.Ytkeghidlolidmaa.JournalDamage
open Go.ChangeShapes Go.WideShapes Go.ChangeAt Go.RowKit

theorem law_read (t : TypeId) (ht : t ∈ (#[24, 3, 3, 5] : Array TypeId).toList) : Try.prog.readableRec t = true ∧ t < Try.prog.types.size := by
  simp at ht
  rcases ht with rfl | rfl | rfl | rfl <;> exact ⟨by kernel_rfl, of_decide_eq_true (by kernel_rfl)⟩

set_option maxRecDepth 100000 in
theorem lifted (os : Os) (started : os.Started) (H : Type) (enc : TypeId × Value → H) :
    ReturnsInHanded {} Try.checked os 8 .any (Rows.journalDamageSpec.pre6 enc Try.prog Try.f8 Rows.journalDamageRow.domain false) (Rows.journalDamageSpec.post enc Try.prog Try.f8 false true false false) := by
  refine returnsInHanded_of_change (C := Try.checked) lawOwn started (by kernel_rfl) Try.func8
    (ChangeSpec.witness6 (enc := enc) (C := Try.checked) false ⟨#[], #[.agg #[.int .i64 0, .slice none 0 0], .int .i64 0, .int .i64 0, .int .u8 0], []⟩ 8 (by kernel_rfl) (by kernel_rfl) (by kernel_rfl) (by kernel_rfl)) ?_
  intro W base args ds gs before hval0 hW hcnd _
  have hval : ∀ (j : Nat) t v, Try.f8.params[j]? = some t → args[j]? = some v → Value.okWide Try.prog W .any base t v := hval0
  have hW' := hW
  obtain ⟨p, q, hA0, hV, rfl, hfz, hnd⟩ := hW
  have hA : DataW.TrodAll enc Try.prog W 0 (fun _ => true) true Try.f8.params.toList args.toList ds p := hA0
  rw [Try.params8] at hA hval
  obtain ⟨v0, vs0, d0, ds0, p0, q0, hargs, rfl, rfl, h0, t0⟩ := trodAll_cons hA
  obtain ⟨v1, vs1, d1, ds1, p1, q1, rfl, rfl, rfl, h1, t1⟩ := trodAll_cons t0
  obtain ⟨v2, vs2, d2, ds2, p2, q2, rfl, rfl, rfl, h2, t2⟩ := trodAll_cons t1
  obtain ⟨v3, vs3, d3, ds3, p3, q3, rfl, rfl, rfl, h3, t3⟩ := trodAll_cons t2
  obtain ⟨rfl, rfl, rfl⟩ := trodAll_nil t3
  obtain rfl : args = #[v0, v1, v2, v3] := by cases args; simp_all
  obtain ⟨rfl, rfl⟩ := trodVars_none hV
  have hfn : Rows.journalDamageSpec.fn H ([d0, d1, d2, d3] ++ []) = { results := [.lit (.bool true)], args := [d0, d1, d2, d3] } := rfl
  have hpost : ∀ W', Below W.heap.size W W' → Rows.journalDamageSpec.post enc Try.prog Try.f8 false true false false W #[v0, v1, v2, v3] (.bool true) W' := fun W' hb => law_post (t := 4) rfl rfl Try.underlying4 (fun t ht => by rw [Try.params8] at ht; exact law_read t ht) hfn hW' hb
  clear hA0 hval0 hA hW' hfn
  obtain ⟨m0, A0, c0, rfl, hc0, hx0, r0, lo0, hi0⟩ := open_flash (hval 0 24 v0 rfl rfl) h0
  obtain ⟨a1, rfl, hd1, hp1, w1⟩ := open_int Try.underlying3 (hval 1 3 v1 rfl rfl) h1
  obtain ⟨lo1, hi1⟩ := bounds_i64 w1
  obtain ⟨a2, rfl, hd2, hp2, w2⟩ := open_int Try.underlying3 (hval 2 3 v2 rfl rfl) h2
  obtain ⟨lo2, hi2⟩ := bounds_i64 w2
  obtain ⟨a3, rfl, hd3, hp3, w3⟩ := open_int Try.underlying5 (hval 3 5 v3 rfl rfl) h3
  obtain ⟨lo3, hi3⟩ := bounds_u8 w3
  refine (JournalDamage_int m0 A0 c0 a1 a2 a3 lo3 hi3 W r0 hc0 hi1 hi2).mono fun e W' ⟨he, hb⟩ => ?_
  subst he
  exact ⟨_, rfl, hpost W' hb⟩

theorem proved : Rows.JournalDamageSaid :=
  OpenClaim.holds_of_wide 8 Try.f8 rfl rfl rfl rfl rfl rfl rfl ⟨rfl, rfl, rfl, rfl, rfl⟩ rfl rfl rfl rfl rfl (by kernel_rfl) Try.func8 (by kernel_rfl)
    (of_decide_eq_true (by kernel_rfl)) (by unfold Func.isWrapper; rw [if_neg (by decide +kernel)]; exact ⟨rfl, rfl⟩)
    (fun os started H enc _ => lifted os started H enc)
#print axioms proved
end Go.Proofs.Ytkeghidlolidmaa.JournalDamage
