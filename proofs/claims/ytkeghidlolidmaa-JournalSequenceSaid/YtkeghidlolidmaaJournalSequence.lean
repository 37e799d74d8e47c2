/- The records of a journal that was formatted are those that were appended and not refused, and one is refused exactly if there is no room: the law JournalSequence returns true at every input. No condition. -/
import Derived.Test.YtkeghidlolidmaaLaw
import Derived.Test.YtkeghidlolidmaaOpen
import Derived.Test.YtkeghidlolidmaaJwb
import Derived.OpenShut
import Derived.Test.YtkeghidlolidmaaJOpen
set_option linter.unusedVariables false
set_option linter.unusedSimpArgs false
namespace Go.Proofs.Ytkeghidlolidmaa.JournalSequence
open Go.ChangeShapes Go.WideShapes Go.ChangeAt Go.RowKit

theorem law_read (t : TypeId) (ht : t ∈ (#[3, 3, 25] : Array TypeId).toList) : Try.prog.readableRec t = true ∧ t < Try.prog.types.size := by
  simp at ht
  rcases ht with rfl | rfl | rfl <;> exact ⟨by kernel_rfl, of_decide_eq_true (by kernel_rfl)⟩

set_option maxRecDepth 100000 in
theorem lifted (os : Os) (started : os.Started) (H : Type) (enc : TypeId × Value → H) :
    ReturnsInHanded {} Try.checked os 5 .any (Rows.journalSequenceSpec.pre6 enc Try.prog Try.f5 Rows.journalSequenceRow.domain false) (Rows.journalSequenceSpec.post enc Try.prog Try.f5 false true false false) := by
  refine returnsInHanded_of_change (C := Try.checked) lawOwn started (by kernel_rfl) Try.func5
    (ChangeSpec.witness6 (enc := enc) (C := Try.checked) false ⟨#[], #[.int .i64 0, .int .i64 0, .slice none 0 0], []⟩ 8 (by kernel_rfl) (by kernel_rfl) (by kernel_rfl) (by kernel_rfl)) ?_
  intro W base args ds gs before hval0 hW hcnd _
  have hval : ∀ (j : Nat) t v, Try.f5.params[j]? = some t → args[j]? = some v → Value.okWide Try.prog W .any base t v := hval0
  have hW' := hW
  obtain ⟨p, q, hA0, hV, rfl, hfz, hnd⟩ := hW
  have hA : DataW.TrodAll enc Try.prog W 0 (fun _ => true) true Try.f5.params.toList args.toList ds p := hA0
  rw [Try.params5] at hA hval
  obtain ⟨v0, vs0, d0, ds0, p0, q0, hargs, rfl, rfl, h0, t0⟩ := trodAll_cons hA
  obtain ⟨v1, vs1, d1, ds1, p1, q1, rfl, rfl, rfl, h1, t1⟩ := trodAll_cons t0
  obtain ⟨v2, vs2, d2, ds2, p2, q2, rfl, rfl, rfl, h2, t2⟩ := trodAll_cons t1
  obtain ⟨rfl, rfl, rfl⟩ := trodAll_nil t2
  obtain rfl : args = #[v0, v1, v2] := by cases args; simp_all
  obtain ⟨rfl, rfl⟩ := trodVars_none hV
  have hfn : Rows.journalSequenceSpec.fn H ([d0, d1, d2] ++ []) = { results := [.lit (.bool true)], args := [d0, d1, d2] } := rfl
  have hpost : ∀ W', Below W.heap.size W W' → Rows.journalSequenceSpec.post enc Try.prog Try.f5 false true false false W #[v0, v1, v2] (.bool true) W' := fun W' hb => law_post (t := 4) rfl rfl Try.underlying4 (fun t ht => by rw [Try.params5] at ht; exact law_read t ht) hfn hW' hb
  clear hA0 hval0 hA hW' hfn
  obtain ⟨a0, rfl, hd0, hp0, w0⟩ := open_int Try.underlying3 (hval 0 3 v0 rfl rfl) h0
  obtain ⟨lo0, hi0⟩ := bounds_i64 w0
  obtain ⟨a1, rfl, hd1, hp1, w1⟩ := open_int Try.underlying3 (hval 1 3 v1 rfl rfl) h1
  obtain ⟨lo1, hi1⟩ := bounds_i64 w1
  obtain ⟨A2, l2, c2, rfl, hc2, hx2, r2, n2⟩ := open_bytess (hval 2 25 v2 rfl rfl) h2
  refine (JournalSequence_walk a0 a1 l2 A2 c2 lo0 hi0 lo1 hi1 W r2 (fun d hd => by have := n2 d hd; unfold maxLen at this; omega) (by unfold maxLen at hx2; omega)).mono fun e W' ⟨he, hb⟩ => ?_
  subst he
  exact ⟨_, rfl, hpost W' hb⟩

theorem proved : Rows.JournalSequenceSaid :=
  OpenClaim.holds_of_wide 5 Try.f5 rfl rfl rfl rfl rfl rfl rfl ⟨rfl, rfl, rfl, rfl, rfl⟩ rfl rfl rfl rfl rfl (by kernel_rfl) Try.func5 (by kernel_rfl)
    (of_decide_eq_true (by kernel_rfl)) (by unfold Func.isWrapper; rw [if_neg (by decide +kernel)]; exact ⟨rfl, rfl⟩)
    (fun os started H enc _ => lifted os started H enc)
#print axioms proved
end Go.Proofs.Ytkeghidlolidmaa.JournalSequence
