/- The non-vacuity check of the match laws. -/
import Derived.Test.YthmipmdpdfdlaaaDoorTi
import Derived.Test.YthmipmdpdfdlaaaDoorTv
set_option maxRecDepth 100000
set_option linter.unusedVariables false
set_option linter.unusedSimpArgs false
namespace Go.Proofs.YthmipmdpdfdlaaaDoor
open Go.RowKit

theorem Rd2.of_bk {α : Type} {f g : α → Value} {w : World} {B b : Nat} {l : List α} {t : TypeId} (h : Bk w b t (cl2 f g l).toArray) (hg : b < B) : Rd2 f g w B (some ⟨b, 0, none⟩) l := by
  refine ⟨cl2_length f g l, fun hn => ⟨b, 0, rfl, hg, fun j u hu => ?_⟩⟩
  rw [Nat.zero_add, h.cell j, ← hu]; simp
set_option maxHeartbeats 2000000 in
theorem r7Plates_any (w : World) (hC : Cf w) : Calls Tryd.prog 6 #[] w fun e w' => e = .returned (.bool true) ∧ Below w.heap.size w w' := by
  go_enter Tryd.func6, Tryd.ntmps6
  go_wp2_with fail
  obtain ⟨B, hB⟩ : ∃ B, B = w.heap.size := ⟨_, rfl⟩
  obtain ⟨U, hU⟩ : ∃ Zz, Zz = (w.alloc (.cells (cl2 paF paG esC).toArray 42)).alloc (.cells (cl2 paF paG xsC).toArray 42) := ⟨_, rfl⟩
  have hUb : Below w.heap.size w U := by rw [hU]; exact al2 _ _ _
  have k1 : Bk U B 42 (cl2 paF paG esC).toArray := by rw [hU, hB]; exact (Bk.new _ _ _).alloc _
  have k2 : Bk U (B + 1) 42 (cl2 paF paG xsC).toArray := by
    rw [hU, hB]
    have := Bk.new (w.alloc (.cells (cl2 paF paG esC).toArray 42)) 42 (cl2 paF paG xsC).toArray
    rwa [show (w.alloc (.cells (cl2 paF paG esC).toArray 42)).heap.size = w.heap.size + 1 from by simp] at this
  change Calls _ _ #[.slice (some ⟨w.heap.size, 0, none⟩) 2 2, .slice (some ⟨w.heap.size + 1, 0, none⟩) 2 2] ((w.alloc (.cells (cl2 paF paG esC).toArray 42)).alloc (.cells (cl2 paF paG xsC).toArray 42)) _
  rw [← hU, ← hB]
  refine (Match_yes esC xsC (some ⟨B, 0, none⟩) (some ⟨B + 1, 0, none⟩) 2 2 U esC_valid xsC_valid (by intro p hp; simp [esC] at hp; rcases hp with rfl | rfl <;> exact pl_sz (by decide +kernel)) (by intro p hp; simp [xsC] at hp; rcases hp with rfl | rfl <;> exact pl_sz (by decide +kernel)) (Rd2.of_bk k1 k1.lt) (Rd2.of_bk k2 k2.lt) (hC.next hUb)).mono ?_
  rintro e W1 ⟨A, c, l, n, rfl, hc, hr, hbp, hb⟩
  obtain ⟨rfl, rfl⟩ := plates_best hbp
  obtain ⟨b, o, rfl, _, c0, c1⟩ := hr.at_ (i := 0) (by decide)
  obtain ⟨b', o', hA', _, c2, c3⟩ := hr.at_ (i := 1) (by decide)
  injection hA' with hA'
  injection hA' with h1 h2 _
  subst h1 h2
  have d0 : W1.cell? ⟨b, o, none⟩ = some (.int .i64 0) := c0
  have d1 : W1.cell? ⟨b, o + 1, none⟩ = some (.int .i64 1) := c1
  have d2 : W1.cell? ⟨b, o + 2, none⟩ = some (.int .i64 1) := c2
  have d3 : W1.cell? ⟨b, o + 3, none⟩ = some (.int .i64 0) := c3
  have HB := Lib.hid (bt hb hUb)
  have q1 : ∀ W : World, (binOp .eql 39 (.agg #[.int .i64 0, .int .i64 1]) (.agg #[.int .i64 0, .int .i64 1])).run Tryd.prog W = .ok (.bool true) W := fun W => by kernel_rfl
  have q2 : ∀ W : World, (binOp .eql 39 (.agg #[.int .i64 1, .int .i64 0]) (.agg #[.int .i64 1, .int .i64 0])).run Tryd.prog W = .ok (.bool true) W := fun W => by kernel_rfl
  clear hU hB hUb k1 k2 hr hbp hb c0 c1 c2 c3 hc hC
  go_wp2
  go_ret
  exact ⟨rfl, HB.out⟩
end Go.Proofs.YthmipmdpdfdlaaaDoor
