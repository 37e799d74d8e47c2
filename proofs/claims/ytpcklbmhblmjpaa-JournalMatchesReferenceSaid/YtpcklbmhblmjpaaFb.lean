/- Contracts of flash.duplicate, flash.New and of the reference's New and With: the functions that make a memory. -/
import Derived.Test.YtpcklbmhblmjpaaFa
import Derived.Laws.MakeOwn
import Derived.Laws.CopyOwn
import Derived.RegionTactic
import Derived.BigRegion
import Derived.OwnWalk
set_option maxRecDepth 100000
set_option linter.unusedVariables false
namespace Go.Proofs.Ytpcklbmhblmjpaa
open Go.RowKit

theorem info_u8 : (Try.prog.info? 5).map (fun i => (i.zero, i.size, i.bytes)) = some (some (.int .u8 0), 1, 1) := by kernel_rfl
/-- a new array of bytes, all 0 -/
def zeros (n : Nat) : Array Value := (List.replicate n (Value.int .u8 0)).toArray

theorem run_make_u8 (n : Nat) (hn : n ≤ 1000000000) (w : World) :
    (Instr.makeSlice 22 (.int .i64 (n : Int)) (.int .i64 (n : Int))).run Try.prog w = .ok (.slice (some ⟨w.heap.size, 0, none⟩) n n) (w.alloc (.cells (zeros n) 5)) := by
  obtain ⟨i0, hi, hz0, hz1, hz2⟩ := info_parts info_u8
  have hr := run_make (P := Try.prog) w 22 5 i0 _ Try.underlying22 hi hz0 .i64 .i64 n n (by omega) (by omega) (by rw [hz2]; omega) (by omega)
  rw [hr, hz1]
  simp only [Int.toNat_natCast, Nat.mul_one]
  have e : madeCells (Value.int .u8 0).cells n = zeros n := by
    apply Array.ext'
    rw [show (Value.int .u8 0).cells = #[.int .u8 0] from rfl, toList_madeCells_one]
    simp [zeros]
  rw [e]

theorem u8s_one (bs : List UInt8) : ∀ v ∈ u8s bs, v.oneCell' = true := by
  intro v hv
  simp only [u8s, List.mem_map] at hv
  obtain ⟨b, _, rfl⟩ := hv
  rfl

/-- copy into an array of just as many bytes that the call itself made -/
theorem copy_u8 (W : World) (g : Nat) (bs : List UInt8) (cur : Array Value) (A : Option Addr) (c B : Nat) (ty : TypeId) (hg : Bk W g 5 cur) (hc : cur.size = bs.length) (hA : RdB W B A bs) :
    ∃ W', (Builtin.copy_ #[22, 22] ty #[.slice (some ⟨g, 0, none⟩) bs.length bs.length, .slice A bs.length c]).run Try.prog W = .ok (.int .i64 (bs.length : Int)) W' ∧
      Bk W' g 5 (u8s bs).toArray ∧ W.grownBy W' (some g) ∧ W'.heap.size = W.heap.size := by
  have hs : (Try.prog.info? 5).map (·.size) = some 1 := by kernel_rfl
  by_cases h0 : 0 < bs.length
  · obtain ⟨b, o, rfl, hb, hcell⟩ := hA.2 h0
    have hr := run_copy_row (P := Try.prog) W 22 22 ty 5 g 0 bs.length bs.length ⟨b, o, none⟩ bs.length c cur 5 (u8s bs) Try.underlying22 hs hg (by simp)
      (fun j v hj => by rw [add_mk]; exact hcell j v hj) (by simp [hc]) (u8s_one bs)
    have e : (cur.toList.take 0 ++ u8s bs ++ cur.toList.drop (0 + (u8s bs).length)).toArray = (u8s bs).toArray := by
      rw [List.drop_of_length_le (by simp [hc])]; simp
    rw [e] at hr
    refine ⟨_, hr.trans (by simp [goInt]), setRow_heap W g cur _ _ _ hg, ⟨rfl, rfl, rfl, by simp, fun k _ hk => setRow_other W g k _ (fun e => hk (by rw [e]))⟩, by simp⟩
  · have hz : bs = [] := by cases bs with | nil => rfl | cons x l => simp at h0
    subst hz
    refine ⟨W, ?_, ?_, World.grownBy.refl _ _, rfl⟩
    · cases hq : Try.prog.info? 5 with
      | none => simp [hq] at hs
      | some i =>
        have hi : i.size = 1 := by simpa [hq] using hs
        rcases A with _ | ad <;> simp [Builtin.copy_, run_underlying Try.underlying22, Builtin.lenOf, Builtin.firstCells, sizeOf, typeInfo, hq, loadCells, loadCellsFrom, storeCells, goInt]
    · have : cur = #[] := Array.eq_empty_of_size_eq_zero (by simpa using hc)
      subst this
      exact hg

theorem upon_copy_u8 {o : Oper} {a : Act} {K : Act → World → Prop} {Q : Exit → Act → World → Prop} {f : Value → World → Result Next} (W : World) (g : Nat) (bs : List UInt8) (cur : Array Value) (A : Option Addr) (c B : Nat) (ty : TypeId) (hg : Bk W g 5 cur) (hc : cur.size = bs.length) (hA : RdB W B A bs)
    (h : ∀ W', Bk W' g 5 (u8s bs).toArray → W.grownBy W' (some g) → W'.heap.size = W.heap.size → Oper.upon Try.prog o a K Q (f (.int .i64 (bs.length : Int)) W')) :
    Oper.upon Try.prog o a K Q (((Builtin.copy_ #[22, 22] ty #[.slice (some ⟨g, 0, none⟩) bs.length bs.length, .slice A bs.length c]).run Try.prog W).andThen f) := by
  obtain ⟨W', hrun, hk, hgr, hsz⟩ := copy_u8 W g bs cur A c B ty hg hc hA
  rw [hrun]
  exact h W' hk hgr hsz

theorem zeros_size (n : Nat) : (zeros n).size = n := by simp [zeros]

set_option maxHeartbeats 1600000 in
theorem duplicate_any (s : Int) (bs : List UInt8) (A : Option Addr) (c : Nat) (w : World) (h1 : RdB w w.heap.size A bs) (n1 : bs.length ≤ 1000000000) :
    Calls Try.prog 66 #[.agg #[.int .i64 s, .slice A bs.length c]] w fun e w' => ∃ g, e = .returned (.agg #[.int .i64 s, .slice (some ⟨g, 0, none⟩) bs.length bs.length]) ∧ w.heap.size ≤ g ∧ Bk w' g 5 (u8s bs).toArray ∧ Below w.heap.size w w' := by
  have H1 := Lib.hid h1
  clear h1
  have hmk := run_make_u8 bs.length n1
  go_enter Try.func66, Try.ntmps66
  go_wp2
  go_region
  · go_wp2_with fail
    have hB : ∀ o1 o2 o3 o4, Below w.heap.size w ((((w.alloc o1).alloc o2).alloc o3).alloc o4).drew := fun o1 o2 o3 o4 => ((((Below.refl _ w).alloc (Nat.le_refl _) _).alloc (by simp) _).alloc (by simp; omega) _ |>.alloc (by simp; omega) _).drew
    refine upon_copy_u8 _ (w.heap.size + 1 + 1) bs (zeros bs.length) A c w.heap.size 3 ?_ (zeros_size _) (H1.out.below (hB _ _ _ _)) ?_
    · exact bkOf (by simp [at?_alloc, at?_drew])
    · intro W2 hk hgr hsz
      have q1 : Bk W2 (w.heap.size + 1 + 1 + 1) 24 #[.int .i64 s, .slice (some ⟨w.heap.size + 1 + 1, 0, none⟩) bs.length bs.length] := Bk.grown (bkOf (by simp [at?_alloc, at?_drew])) hgr (by simp)
      have q2 : Bk W2 (w.heap.size + 1) 24 #[.int .i64 0, .slice none 0 0] := Bk.grown (bkOf (by simp [at?_alloc, at?_drew])) hgr (by simp)
      have r0 := q1.cell 0
      have r1 := q1.cell 1
      have t0 := q2.cell 0
      have t1 := q2.cell 1
      have f0 := q2.frozen 0
      have f1 := q2.frozen 1
      simp only [List.getElem?_toArray, List.getElem?_cons_zero, List.getElem?_cons_succ] at r0 r1 t0 t1
      go_wp2
      refine bodyPost_ret (v := .agg #[.int .i64 s, .slice (some ⟨w.heap.size + 1 + 1, 0, none⟩) bs.length bs.length]) (by simp [results, Try.results66, go_sem, t0, t1]) rfl ⟨w.heap.size + 1 + 1, rfl, by omega, ?_, ?_⟩
      · exact (hk.far (p := ⟨w.heap.size + 1, 0, none⟩) (by show (_ : Nat) ≠ w.heap.size + 1; omega) _).far (p := ⟨w.heap.size + 1, 1, none⟩) (by show (_ : Nat) ≠ w.heap.size + 1; omega) _
      · exact (((hB _ _ _ _).grown hgr (by simp; omega) (by simp; omega)).setCell (p := ⟨w.heap.size + 1, 0, none⟩) (by simp) _).setCell (p := ⟨w.heap.size + 1, 1, none⟩) (by simp) _
  · go_wp2_with fail
    have hB : ∀ o1 o2 o3 o4, Below w.heap.size w ((((w.alloc o1).alloc o2).alloc o3).alloc o4).drew := fun o1 o2 o3 o4 => ((((Below.refl _ w).alloc (Nat.le_refl _) _).alloc (by simp) _).alloc (by simp; omega) _ |>.alloc (by simp; omega) _).drew
    refine upon_copy_u8 _ (w.heap.size + 1 + 1 + 1) bs (zeros bs.length) A c w.heap.size 3 ?_ (zeros_size _) (H1.out.below (hB _ _ _ _)) ?_
    · exact bkOf (by simp [at?_alloc, at?_drew])
    · intro W2 hk hgr hsz
      have q1 : Bk W2 (w.heap.size + 1 + 1) 24 #[.int .i64 s, .slice (some ⟨w.heap.size + 1 + 1 + 1, 0, none⟩) bs.length bs.length] := Bk.grown (bkOf (by simp [at?_alloc, at?_drew])) hgr (by simp)
      have q2 : Bk W2 (w.heap.size + 1) 24 #[.int .i64 0, .slice none 0 0] := Bk.grown (bkOf (by simp [at?_alloc, at?_drew])) hgr (by simp)
      have r0 := q1.cell 0
      have r1 := q1.cell 1
      have t0 := q2.cell 0
      have t1 := q2.cell 1
      have f0 := q2.frozen 0
      have f1 := q2.frozen 1
      simp only [List.getElem?_toArray, List.getElem?_cons_zero, List.getElem?_cons_succ] at r0 r1 t0 t1
      go_wp2
      refine bodyPost_ret (v := .agg #[.int .i64 s, .slice (some ⟨w.heap.size + 1 + 1 + 1, 0, none⟩) bs.length bs.length]) (by simp [results, Try.results66, go_sem, t0, t1]) rfl ⟨w.heap.size + 1 + 1 + 1, rfl, by omega, ?_, ?_⟩
      · exact (hk.far (p := ⟨w.heap.size + 1, 0, none⟩) (by show (_ : Nat) ≠ w.heap.size + 1; omega) _).far (p := ⟨w.heap.size + 1, 1, none⟩) (by show (_ : Nat) ≠ w.heap.size + 1; omega) _
      · exact (((hB _ _ _ _).grown hgr (by simp; omega) (by simp; omega)).setCell (p := ⟨w.heap.size + 1, 0, none⟩) (by simp) _).setCell (p := ⟨w.heap.size + 1, 1, none⟩) (by simp) _
end Go.Proofs.Ytpcklbmhblmjpaa
