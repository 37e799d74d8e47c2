/- Contracts of package flash and of its reference, the functions that only read: Valid, Same, SameList. -/
import Derived.Test.YtcnhmgcingmphaaDoorProg
import Derived.Test.YtcnhmgcingmphaaDoorKMem
import Derived.WalkKit
import Derived.Deep.QuietTactic
import Derived.BigQuiet
import Derived.Lib.Hide
import Derived.Outline
import Derived.StillTailTactics
import Derived.Deep.RegionHeld3
import Derived.Laws.MakeOwn
import Derived.Laws.CopyOwn
import Derived.RegionTactic
import Derived.BigRegion
import Derived.OwnWalk
set_option linter.unusedVariables false
namespace Go.Proofs.YtcnhmgcingmphaaDoor
open Go.RowKit

/-- is a memory of n bytes with sectors of s bytes valid? -/
def validB (s : Int) (n : Nat) : Bool := decide (1 ≤ s) && decide (s ≤ 512) && decide (s ≤ n) && decide (n ≤ 4096) && decide ((n : Int) % s = 0)

theorem Valid_any (s : Int) (A : Option Addr) (n c : Nat) (w : World) :
    Calls Tryd.prog 61 #[.agg #[.int .i64 s, .slice A n c]] w fun e w' => e = .returned (.bool (validB s n)) ∧ Below w.heap.size w w' := by
  have hb : ∀ o, Below w.heap.size w (w.alloc o) := fun o => (Below.refl _ _).alloc (Nat.le_refl _) _
  have HB := Lib.hid hb
  clear hb
  by_cases h1 : 1 ≤ s
  · by_cases h2 : s ≤ 512
    · by_cases h3 : s ≤ (n : Int)
      · by_cases h4 : (n : Int) ≤ 4096
        · have h4' : n ≤ 4096 := by omega
          by_cases h5 : (n : Int) % s = 0
          · have h5' : ((n : Int) % s == 0) = true := by simp [h5]
            have hv : validB s n = true := by simp [validB]; omega
            rw [hv]; clear hv
            go_enter Tryd.func61, Tryd.ntmps61
            go_wp2
            go_ret
            exact ⟨rfl, HB.out _⟩
          · have h5' : ((n : Int) % s == 0) = false := by simp [h5]
            have hv : validB s n = false := by simp [validB]; omega
            rw [hv]; clear hv
            go_enter Tryd.func61, Tryd.ntmps61
            go_wp2
            go_ret
            exact ⟨rfl, HB.out _⟩
        · have h4' : ¬ n ≤ 4096 := by omega
          have hv : validB s n = false := by simp [validB]; omega
          rw [hv]; clear hv
          go_enter Tryd.func61, Tryd.ntmps61
          go_wp2
          go_ret
          exact ⟨rfl, HB.out _⟩
      · have hv : validB s n = false := by simp [validB]; omega
        rw [hv]; clear hv
        go_enter Tryd.func61, Tryd.ntmps61
        go_wp2
        go_ret
        exact ⟨rfl, HB.out _⟩
    · have hv : validB s n = false := by simp [validB]; omega
      rw [hv]; clear hv
      go_enter Tryd.func61, Tryd.ntmps61
      go_wp2
      go_ret
      exact ⟨rfl, HB.out _⟩
  · have hv : validB s n = false := by simp [validB]; omega
    rw [hv]; clear hv
    go_enter Tryd.func61, Tryd.ntmps61
    go_wp2
    go_ret
    exact ⟨rfl, HB.out _⟩

def eqM (a b : Mem) : Bool := decide (a = b)
def eqMs (a b : List Mem) : Bool := decide (a = b)
theorem ret_bool {a b : Bool} (h : a = b) : Ending.returned (.bool a) = .returned (.bool b) := by rw [h]
theorem getElem_byte_ne {a b : UInt8} (h : a ≠ b) : ((a.toNat : Int) != (b.toNat : Int)) = true := by
  simp only [bne_iff_ne, ne_eq, Int.natCast_inj]
  exact fun e => h (UInt8.toNat_inj.1 e)
theorem getElem_byte_eq {a b : UInt8} (h : a = b) : ((a.toNat : Int) != (b.toNat : Int)) = false := by subst h; simp

end Go.Proofs.YtcnhmgcingmphaaDoor

/- Contracts of flash.duplicate, flash.New and of the reference's New and With: the functions that make a memory. -/
set_option maxRecDepth 100000
set_option linter.unusedVariables false
namespace Go.Proofs.YtcnhmgcingmphaaDoor
open Go.RowKit

theorem info_u8 : (Tryd.prog.info? 5).map (fun i => (i.zero, i.size, i.bytes)) = some (some (.int .u8 0), 1, 1) := by kernel_rfl
/-- a new array of bytes, all 0 -/
def zeros (n : Nat) : Array Value := (List.replicate n (Value.int .u8 0)).toArray

theorem run_make_u8 (n : Nat) (hn : n ≤ 1000000000) (w : World) :
    (Instr.makeSlice 22 (.int .i64 (n : Int)) (.int .i64 (n : Int))).run Tryd.prog w = .ok (.slice (some ⟨w.heap.size, 0, none⟩) n n) (w.alloc (.cells (zeros n) 5)) := by
  obtain ⟨i0, hi, hz0, hz1, hz2⟩ := info_parts info_u8
  have hr := run_make (P := Tryd.prog) w 22 5 i0 _ Tryd.underlying22 hi hz0 .i64 .i64 n n (by omega) (by omega) (by rw [hz2]; omega) (by omega)
  rw [hr, hz1]
  simp only [Int.toNat_natCast, Nat.mul_one]
  have e : madeCells (Value.int .u8 0).cells n = zeros n := by
    apply Array.ext'
    rw [show (Value.int .u8 0).cells = #[.int .u8 0] from rfl, toList_madeCells_one]
    simp [zeros]
  rw [e]

theorem u8s_one (bs : List UInt8) : ∀ v ∈ u8s bs, v.oneCell' = true := by
  intro v hv
  simp only [u8s, List.mem_map] at hv
  obtain ⟨b, _, rfl⟩ := hv
  rfl

/-- copy into an array of just as many bytes that the call itself made -/
theorem copy_u8 (W : World) (g : Nat) (bs : List UInt8) (cur : Array Value) (A : Option Addr) (c B : Nat) (ty : TypeId) (hg : Bk W g 5 cur) (hc : cur.size = bs.length) (hA : RdB W B A bs) :
    ∃ W', (Builtin.copy_ #[22, 22] ty #[.slice (some ⟨g, 0, none⟩) bs.length bs.length, .slice A bs.length c]).run Tryd.prog W = .ok (.int .i64 (bs.length : Int)) W' ∧
      Bk W' g 5 (u8s bs).toArray ∧ W.grownBy W' (some g) ∧ W'.heap.size = W.heap.size := by
  have hs : (Tryd.prog.info? 5).map (·.size) = some 1 := by kernel_rfl
  by_cases h0 : 0 < bs.length
  · obtain ⟨b, o, rfl, hb, hcell⟩ := hA.2 h0
    have hr := run_copy_row (P := Tryd.prog) W 22 22 ty 5 g 0 bs.length bs.length ⟨b, o, none⟩ bs.length c cur 5 (u8s bs) Tryd.underlying22 hs hg (by simp)
      (fun j v hj => by rw [add_mk]; exact hcell j v hj) (by simp [hc]) (u8s_one bs)
    have e : (cur.toList.take 0 ++ u8s bs ++ cur.toList.drop (0 + (u8s bs).length)).toArray = (u8s bs).toArray := by
      rw [List.drop_of_length_le (by simp [hc])]; simp
    rw [e] at hr
    refine ⟨_, hr.trans (by simp [goInt]), setRow_heap W g cur _ _ _ hg, ⟨rfl, rfl, rfl, by simp, fun k _ hk => setRow_other W g k _ (fun e => hk (by rw [e]))⟩, by simp⟩
  · have hz : bs = [] := by cases bs with | nil => rfl | cons x l => simp at h0
    subst hz
    refine ⟨W, ?_, ?_, World.grownBy.refl _ _, rfl⟩
    · cases hq : Tryd.prog.info? 5 with
      | none => simp [hq] at hs
      | some i =>
        have hi : i.size = 1 := by simpa [hq] using hs
        rcases A with _ | ad <;> simp [Builtin.copy_, run_underlying Tryd.underlying22, Builtin.lenOf, Builtin.firstCells, sizeOf, typeInfo, hq, loadCells, loadCellsFrom, storeCells, goInt]
    · have : cur = #[] := Array.eq_empty_of_size_eq_zero (by simpa using hc)
      subst this
      exact hg

theorem upon_copy_u8 {o : Oper} {a : Act} {K : Act → World → Prop} {Q : Exit → Act → World → Prop} {f : Value → World → Result Next} (W : World) (g : Nat) (bs : List UInt8) (cur : Array Value) (A : Option Addr) (c B : Nat) (ty : TypeId) (hg : Bk W g 5 cur) (hc : cur.size = bs.length) (hA : RdB W B A bs)
    (h : ∀ W', Bk W' g 5 (u8s bs).toArray → W.grownBy W' (some g) → W'.heap.size = W.heap.size → Oper.upon Tryd.prog o a K Q (f (.int .i64 (bs.length : Int)) W')) :
    Oper.upon Tryd.prog o a K Q (((Builtin.copy_ #[22, 22] ty #[.slice (some ⟨g, 0, none⟩) bs.length bs.length, .slice A bs.length c]).run Tryd.prog W).andThen f) := by
  obtain ⟨W', hrun, hk, hgr, hsz⟩ := copy_u8 W g bs cur A c B ty hg hc hA
  rw [hrun]
  exact h W' hk hgr hsz

theorem zeros_size (n : Nat) : (zeros n).size = n := by simp [zeros]

set_option maxHeartbeats 1600000 in
theorem duplicate_any (s : Int) (bs : List UInt8) (A : Option Addr) (c : Nat) (w : World) (h1 : RdB w w.heap.size A bs) (n1 : bs.length ≤ 1000000000) :
    Calls Tryd.prog 75 #[.agg #[.int .i64 s, .slice A bs.length c]] w fun e w' => ∃ g, e = .returned (.agg #[.int .i64 s, .slice (some ⟨g, 0, none⟩) bs.length bs.length]) ∧ w.heap.size ≤ g ∧ Bk w' g 5 (u8s bs).toArray ∧ Below w.heap.size w w' := by
  have H1 := Lib.hid h1
  clear h1
  have hmk := run_make_u8 bs.length n1
  go_enter Tryd.func75, Tryd.ntmps75
  go_wp2
  go_region
  · go_wp2_with fail
    have hB : ∀ o1 o2 o3 o4, Below w.heap.size w ((((w.alloc o1).alloc o2).alloc o3).alloc o4).drew := fun o1 o2 o3 o4 => ((((Below.refl _ w).alloc (Nat.le_refl _) _).alloc (by simp) _).alloc (by simp; omega) _ |>.alloc (by simp; omega) _).drew
    refine upon_copy_u8 _ (w.heap.size + 1 + 1) bs (zeros bs.length) A c w.heap.size 3 ?_ (zeros_size _) (H1.out.below (hB _ _ _ _)) ?_
    · exact bkOf (by simp [at?_alloc, at?_drew])
    · intro W2 hk hgr hsz
      have q1 : Bk W2 (w.heap.size + 1 + 1 + 1) 24 #[.int .i64 s, .slice (some ⟨w.heap.size + 1 + 1, 0, none⟩) bs.length bs.length] := Bk.grown (bkOf (by simp [at?_alloc, at?_drew])) hgr (by simp)
      have q2 : Bk W2 (w.heap.size + 1) 24 #[.int .i64 0, .slice none 0 0] := Bk.grown (bkOf (by simp [at?_alloc, at?_drew])) hgr (by simp)
      have r0 := q1.cell 0
      have r1 := q1.cell 1
      have t0 := q2.cell 0
      have t1 := q2.cell 1
      have f0 := q2.frozen 0
      have f1 := q2.frozen 1
      simp only [List.getElem?_toArray, List.getElem?_cons_zero, List.getElem?_cons_succ] at r0 r1 t0 t1
      go_wp2
      refine bodyPost_ret (v := .agg #[.int .i64 s, .slice (some ⟨w.heap.size + 1 + 1, 0, none⟩) bs.length bs.length]) (by simp [results, Tryd.results75, go_sem, t0, t1]) rfl ⟨w.heap.size + 1 + 1, rfl, by omega, ?_, ?_⟩
      · exact (hk.far (p := ⟨w.heap.size + 1, 0, none⟩) (by show (_ : Nat) ≠ w.heap.size + 1; omega) _).far (p := ⟨w.heap.size + 1, 1, none⟩) (by show (_ : Nat) ≠ w.heap.size + 1; omega) _
      · exact (((hB _ _ _ _).grown hgr (by simp; omega) (by simp; omega)).setCell (p := ⟨w.heap.size + 1, 0, none⟩) (by simp) _).setCell (p := ⟨w.heap.size + 1, 1, none⟩) (by simp) _
  · go_wp2_with fail
    have hB : ∀ o1 o2 o3 o4, Below w.heap.size w ((((w.alloc o1).alloc o2).alloc o3).alloc o4).drew := fun o1 o2 o3 o4 => ((((Below.refl _ w).alloc (Nat.le_refl _) _).alloc (by simp) _).alloc (by simp; omega) _ |>.alloc (by simp; omega) _).drew
    refine upon_copy_u8 _ (w.heap.size + 1 + 1 + 1) bs (zeros bs.length) A c w.heap.size 3 ?_ (zeros_size _) (H1.out.below (hB _ _ _ _)) ?_
    · exact bkOf (by simp [at?_alloc, at?_drew])
    · intro W2 hk hgr hsz
      have q1 : Bk W2 (w.heap.size + 1 + 1) 24 #[.int .i64 s, .slice (some ⟨w.heap.size + 1 + 1 + 1, 0, none⟩) bs.length bs.length] := Bk.grown (bkOf (by simp [at?_alloc, at?_drew])) hgr (by simp)
      have q2 : Bk W2 (w.heap.size + 1) 24 #[.int .i64 0, .slice none 0 0] := Bk.grown (bkOf (by simp [at?_alloc, at?_drew])) hgr (by simp)
      have r0 := q1.cell 0
      have r1 := q1.cell 1
      have t0 := q2.cell 0
      have t1 := q2.cell 1
      have f0 := q2.frozen 0
      have f1 := q2.frozen 1
      simp only [List.getElem?_toArray, List.getElem?_cons_zero, List.getElem?_cons_succ] at r0 r1 t0 t1
      go_wp2
      refine bodyPost_ret (v := .agg #[.int .i64 s, .slice (some ⟨w.heap.size + 1 + 1 + 1, 0, none⟩) bs.length bs.length]) (by simp [results, Tryd.results75, go_sem, t0, t1]) rfl ⟨w.heap.size + 1 + 1 + 1, rfl, by omega, ?_, ?_⟩
      · exact (hk.far (p := ⟨w.heap.size + 1, 0, none⟩) (by show (_ : Nat) ≠ w.heap.size + 1; omega) _).far (p := ⟨w.heap.size + 1, 1, none⟩) (by show (_ : Nat) ≠ w.heap.size + 1; omega) _
      · exact (((hB _ _ _ _).grown hgr (by simp; omega) (by simp; omega)).setCell (p := ⟨w.heap.size + 1, 0, none⟩) (by simp) _).setCell (p := ⟨w.heap.size + 1, 1, none⟩) (by simp) _
end Go.Proofs.YtcnhmgcingmphaaDoor

/- What programming and erasing do to the bytes of a memory, as plain lists. No program. -/
set_option linter.unusedVariables false
namespace Go.Proofs.YtcnhmgcingmphaaDoor

/-- the bytes after i changes from place p on: change j makes f j (old byte) of a byte -/
def memo (f : Nat → UInt8 → UInt8) (bs : List UInt8) (p : Nat) : Nat → List UInt8
  | 0 => bs
  | i + 1 => (memo f bs p i).set (p + i) (f i ((memo f bs p i).getD (p + i) 0))
/-- all memories of n changes -/
def memos (f : Nat → UInt8 → UInt8) (bs : List UInt8) (p n : Nat) : List (List UInt8) := (List.range (n + 1)).map (memo f bs p)
/-- programming -/
def andF (ds : List UInt8) : Nat → UInt8 → UInt8 := fun i old => old &&& ds.getD i 0
/-- erasing -/
def eraF : Nat → UInt8 → UInt8 := fun _ _ => 255

theorem memo_length (f : Nat → UInt8 → UInt8) (bs : List UInt8) (p i : Nat) : (memo f bs p i).length = bs.length := by
  induction i with
  | zero => rfl
  | succ i ih => simp [memo, ih]
theorem memos_length (f : Nat → UInt8 → UInt8) (bs : List UInt8) (p n : Nat) : (memos f bs p n).length = n + 1 := by simp [memos]
theorem memos_succ (f : Nat → UInt8 → UInt8) (bs : List UInt8) (p n : Nat) : memos f bs p (n + 1) = memos f bs p n ++ [memo f bs p (n + 1)] := by
  simp [memos, List.range_succ]
theorem memos_get (f : Nat → UInt8 → UInt8) (bs : List UInt8) (p n i : Nat) (h : i < n + 1) : (memos f bs p n)[i]? = some (memo f bs p i) := by
  simp [memos, h]
/-- each byte by itself -/
theorem memo_get (f : Nat → UInt8 → UInt8) (bs : List UInt8) (p i j : Nat) (hj : j < bs.length) :
    (memo f bs p i).getD j 0 = if p ≤ j ∧ j < p + i then f (j - p) (bs.getD j 0) else bs.getD j 0 := by
  induction i with
  | zero => rw [if_neg (by omega)]; rfl
  | succ i ih =>
    simp only [memo]
    by_cases e : j = p + i
    · subst e
      rw [if_pos (by omega)]
      rw [List.getD_eq_getElem?_getD, List.getElem?_set_self (by rw [memo_length]; exact hj)]
      simp only [Option.getD_some]
      rw [ih, if_neg (by omega), Nat.add_sub_cancel_left]
    · rw [List.getD_eq_getElem?_getD, List.getElem?_set_ne (by omega), ← List.getD_eq_getElem?_getD, ih]
      by_cases h : p ≤ j ∧ j < p + i
      · rw [if_pos h, if_pos (by omega)]
      · rw [if_neg h, if_neg (by omega)]
end Go.Proofs.YtcnhmgcingmphaaDoor
