/- The closure that keeps the greatest amperes, and the reference's Alive. -/
import Derived.Test.YtlfogcidklpeiaaDoorLd
import Derived.StillTailTactics
import Derived.Test.YtlfogcidklpeiaaDoorReg
import Derived.WalkLawsBesides
set_option maxRecDepth 100000
set_option linter.unusedVariables false
set_option linter.unusedSimpArgs false
namespace Go.Proofs.YtlfogcidklpeiaaDoor
open Go.RowKit Go.Sort

def IPost (w : World) (zs : List Int) (er : Int) (e : Ending) (w' : World) : Prop :=
  ∃ A c, e = .returned (.tuple #[.slice A zs.length c, .int .i64 er]) ∧ zs.length ≤ c ∧ (RdI w' w'.heap.size A zs ∧ ∀ b o, A = some ⟨b, o, none⟩ → w.heap.size ≤ b) ∧ Below w.heap.size w w'
theorem info_int : (Tryd.prog.info? 3).map (fun i => (i.zero, i.size, i.bytes)) = some (some (.int .i64 0), 1, 8) := by kernel_rfl
def zerosI (n : Nat) : List Int := List.replicate n 0
@[simp] theorem zerosI_length (n : Nat) : (zerosI n).length = n := by simp [zerosI]
theorem run_make_int (n : Nat) (hn : n ≤ 1000000000) (w : World) :
    (Instr.makeSlice 32 (.int .i64 (n : Int)) (.int .i64 (n : Int))).run Tryd.prog w = .ok (.slice (some ⟨w.heap.size, 0, none⟩) n n) (w.alloc (.cells (i64s (zerosI n)).toArray 3)) := by
  obtain ⟨i0, hi, hz0, hz1, hz2⟩ := info_parts info_int
  have hr := run_make (P := Tryd.prog) w 32 3 i0 _ Tryd.underlying32 hi hz0 .i64 .i64 n n (by omega) (by omega) (by rw [hz2]; omega) (by omega)
  rw [hr, hz1]
  simp only [Int.toNat_natCast, Nat.mul_one]
  have e : madeCells (Value.int .i64 0).cells n = (i64s (zerosI n)).toArray := by
    apply Array.ext'
    rw [show (Value.int .i64 0).cells = #[.int .i64 0] from rfl, toList_madeCells_one]
    simp [i64s, zerosI]
  rw [e]
theorem box1 {w : World} {k : Nat} {t : TypeId} {a : Value} (h : Bk w k t #[a]) : w.cell? ⟨k, 0, none⟩ = some a := h.cell 0
theorem grown_store {w U : World} {g : Nat} (h : w.grownBy U (some g)) (c : Nat) (v : Value) : w.grownBy (U.setCell ⟨g, c, none⟩ v).drew (some g) :=
  ⟨h.os, h.tape, h.output, by have := h.size; simpa [World.setCell, World.drew_eq] using this, fun k hk hne => (Below.heap_setCell U ⟨g, c, none⟩ v k (fun e => hne (by rw [e]))).trans (h.block k hk hne)⟩
theorem stepA_set {zs : List Int} {x : Lea} {c : Nat} (h : c < zs.length) (hc : x.c = c) : stepA zs x = zs.set c (max zs[c] x.a) := by
  have e : x.c.toNat = c := by omega
  unfold stepA
  rw [e, List.getD_eq_getElem?_getD, List.getElem?_eq_getElem h]; rfl

set_option maxHeartbeats 1000000 in
/-- the closure: the amperes of a charger grow to those of a lease -/
theorem keep_any (x : Lea) (zs : List Int) (bo g : Nat) (w : World) (ho : Bk w bo 32 #[.slice (some ⟨g, 0, none⟩) zs.length zs.length]) (hg : Bk w g 3 (i64s zs).toArray) (h0 : 0 ≤ x.c) (h1 : x.c < zs.length) (hn : zs.length ≤ 1000000) :
    Calls Tryd.prog 13 #[.agg #[.int .i64 x.n, .int .i64 x.c, .int .i64 x.a, .int .i64 x.f, .int .i64 x.t], .pointer (some ⟨bo, 0, none⟩)] w fun e w' => e = .returned (.tuple #[]) ∧ Bk w' g 3 (i64s (stepA zs x)).toArray ∧ w.grownBy w' (some g) := by
  obtain ⟨c, hc⟩ := Int.eq_ofNat_of_zero_le h0
  have hcl : c < zs.length := by omega
  have HS := Lib.hid (stepA_set hcl hc)
  obtain ⟨nn, cc, aa, ff, tt⟩ := x
  dsimp only at *
  subst hc
  have c1 : (0 : Int) ≤ (c : Int) := by omega
  have c2 : (c : Int) < (zs.length : Int) := by omega
  have HG := Lib.hid hg
  have HO := Lib.hid ho
  have hgl := hg.lt
  have hol := ho.lt
  clear hg ho
  go_enter Tryd.func13, Tryd.ntmps13
  go_wp2
  obtain ⟨U, hU⟩ : ∃ U, U = w.alloc (.cells #[.int .i64 nn, .int .i64 (c : Int), .int .i64 aa, .int .i64 ff, .int .i64 tt] 30) := ⟨_, rfl⟩
  have kx : Bk U w.heap.size 30 #[.int .i64 nn, .int .i64 (c : Int), .int .i64 aa, .int .i64 ff, .int .i64 tt] := by rw [hU]; exact Bk.new _ _ _
  have hbU : w.grownBy U (some g) := by rw [hU]; exact grownBy_alloc' (World.grownBy.refl _ _) _
  have ho : Bk U bo 32 #[.slice (some ⟨g, 0, none⟩) zs.length zs.length] := by rw [hU]; exact HO.out.alloc _
  have hg : Bk U g 3 (i64s zs).toArray := by rw [hU]; exact HG.out.alloc _
  rw [← hU]
  clear hU
  obtain ⟨y0, y1, y2, y3, y4⟩ := box5 kx
  have a0 := box1 ho
  have a1 := hg.cell c
  have a2 := hg.frozen c
  rw [show (i64s zs).toArray[c]? = some (.int .i64 zs[c]) from by simpa using i64s_get zs c hcl] at a1
  have HGU := Lib.hid hg
  have HBU := Lib.hid hbU
  clear kx ho hg hbU
  refine region_tail 12 (by kernel_rfl) (by kernel_rfl) ?_
  simp only [List.take_succ_cons, List.take_zero, List.drop_succ_cons, List.drop_zero]
  repeat still_step
  refine wpStill_nil ?_
  go_wp2
  all_goals
    go_end0
    refine ⟨rfl, ?_, grown_store HBU.out _ _⟩
    rw [HS.out]
    first
      | rw [show max zs[c] aa = aa from by omega, ← i64s_set]; exact (HGU.out.set c _).drew
      | rw [show max zs[c] aa = zs[c] from by omega, ← i64s_set]; exact (HGU.out.set c _).drew
theorem alv_out {l : List Lea} {n tick : Int} (h : alvB l n tick = false) : alvE l n tick = 1 ∧ alvL l n tick = [] := by simp [alvE, alvL, h]
theorem alv_bad {l : List Lea} {n tick : Int} (h : vlB l = false ∨ n < 0 ∨ 16 < n ∨ tick < 0 ∨ 1100000 < tick) : alvE l n tick = 1 ∧ alvL l n tick = [] := by
  apply alv_out
  unfold alvB
  rcases h with h | h
  · simp [h]
  · rw [show decide (0 ≤ n ∧ n ≤ 16 ∧ 0 ≤ tick ∧ tick ≤ 1100000) = false from decide_eq_false (by omega)]; simp
theorem alv_far {l : List Lea} {n tick : Int} {x : Lea} (hx : x ∈ l) (h : n ≤ x.c) : alvE l n tick = 1 ∧ alvL l n tick = [] := by
  apply alv_out
  unfold alvB
  rw [show (l.all fun x => decide (x.c < n)) = false from List.all_eq_false.2 ⟨x, hx, by simp; omega⟩]; simp
theorem alv_ok {l : List Lea} {m : Nat} {tick : Int} (h : vlB l = true) (hm : m ≤ 16) (h0 : 0 ≤ tick) (h1 : tick ≤ 1100000) (hc : ∀ x ∈ l, x.c < (m : Int)) : alvE l m tick = 0 ∧ alvL l m tick = (l.filter (aliB tick)).foldl stepA (zerosI m) := by
  have : alvB l m tick = true := by
    unfold alvB
    rw [h, show decide (0 ≤ (m : Int) ∧ (m : Int) ≤ 16 ∧ 0 ≤ tick ∧ tick ≤ 1100000) = true from decide_eq_true (by omega)]
    simpa using hc
  refine ⟨by simp [alvE, this], ?_⟩
  rw [alvL, if_pos this, aliveL, Int.toNat_natCast]; rfl
theorem fold_pos {l : List Lea} {k m : Nat} {tick : Int} {x : Lea} (hk : k < l.length) (hx : x = l[k]) (hp : aliB tick x = true) : ((l.take (k + 1)).filter (aliB tick)).foldl stepA (zerosI m) = stepA (((l.take k).filter (aliB tick)).foldl stepA (zerosI m)) x := by
  rw [filter_take_pos hk hx hp, List.foldl_append]; rfl
theorem fold_neg {l : List Lea} {k m : Nat} {tick : Int} {x : Lea} (hk : k < l.length) (hx : x = l[k]) (hp : aliB tick x = false) : ((l.take (k + 1)).filter (aliB tick)).foldl stepA (zerosI m) = ((l.take k).filter (aliB tick)).foldl stepA (zerosI m) := by
  rw [filter_take_neg hk hx hp]
theorem all_take {l : List Lea} {k : Nat} {m : Int} (hk : k < l.length) (h : ∀ x ∈ l.take k, x.c < m) (hx : l[k].c < m) : ∀ x ∈ l.take (k + 1), x.c < m := by
  intro x h'
  rw [List.take_succ_eq_append_getElem hk, List.mem_append] at h'
  rcases h' with h' | h'
  · exact h x h'
  · rw [List.mem_singleton.1 h']; exact hx

end Go.Proofs.YtlfogcidklpeiaaDoor
