/- A slice of memories seen as cells, so that it can be appended; a program in two parts. No program is walked here. -/
import Derived.Test.YtjfpnldijlbmiaaFwf
set_option linter.unusedVariables false
set_option linter.unusedSimpArgs false
namespace Go.Proofs.Ytjfpnldijlbmiaa
open Go.RowKit

/-- the cells xs are those of the memories ms -/
def FsOk (w : World) (B : Nat) (ms : List Mem) (xs : List Value) : Prop :=
  ∀ i m, ms[i]? = some m → ∃ A' c', xs[i * 2]? = some (.int .i64 m.1) ∧ xs[i * 2 + 1]? = some (.slice A' m.2.length c') ∧ m.2.length ≤ c' ∧ RdB w B A' m.2
theorem FsOk.below {w w' : World} {B : Nat} {ms : List Mem} {xs : List Value} (h : FsOk w B ms xs) (hb : Below B w w') : FsOk w' B ms xs := fun i m hm => by
  obtain ⟨A', c', h1, h2, h3, h4⟩ := h i m hm
  exact ⟨A', c', h1, h2, h3, h4.below hb⟩
theorem FsOk.more {w : World} {B B' : Nat} {ms : List Mem} {xs : List Value} (h : FsOk w B ms xs) (hb : B ≤ B') : FsOk w B' ms xs := fun i m hm => by
  obtain ⟨A', c', h1, h2, h3, h4⟩ := h i m hm
  exact ⟨A', c', h1, h2, h3, h4.more hb⟩
theorem FsOk.append {w : World} {B : Nat} {m1 m2 : List Mem} {x1 x2 : List Value} (h1 : FsOk w B m1 x1) (h2 : FsOk w B m2 x2) (hl : x1.length = m1.length * 2) : FsOk w B (m1 ++ m2) (x1 ++ x2) := fun i m hm => by
  rcases Nat.lt_or_ge i m1.length with hi | hi
  · rw [List.getElem?_append_left hi] at hm
    obtain ⟨A', c', k1, k2, k3, k4⟩ := h1 i m hm
    exact ⟨A', c', by rw [List.getElem?_append_left (by omega)]; exact k1, by rw [List.getElem?_append_left (by omega)]; exact k2, k3, k4⟩
  · rw [List.getElem?_append_right hi] at hm
    obtain ⟨A', c', k1, k2, k3, k4⟩ := h2 _ m hm
    exact ⟨A', c', by rw [List.getElem?_append_right (by omega), show i * 2 - x1.length = (i - m1.length) * 2 by omega]; exact k1, by rw [List.getElem?_append_right (by omega), show i * 2 + 1 - x1.length = (i - m1.length) * 2 + 1 by omega]; exact k2, k3, k4⟩
theorem FsOk.tail {w : World} {B : Nat} {ms : List Mem} {xs : List Value} (h : FsOk w B ms xs) : FsOk w B (ms.drop 1) (xs.drop (1 * 2)) := fun i m hm => by
  rw [List.getElem?_drop] at hm
  obtain ⟨A', c', k1, k2, k3, k4⟩ := h _ m hm
  exact ⟨A', c', by rw [List.getElem?_drop, show 1 * 2 + i * 2 = (1 + i) * 2 by omega]; exact k1, by rw [List.getElem?_drop, show 1 * 2 + (i * 2 + 1) = (1 + i) * 2 + 1 by omega]; exact k2, k3, k4⟩
theorem rdFs_cells {w : World} {B : Nat} {A : Option Addr} {ms : List Mem} (h : RdFs w B A ms) : ∃ xs, RdS w B 2 A ms.length xs ∧ FsOk w B ms xs ∧ ∀ u ∈ xs, u.oneCell' = true := by
  rcases Nat.eq_zero_or_pos ms.length with h0 | h0
  · refine ⟨[], by rw [h0]; exact RdS.nil, fun i m hm => ?_, by simp⟩
    rw [List.eq_nil_of_length_eq_zero h0] at hm; cases hm
  · obtain ⟨b, o, e, hl, hc⟩ := h h0
    have hex : ∀ j, j < ms.length * 2 → ∃ v, w.cell? ⟨b, o + j, none⟩ = some v ∧ v.oneCell' = true := by
      intro j hj
      obtain ⟨A', c', k1, k2, _, _⟩ := hc (j / 2) _ (List.getElem?_eq_getElem (by omega))
      rcases Nat.mod_two_eq_zero_or_one j with hm | hm
      · exact ⟨_, by rw [show o + j = o + j / 2 * 2 by omega]; exact k1, rfl⟩
      · exact ⟨_, by rw [show o + j = o + j / 2 * 2 + 1 by omega]; exact k2, rfl⟩
    have key : ∀ j u, ((List.range (ms.length * 2)).map fun j => (w.cell? ⟨b, o + j, none⟩).getD undef)[j]? = some u → w.cell? ⟨b, o + j, none⟩ = some u ∧ u.oneCell' = true := by
      intro j u hu
      rw [List.getElem?_map, Option.map_eq_some_iff] at hu
      obtain ⟨j', hj', rfl⟩ := hu
      obtain ⟨hlt, rfl⟩ := List.getElem?_eq_some_iff.1 hj'
      simp only [List.length_range] at hlt
      obtain ⟨v, hv, ho⟩ := hex j hlt
      simp only [List.getElem_range, hv, Option.getD_some]
      exact ⟨trivial, ho⟩
    have val : ∀ j v, j < ms.length * 2 → w.cell? ⟨b, o + j, none⟩ = some v → ((List.range (ms.length * 2)).map fun j => (w.cell? ⟨b, o + j, none⟩).getD undef)[j]? = some v := by
      intro j v hj hv
      rw [List.getElem?_map, List.getElem?_range hj]
      simp [hv]
    refine ⟨_, ⟨by simp, fun _ => ⟨b, o, e, hl, fun j u hu => (key j u hu).1⟩⟩, fun i m hm => ?_, fun u hu => ?_⟩
    · obtain ⟨A', c', k1, k2, k3, k4⟩ := hc i m hm
      have hi : i < ms.length := by
        rcases Nat.lt_or_ge i ms.length with h | h
        · exact h
        · rw [List.getElem?_eq_none h] at hm; cases hm
      exact ⟨A', c', val _ _ (by omega) k1, val _ _ (by omega) k2, k3, k4⟩
    · obtain ⟨j, hj, rfl⟩ := List.getElem_of_mem hu
      exact (key j _ (List.getElem?_eq_getElem hj)).2
theorem rdFs_of {w : World} {B : Nat} {A : Option Addr} {ms : List Mem} {xs : List Value} {n : Nat} (h : RdS w B 2 A n xs) (hn : ms.length = n) (hf : FsOk w B ms xs) : RdFs w B A ms := fun h0 => by
  obtain ⟨b, o, e, hl, hc⟩ := h.2 (by omega)
  refine ⟨b, o, e, hl, fun i m hm => ?_⟩
  obtain ⟨A', c', k1, k2, k3, k4⟩ := hf i m hm
  exact ⟨A', c', hc _ _ k1, by rw [Nat.add_assoc]; exact hc _ _ k2, k3, k4⟩
theorem own_empty2 {W : World} {g base : Nat} (h : at? W g = some (.cells #[] 24 (0, 0))) (hb : base ≤ g) : W.ownsRow base 24 2 (.slice (some ⟨g, 0, none⟩) 0 0) 0 [] :=
  ⟨rfl, .inr ⟨g, 0, #[], rfl, hb, h, Nat.le_refl _, by simp [maxLen], rfl, rfl⟩⟩
/-- an append in a region that draws, whose guard has said yes -/
theorem step_append_on {P : Program} (w : World) {ops : Array Oper} {o : Oper} {a : Act} {K : Act → World → Prop} {Q : Exit → Act → World → Prop} {E : Prop} (hw : Region.wanted o (yielded ops a.tmps) = true) (s x : Operand) (t : TypeId)
    (ho : o.op = .call { callee := .builtin .append, args := #[s, x], argTypes := #[t, t] })
    (base : Nat) (e : TypeId) (i : TypeInfo) (z : Value) (size bytes : Nat) (ht : P.underlying t = some (.slice e)) (hi : P.info? e = some i) (hz : i.zero = some z)
    (hsize : i.size = size) (hby : i.bytes = bytes) (hzs : z.cells.size = size) (hsz : 0 < size)
    (v : Value) (n : Nat) (xs : List Value) (hs : a.eval s = v) (hown : w.ownsRow base e size v n xs)
    (B : Nat) (A : Option Addr) (m c : Nat) (news : List Value) (hx : a.eval x = .slice A m c) (hr : RdS w B size A m news) (h1 : ∀ u ∈ news, u.oneCell' = true)
    (h63 : n + m ≤ maxLen) (hbytes : (n + m) * bytes ≤ 140737488355328) (hbase : base ≤ w.heap.size)
    (h : ∀ v' w', w'.ownsRow base e size v' (n + m) (xs ++ news) → w.grownBy w' v.ownBlock → (v'.ownBlock = v.ownBlock ∨ v'.ownBlock = some w.heap.size) → K (a.put o.dst v') w') :
    if Region.wanted o (yielded ops a.tmps) = true then Oper.wp P o a w K Q else E := by
  rw [if_pos hw]
  exact wp_append_rd w s x t ho base e i z size bytes ht hi hz hsize hby hzs hsz v n xs hs hown B A m c news hx hr h1 h63 hbytes hbase h

/-- the two parts -/
theorem parts_prog {m : Mem} {p : Int} {ds : List UInt8} (h : progE m p ds = 0) {k : Nat} (hk : k ≤ ds.length) :
    progE m p (ds.take k) = 0 ∧ lastM (progL m p (ds.take k)) 0 ((k : Int) + 1) = (m.1, memo (andF (ds.take k)) m.2 p.toNat k) ∧ lastB (progL m p (ds.take k)) 0 ((k : Int) + 1) = true ∧
    progE (m.1, memo (andF (ds.take k)) m.2 p.toNat k) (p + k) (ds.drop k) = 0 ∧
    progL m p (ds.take k) ++ (progL (m.1, memo (andF (ds.take k)) m.2 p.toNat k) (p + k) (ds.drop k)).drop 1 = progL m p ds ∧
    (progL m p (ds.take k)).length = k + 1 ∧ (progL (m.1, memo (andF (ds.take k)) m.2 p.toNat k) (p + k) (ds.drop k)).length = ds.length - k + 1 := by
  obtain ⟨v, p0, p1⟩ := prog0 h
  have hl : (ds.take k).length = k := by rw [List.length_take]; omega
  have e1 : progE m p (ds.take k) = 0 := prog0_of v p0 (by rw [hl]; omega)
  have e2 : progE (m.1, memo (andF (ds.take k)) m.2 p.toNat k) (p + k) (ds.drop k) = 0 := prog0_of (by simpa [memo_length] using v) (by omega) (by simp only [memo_length, List.length_drop]; omega)
  have l1 := progL_len e1
  have l2 := progL_len e2
  rw [hl] at l1
  rw [List.length_drop] at l2
  have hd := done_last m p (ds.take k)
  rw [e1, hl, (done_ok e1).1, (done_ok e1).2, hl] at hd
  refine ⟨e1, hd.1, hd.2, e2, ?_, l1, l2⟩
  have q1 : progL m p (ds.take k) = (memos (andF (ds.take k)) m.2 p.toNat k).map fun b => (m.1, b) := by simp [progL, e1, hl]
  have q2 : progL (m.1, memo (andF (ds.take k)) m.2 p.toNat k) (p + k) (ds.drop k) = (memos (andF (ds.drop k)) (memo (andF (ds.take k)) m.2 p.toNat k) (p.toNat + k) (ds.length - k)).map fun b => (m.1, b) := by
    rw [progL, if_pos e2, List.length_drop, show (p + (k : Int)).toNat = p.toNat + k by omega]
  have q3 : progL m p ds = (memos (andF ds) m.2 p.toNat ds.length).map fun b => (m.1, b) := by simp [progL, h]
  rw [q1, q2, q3, ← List.map_drop, ← List.map_append, memos_parts _ _ _ _ hk]
end Go.Proofs.Ytjfpnldijlbmiaa
