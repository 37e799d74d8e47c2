/- Words for memory that is read: a slice that reads as a list of cells (nil let in), bytes, memories (api.Flash) and lists of them. No program. -/
import Derived.Below
import Derived.Laws.OwnMore
import Derived.Deep.AppendLies
import Derived.Deep.Draws
import Derived.Laws.Rows
set_option linter.unusedVariables false
namespace Go.Proofs.Ythihhmlgpokomaa
open Go.RowKit

theorem add_block (a : Addr) (n : Nat) : (a.add n).block = a.block := by unfold Addr.add; split <;> rfl
theorem add_twice (a : Addr) (i j : Nat) : (a.add i).add j = a.add (i + j) := by
  unfold Addr.add
  by_cases hi : i = 0 <;> by_cases hj : j = 0 <;> simp [hi, hj, Nat.add_assoc]
theorem add_mk (g o n : Nat) : (⟨g, o, none⟩ : Addr).add n = ⟨g, o + n, none⟩ := by
  unfold Addr.add
  by_cases h : n = 0 <;> simp [h]

/-- the slice value '.slice A n c' (elements of sz cells) holds the cells xs; it lies below block B -/
def RdS (w : World) (B sz : Nat) (A : Option Addr) (n : Nat) (xs : List Value) : Prop :=
  xs.length = n * sz ∧ (0 < n → ∃ b o, A = some ⟨b, o, none⟩ ∧ b < B ∧ ∀ j u, xs[j]? = some u → w.cell? ⟨b, o + j, none⟩ = some u)

section
variable {w w' : World} {B B' sz n : Nat} {A : Option Addr} {xs : List Value}
theorem RdS.nil : RdS w B sz A 0 [] := ⟨by simp, fun h => absurd h (by omega)⟩
theorem RdS.keep (h : RdS w B sz A n xs) (hk : ∀ p : Addr, p.block < B → w'.cell? p = w.cell? p) : RdS w' B sz A n xs :=
  ⟨h.1, fun hn => by
    obtain ⟨b, o, e, hb, hc⟩ := h.2 hn
    exact ⟨b, o, e, hb, fun j u hu => (hk _ hb).trans (hc j u hu)⟩⟩
theorem RdS.more (h : RdS w B sz A n xs) (hB : B ≤ B') : RdS w B' sz A n xs :=
  ⟨h.1, fun hn => by
    obtain ⟨b, o, e, hb, hc⟩ := h.2 hn
    exact ⟨b, o, e, by omega, hc⟩⟩
theorem RdS.below (h : RdS w B sz A n xs) (hb : Below B w w') : RdS w' B sz A n xs := h.keep fun _ hp => hb.cell hp
theorem RdS.drewN (h : RdS w B sz A n xs) (k : Nat) : RdS (w.drewN k) B sz A n xs := h
theorem RdS.alloc (h : RdS w B sz A n xs) (hB : B ≤ w.heap.size) (o : Obj) : RdS (w.alloc o) B sz A n xs := h.keep fun p hp => World.cell?_alloc_lt w o p (by omega)
theorem RdS.setCell (h : RdS w B sz A n xs) {p : Addr} (hB : B ≤ p.block) (u : Value) : RdS (w.setCell p u) B sz A n xs :=
  h.keep fun q hq => World.cell?_setCell_other w p q u (fun e => by subst e; omega)
/-- over a step that keeps what was there: the bound moves to the new heap's size -/
theorem RdS.next (h : RdS w w.heap.size sz A n xs) (hb : Below w.heap.size w w') : RdS w' w'.heap.size sz A n xs := (h.below hb).more hb.size
theorem RdS.cut (h : RdS w B sz A n xs) {k cap : Nat} (hk : k ≤ n) (hc : n ≤ cap) :
    RdS w B sz (if cap = k then A else A.map (·.add (k * sz))) (n - k) (xs.drop (k * sz)) := by
  refine ⟨by rw [List.length_drop, h.1, Nat.sub_mul], fun hn => ?_⟩
  obtain ⟨b, o, rfl, hb, hcell⟩ := h.2 (by omega)
  rw [if_neg (by omega)]
  refine ⟨b, o + k * sz, by simp [add_mk], hb, fun j u hu => ?_⟩
  rw [Nat.add_assoc]
  exact hcell _ u (by rw [← hu, List.getElem?_drop])
theorem RdS.head_ (h : RdS w B sz A n xs) {k : Nat} (hk : k ≤ n) : RdS w B sz A k (xs.take (k * sz)) := by
  refine ⟨by rw [List.length_take, h.1, Nat.min_eq_left (Nat.mul_le_mul_right _ hk)], fun hn => ?_⟩
  obtain ⟨b, o, rfl, hb, hcell⟩ := h.2 (by omega)
  refine ⟨b, o, rfl, hb, fun j u hu => hcell j u ?_⟩
  rw [List.getElem?_take] at hu
  split at hu
  · exact hu
  · cases hu
theorem RdS.of_own {base : Nat} {e : TypeId} {c : Nat} (h : w.ownsRow base e sz (.slice A n c) n xs) : RdS w w.heap.size sz A n xs := by
  refine ⟨h.1, fun hn => ?_⟩
  obtain ⟨g, cap, hv, _, hlt⟩ := h.form hn
  have hA : A = some ⟨g, 0, none⟩ := by injection hv
  subst hA
  exact ⟨g, 0, rfl, hlt, fun j u hu => by have := h.cells (g := g) rfl j u hu; rwa [add_mk] at this⟩
end

/-! ### bytes -/
/-- a byte's value -/
def u8 (b : UInt8) : Value := .int .u8 (b.toNat : Int)
def u8s (bs : List UInt8) : List Value := bs.map u8
@[simp] theorem u8s_length (bs : List UInt8) : (u8s bs).length = bs.length := by simp [u8s]
theorem u8s_get (bs : List UInt8) (k : Nat) (hk : k < bs.length) : (u8s bs)[k]? = some (.int .u8 (bs[k].toNat : Int)) := by simp [u8s, u8, hk]

/-- the slice reads as these bytes -/
def RdB (w : World) (B : Nat) (A : Option Addr) (bs : List UInt8) : Prop := RdS w B 1 A bs.length (u8s bs)

theorem RdB.at_ {w : World} {B : Nat} {A : Option Addr} {bs : List UInt8} (h : RdB w B A bs) {k : Nat} (hk : k < bs.length) :
    ∃ b o, A = some ⟨b, o, none⟩ ∧ b < B ∧ w.cell? ⟨b, o + k, none⟩ = some (.int .u8 (bs[k].toNat : Int)) := by
  obtain ⟨b, o, e, hb, hc⟩ := h.2 (by omega)
  exact ⟨b, o, e, hb, hc k _ (u8s_get bs k hk)⟩
theorem RdB.addr {w : World} {B : Nat} {A : Option Addr} {bs : List UInt8} (h : RdB w B A bs) (hk : 0 < bs.length) :
    ∃ b o, A = some ⟨b, o, none⟩ ∧ b < B ∧ ∀ k, (hk : k < bs.length) → w.cell? ⟨b, o + k, none⟩ = some (.int .u8 (bs[k].toNat : Int)) := by
  obtain ⟨b, o, e, hb, hc⟩ := h.2 (by omega)
  exact ⟨b, o, e, hb, fun k hk => hc k _ (u8s_get bs k hk)⟩
theorem RdB.below {w w' : World} {B : Nat} {A : Option Addr} {bs : List UInt8} (h : RdB w B A bs) (hb : Below B w w') : RdB w' B A bs := RdS.below h hb
theorem RdB.more {w : World} {B B' : Nat} {A : Option Addr} {bs : List UInt8} (h : RdB w B A bs) (hb : B ≤ B') : RdB w B' A bs := RdS.more h hb
theorem RdB.next {w w' : World} {A : Option Addr} {bs : List UInt8} (h : RdB w w.heap.size A bs) (hb : Below w.heap.size w w') : RdB w' w'.heap.size A bs := RdS.next h hb
/-- from a block that is known whole -/
theorem RdB.of_cells {w : World} {B g : Nat} {bs : List UInt8} {t : TypeId} {m : Nat × Nat} {cs : Array Value} (h : w.heap[g]? = some (.cells cs t m)) (hg : g < B) (hc : cs.toList.take bs.length = u8s bs) : RdB w B (some ⟨g, 0, none⟩) bs := by
  refine ⟨by simp, fun hn => ⟨g, 0, rfl, hg, fun j u hu => ?_⟩⟩
  have hj : j < bs.length := by
    rcases Nat.lt_or_ge j bs.length with h | h
    · exact h
    · rw [List.getElem?_eq_none (by simpa using h)] at hu; cases hu
  rw [show (0 + j) = j from Nat.zero_add j, cell_of_row w g j cs t m h, ← hu, ← hc, List.getElem?_take, if_pos hj]
  simp

/-! ### memories (api.Flash): the sector's size, the bytes -/
abbrev Mem := Int × List UInt8
/-- a slice of api.Flash that reads as ms -/
def RdFs (w : World) (B : Nat) (A : Option Addr) (ms : List Mem) : Prop :=
  0 < ms.length → ∃ b o, A = some ⟨b, o, none⟩ ∧ b < B ∧ ∀ i m, ms[i]? = some m → ∃ A' c', w.cell? ⟨b, o + i * 2, none⟩ = some (.int .i64 m.1) ∧ w.cell? ⟨b, o + i * 2 + 1, none⟩ = some (.slice A' m.2.length c') ∧ m.2.length ≤ c' ∧ RdB w B A' m.2

theorem RdFs.below {w w' : World} {B : Nat} {A : Option Addr} {ms : List Mem} (h : RdFs w B A ms) (hb : Below B w w') : RdFs w' B A ms := fun hn => by
  obtain ⟨b, o, e, hl, hc⟩ := h hn
  refine ⟨b, o, e, hl, fun i m hm => ?_⟩
  obtain ⟨A', c', h1, h2, h3, h4⟩ := hc i m hm
  exact ⟨A', c', (hb.cell (p := ⟨b, o + i * 2, none⟩) hl).trans h1, (hb.cell (p := ⟨b, o + i * 2 + 1, none⟩) hl).trans h2, h3, h4.below hb⟩
theorem RdFs.more {w : World} {B B' : Nat} {A : Option Addr} {ms : List Mem} (h : RdFs w B A ms) (hb : B ≤ B') : RdFs w B' A ms := fun hn => by
  obtain ⟨b, o, e, hl, hc⟩ := h hn
  refine ⟨b, o, e, by omega, fun i m hm => ?_⟩
  obtain ⟨A', c', h1, h2, h3, h4⟩ := hc i m hm
  exact ⟨A', c', h1, h2, h3, h4.more hb⟩
theorem RdFs.next {w w' : World} {A : Option Addr} {ms : List Mem} (h : RdFs w w.heap.size A ms) (hb : Below w.heap.size w w') : RdFs w' w'.heap.size A ms := (h.below hb).more hb.size
theorem RdFs.at_ {w : World} {B : Nat} {A : Option Addr} {ms : List Mem} (h : RdFs w B A ms) {i : Nat} (hi : i < ms.length) :
    ∃ b o A' c', A = some ⟨b, o, none⟩ ∧ b < B ∧ w.cell? ⟨b, o + i * 2, none⟩ = some (.int .i64 ms[i].1) ∧ w.cell? ⟨b, o + i * 2 + 1, none⟩ = some (.slice A' ms[i].2.length c') ∧ ms[i].2.length ≤ c' ∧ RdB w B A' ms[i].2 := by
  obtain ⟨b, o, e, hl, hc⟩ := h (by omega)
  obtain ⟨A', c', h1, h2, h3, h4⟩ := hc i ms[i] (List.getElem?_eq_getElem hi)
  exact ⟨b, o, A', c', e, hl, h1, h2, h3, h4⟩
theorem RdFs.nil {w : World} {B : Nat} {A : Option Addr} : RdFs w B A [] := fun h => absurd h (by simp)

/-! ### a block that is known whole (none of its cells frozen) -/
def Bk (w : World) (g : Nat) (t : TypeId) (cs : Array Value) : Prop := w.heap[g]? = some (.cells cs t (0, 0))
section
variable {w w' : World} {g : Nat} {t : TypeId} {cs : Array Value}
theorem Bk.lt (h : Bk w g t cs) : g < w.heap.size := (Array.getElem?_eq_some_iff.1 h).1
theorem Bk.cell (h : Bk w g t cs) (i : Nat) : w.cell? ⟨g, i, none⟩ = cs[i]? := cell_of_row w g i cs t (0, 0) h
theorem Bk.frozen (h : Bk w g t cs) (i : Nat) : w.frozen? ⟨g, i, none⟩ = false := by
  unfold Bk at h
  simp [World.frozen?, h]
theorem Bk.new (w : World) (t : TypeId) (cs : Array Value) : Bk (w.alloc (.cells cs t)) w.heap.size t cs := heap_alloc_new w _
theorem Bk.alloc (h : Bk w g t cs) (o : Obj) : Bk (w.alloc o) g t cs := (Below.heap_alloc w o g h.lt).trans h
theorem Bk.drew (h : Bk w g t cs) : Bk w.drew g t cs := h
theorem Bk.drewN (h : Bk w g t cs) (n : Nat) : Bk (w.drewN n) g t cs := h
theorem Bk.set (h : Bk w g t cs) (i : Nat) (u : Value) : Bk (w.setCell ⟨g, i, none⟩ u) g t (cs.setIfInBounds i u) := by
  unfold Bk at h ⊢
  simp [World.setCell, Array.getElem?_modify, h]
theorem Bk.far (h : Bk w g t cs) {p : Addr} (hp : g ≠ p.block) (u : Value) : Bk (w.setCell p u) g t cs := (Below.heap_setCell w p u g hp).trans h
theorem Bk.below {B : Nat} (h : Bk w g t cs) (hb : Below B w w') (hg : g < B) : Bk w' g t cs := (hb.block g hg).trans h
theorem Bk.next (h : Bk w g t cs) (hb : Below w.heap.size w w') : Bk w' g t cs := h.below hb h.lt
theorem Bk.grown {row : Option Nat} (h : Bk w g t cs) (hb : w.grownBy w' row) (hg : some g ≠ row) : Bk w' g t cs := (hb.block g h.lt hg).trans h
theorem Bk.ne {g' : Nat} {t' : TypeId} {cs' : Array Value} (h : Bk w g t cs) (h' : Bk w g' t' cs') (hne : t ≠ t') : g ≠ g' := by
  rintro rfl
  unfold Bk at h h'
  rw [h] at h'
  injection h' with h'
  injection h' with _ ht
  exact hne ht
end
theorem grownBy_below {a w : World} {row : Option Nat} (h : a.grownBy w row) {B : Nat} (hB : B ≤ a.heap.size) (hr : ∀ k, row = some k → B ≤ k) : Below B a w :=
  (Below.refl B a).grown h hB hr
theorem grownBy_alloc' {a w : World} {row : Option Nat} (h : a.grownBy w row) (o : Obj) : a.grownBy (w.alloc o) row :=
  ⟨h.os, h.tape, h.output, Nat.le_trans h.size (by simp), fun i hi hne => (Below.heap_alloc w o i (Nat.lt_of_lt_of_le hi h.size)).trans (h.block i hi hne)⟩

theorem RdB.of_bk {w : World} {B g : Nat} {bs : List UInt8} {t : TypeId} (h : Bk w g t (u8s bs).toArray) (hg : g < B) : RdB w B (some ⟨g, 0, none⟩) bs :=
  RdB.of_cells h hg (by rw [List.take_of_length_le (by simp)])

/-- what lies where, behind new blocks ('exact bkOf (by simp [at?_alloc, at?_drew, at?_drewN])') -/
def at? (w : World) (k : Nat) : Option Obj := w.heap[k]?
theorem at?_alloc (w : World) (o : Obj) (k : Nat) : at? (w.alloc o) k = if k = w.heap.size then some o else at? w k := by
  unfold at?
  by_cases h : k = w.heap.size
  · subst h; rw [if_pos rfl]; exact heap_alloc_new w o
  · rw [if_neg h]
    show (w.heap.push o)[k]? = _
    rw [Array.getElem?_push, if_neg h]
theorem at?_drew (w : World) (k : Nat) : at? w.drew k = at? w k := rfl
theorem at?_drewN (w : World) (n k : Nat) : at? (w.drewN n) k = at? w k := rfl
theorem ne2 (n : Nat) : (n + 1 + 1 = n) = False := by simp only [eq_iff_iff, iff_false]; omega
theorem ne3 (n : Nat) : (n + 1 + 1 + 1 = n) = False := by simp only [eq_iff_iff, iff_false]; omega
theorem ne4 (n : Nat) : (n + 1 + 1 + 1 + 1 = n) = False := by simp only [eq_iff_iff, iff_false]; omega
theorem bkOf {w : World} {g : Nat} {t : TypeId} {cs : Array Value} (h : at? w g = some (.cells cs t (0, 0))) : Bk w g t cs := h
theorem Bk.at {w : World} {g : Nat} {t : TypeId} {cs : Array Value} (h : Bk w g t cs) : at? w g = some (.cells cs t (0, 0)) := h

/-- two steps that keep what was there -/
theorem bt {a b c : World} (k : Below b.heap.size b c) (h : Below a.heap.size a b) : Below a.heap.size a c := h.trans (k.mono h.size)
theorem belowDrew {B : Nat} {a w : World} (h : Below B a w) (n : Nat) : Below B a (w.drewN n) := ⟨h.os, h.tape, h.output, h.size, h.block⟩
end Go.Proofs.Ythihhmlgpokomaa
