/- The search for the best pairs: what it keeps in memory, and what is known. -/
import Derived.Test.YthmipmdpdfdlaaaDoorTe
import Derived.Test.YthmipmdpdfdlaaaDoorTk
import Derived.Laws.BitsAll
set_option maxRecDepth 100000
set_option linter.unusedVariables false
set_option linter.unusedSimpArgs false
namespace Go.Proofs.YthmipmdpdfdlaaaDoor
open Go.RowKit

/-! ### bits -/
def bitsOf (u : Nat) : Nat → Bool := fun j => u.testBit j
theorem bits_zero : bitsOf 0 = fun _ => false := by funext j; simp [bitsOf]
theorem bits_or (u j : Nat) : bitsOf (u ||| 2 ^ j) = usd (bitsOf u) j := by
  funext i
  simp only [bitsOf, usd, Nat.testBit_or, Nat.testBit_two_pow]
  congr 1
  rw [Bool.eq_iff_iff]; simp; omega
theorem or_lt {u j : Nat} (h : u < 256) (hj : j < 8) : u ||| 2 ^ j < 256 :=
  Nat.or_lt_two_pow (n := 8) h (Nat.pow_lt_pow_right (by omega) hj)
theorem shl_one {k : Nat} (h : k < 8) : Op.shift .shl .i64 1 .i64 (k : Int) = pure (.int .i64 ((2 ^ k : Nat) : Int)) := by
  rcases (by omega : k = 0 ∨ k = 1 ∨ k = 2 ∨ k = 3 ∨ k = 4 ∨ k = 5 ∨ k = 6 ∨ k = 7) with rfl | rfl | rfl | rfl | rfl | rfl | rfl | rfl <;> rfl
theorem and_all : ∀ u : Nat, u < 256 → ∀ k : Nat, k < 8 → bits .and .i64 (u : Int) ((2 ^ k : Nat) : Int) = if u.testBit k = true then ((2 ^ k : Nat) : Int) else 0 := by decide +kernel
theorem or_all : ∀ u : Nat, u < 256 → ∀ k : Nat, k < 8 → bits .or .i64 (u : Int) ((2 ^ k : Nat) : Int) = ((u ||| 2 ^ k : Nat) : Int) := by decide +kernel

theorem wrap_pow {k : Nat} (h : k < 8) : wrap64 ((2 : Int) ^ k) = ((2 ^ k : Nat) : Int) := by
  rcases (by omega : k = 0 ∨ k = 1 ∨ k = 2 ∨ k = 3 ∨ k = 4 ∨ k = 5 ∨ k = 6 ∨ k = 7) with rfl | rfl | rfl | rfl | rfl | rfl | rfl | rfl <;> decide +kernel
theorem wrap_ne {k : Nat} (h : k < 8) : (wrap64 ((2 : Int) ^ k) == 0) = false := by
  rcases (by omega : k = 0 ∨ k = 1 ∨ k = 2 ∨ k = 3 ∨ k = 4 ∨ k = 5 ∨ k = 6 ∨ k = 7) with rfl | rfl | rfl | rfl | rfl | rfl | rfl | rfl <;> decide +kernel
theorem and_yes {u k : Nat} (hu : u < 256) (h : k < 8) (hb : u.testBit k = true) : bits .and .i64 (u : Int) (wrap64 ((2 : Int) ^ k)) = wrap64 ((2 : Int) ^ k) := by
  rw [wrap_pow h, and_all u hu k h, if_pos hb]
theorem and_no {u k : Nat} (hu : u < 256) (h : k < 8) (hb : ¬ u.testBit k = true) : bits .and .i64 (u : Int) (wrap64 ((2 : Int) ^ k)) = 0 := by
  rw [wrap_pow h, and_all u hu k h, if_neg hb]
theorem or_yes {u k : Nat} (hu : u < 256) (h : k < 8) : bits .or .i64 (u : Int) (wrap64 ((2 : Int) ^ k)) = ((u ||| 2 ^ k : Nat) : Int) := by
  rw [wrap_pow h, or_all u hu k h]

/-! ### what is best -/
def ps0 : Pas := (ByteArray.empty, 0)
def okP (es xs : List Pas) (i j : Nat) : Bool := decide ((es.getD i ps0).2 < (xs.getD j ps0).2)
def dsP (es xs : List Pas) (i j : Nat) : Int := dsV (es.getD i ps0).1 (xs.getD j ps0).1
theorem pl_size {s : ByteArray} (h : plB s = true) : s.data.toList.length ≤ 10 := by
  have := ((plB_iff s).1 h).1.2
  simpa using this
theorem dsV_bd (a b : ByteArray) : 0 ≤ dsV a b ∧ dsV a b ≤ 40 := by
  unfold dsV
  split
  · rename_i h
    have h1 := dist_lo a.data.toList b.data.toList
    have h2 := dist_hi a.data.toList b.data.toList
    have h3 := pl_size h.1
    have h4 := pl_size h.2
    omega
  · omega
abbrev BP (es xs : List Pas) (k : Nat) (U : Nat → Bool) (l : Prs) (n : Int) : Prop := Bst es.length xs.length (okP es xs) (dsP es xs) k U l n
abbrev BO (es xs : List Pas) (k J : Nat) (U : Nat → Bool) (l : Prs) (n : Int) : Prop := Bso es.length xs.length (okP es xs) (dsP es xs) k J U l n
theorem sm_bd (es xs : List Pas) : ∀ (l : Prs), 0 ≤ sm (dsP es xs) l ∧ sm (dsP es xs) l ≤ 40 * (l.length : Int)
  | [] => by simp [sm]
  | p :: r => by
    have h := sm_bd es xs r
    have h2 := dsV_bd (es.getD p.1 ps0).1 (xs.getD p.2 ps0).1
    simp only [sm, List.length_cons]
    unfold dsP at h ⊢
    push_cast
    omega
theorem cst_bd {es xs : List Pas} {k : Nat} {U : Nat → Bool} {l : Prs} (hE : es.length ≤ 8) (hX : xs.length ≤ 8) (hk : k ≤ es.length) (h : Ft es.length xs.length (okP es xs) k U l) : l.length ≤ 8 ∧ -40 ≤ cst es.length xs.length (dsP es xs) k U l ∧ cst es.length xs.length (dsP es xs) k U l ≤ 400 := by
  have h1 := ft_len hk h
  have h2 := sm_bd es xs l
  have h3 := fre_le U xs.length
  refine ⟨by omega, ?_, ?_⟩ <;> unfold cst <;> omega
theorem bp_bd {es xs : List Pas} {k : Nat} {U : Nat → Bool} {l : Prs} {n : Int} (hE : es.length ≤ 8) (hX : xs.length ≤ 8) (hk : k ≤ es.length) (h : BP es xs k U l n) : l.length ≤ 8 ∧ -40 ≤ n ∧ n ≤ 400 := by
  obtain ⟨h1, h2, _⟩ := h
  rw [h2]; exact cst_bd hE hX hk h1
theorem bo_bd {es xs : List Pas} {k J : Nat} {U : Nat → Bool} {l : Prs} {n : Int} (hE : es.length ≤ 8) (hX : xs.length ≤ 8) (hk : k ≤ es.length) (h : BO es xs k J U l n) : l.length ≤ 8 ∧ -40 ≤ n ∧ n ≤ 400 := by
  obtain ⟨h1, h2, _⟩ := h
  rw [h2]; exact cst_bd hE hX hk h1

/-! ### memory -/
def Rv (v : Value) : Option (DataW Value × List MemPlace) := some (.held v, [])
def zF : Value := .agg #[.slice none 0 0, .int .i64 0]
/-- what the search is about, and where it lies -/
structure Sx where
  es : List Pas
  xs : List Pas
  Ae : Option Addr
  Ax : Option Addr
  ce : Nat
  cx : Nat
  M : Nat
  k1 : Nat
  k2 : Nat
  k3 : Nat
  k4 : Nat
def Sx.caps (s : Sx) : Array Value := #[.pointer (some ⟨s.k1, 0, none⟩), .pointer (some ⟨s.k2, 0, none⟩), .pointer (some ⟨s.k3, 0, none⟩), .pointer (some ⟨s.k4, 0, none⟩)]
structure Sx.Env (s : Sx) (w : World) : Prop where
  b1 : Bk w s.k1 51 #[.map (some s.M)]
  b2 : Bk w s.k2 24 #[.slice s.Ae s.es.length s.ce]
  b3 : Bk w s.k3 24 #[.slice s.Ax s.xs.length s.cx]
  b4 : Bk w s.k4 52 #[.func (.func 14) #[] s.caps]
  re : RdP w w.heap.size s.Ae s.es
  rx : RdP w w.heap.size s.Ax s.xs
  cf : Cf w
structure Sx.Ok (s : Sx) : Prop where
  e8 : s.es.length ≤ 8
  x8 : s.xs.length ≤ 8
  se : ∀ p ∈ s.es, p.1.size ≤ 9223372036854775807
  sx : ∀ p ∈ s.xs, p.1.size ≤ 9223372036854775807
def Sx.FoundAt (s : Sx) (w : World) (a u : Nat) (d : DataW Value) : Prop :=
  ∃ A c l n, d = .held (.agg #[.slice A l.length c, .int .i64 n]) ∧ l.length ≤ c ∧ RdQ w w.heap.size A l ∧ BP s.es s.xs a (bitsOf u) l n
structure Sx.Kn (s : Sx) (w : World) (N : Nat) (D : DataW Value) : Prop where
  own : w.ownsMap Tryd.prog 54 Rv s.M N D
  found : ∀ a u : Nat, a ≤ s.es.length → u < 256 → Maps.has D (pk a u) = true → s.FoundAt w a u (D.atKey (pk a u) (.held zF))

theorem gtrans {a b c : World} {row : Option Nat} (h : a.grownBy b row) (k : b.grownBy c row) : a.grownBy c row :=
  ⟨k.os.trans h.os, k.tape.trans h.tape, k.output.trans h.output, Nat.le_trans h.size k.size, fun i hi hne => (k.block i (Nat.lt_of_lt_of_le hi h.size) hne).trans (h.block i hi hne)⟩
theorem gbelow {a b : World} (h : Below a.heap.size a b) (row : Option Nat) : a.grownBy b row := ⟨h.os, h.tape, h.output, h.size, fun i hi _ => h.block i hi⟩
theorem own_none {w : World} {N M : Nat} {D : DataW Value} {P : Program} {k : TypeId} (h : w.ownsMap P k Rv M N D) : ∀ o, w.cell? ⟨M, o, none⟩ = none := by
  obtain ⟨es, clock, hb, _⟩ := h
  intro o
  simp [World.cell?, hb]
theorem Bk.neM {w : World} {g : Nat} {t : TypeId} {cs : Array Value} {N M : Nat} {D : DataW Value} {P : Program} {k : TypeId} (h : Bk w g t cs) (hM : w.ownsMap P k Rv M N D) : g ≠ M := by
  obtain ⟨es, clock, hb, _⟩ := hM
  rintro rfl
  unfold Bk at h
  rw [hb] at h; cases h
theorem cf_ne {w : World} {N M : Nat} {D : DataW Value} {P : Program} {k : TypeId} (h : Cf w) (hM : w.ownsMap P k Rv M N D) : 0 ≠ M := by
  intro e
  have := own_none hM 0
  rw [← e, h.2.1] at this; cases this
theorem Cf.grown {w w' : World} {N M : Nat} {D : DataW Value} {P : Program} {k : TypeId} (h : Cf w) (hM : w.ownsMap P k Rv M N D) (hg : w.grownBy w' (some M)) : Cf w' := by
  have h0 := cf_ne h hM
  obtain ⟨hs, a, b, c, d, e, f, g, i, j, k⟩ := h
  have hk : ∀ o, w'.cell? ⟨0, o, none⟩ = w.cell? ⟨0, o, none⟩ := fun o => World.cell?_of_block (a := ⟨0, o, none⟩) (hg.block 0 hs (fun e => h0 (by injection e)))
  exact ⟨Nat.lt_of_lt_of_le hs hg.size, (hk _).trans a, (hk _).trans b, (hk _).trans c, (hk _).trans d, (hk _).trans e, (hk _).trans f, (hk _).trans g, (hk _).trans i, (hk _).trans j, (hk _).trans k⟩
theorem Sx.Env.grown {s : Sx} {w w' : World} {N : Nat} {D : DataW Value} {P : Program} {k : TypeId} (h : s.Env w) (hM : w.ownsMap P k Rv s.M N D) (hg : w.grownBy w' (some s.M)) : s.Env w' :=
  ⟨h.b1.grown hg (fun e => h.b1.neM hM (by injection e)), h.b2.grown hg (fun e => h.b2.neM hM (by injection e)), h.b3.grown hg (fun e => h.b3.neM hM (by injection e)), h.b4.grown hg (fun e => h.b4.neM hM (by injection e)),
   h.re.grown hg (own_none hM), h.rx.grown hg (own_none hM), h.cf.grown hM hg⟩
theorem Sx.Env.next {s : Sx} {w w' : World} (h : s.Env w) (hb : Below w.heap.size w w') : s.Env w' :=
  ⟨h.b1.next hb, h.b2.next hb, h.b3.next hb, h.b4.next hb, h.re.next hb, h.rx.next hb, h.cf.next hb⟩
theorem Sx.FoundAt.grown {s : Sx} {w w' : World} {a u : Nat} {d : DataW Value} (h : s.FoundAt w a u d) (hM : ∀ o, w.cell? ⟨s.M, o, none⟩ = none) (hg : w.grownBy w' (some s.M)) : s.FoundAt w' a u d := by
  obtain ⟨A, c, l, n, h1, h2, h3, h4⟩ := h
  exact ⟨A, c, l, n, h1, h2, h3.grown hg hM, h4⟩
theorem Sx.Kn.next {s : Sx} {w w' : World} {N : Nat} {D : DataW Value} (h : s.Kn w N D) (hb : Below w.heap.size w w') : s.Kn w' N D :=
  ⟨h.own.kept (gbelow hb none) (by simp), fun a u ha hu hh => (h.found a u ha hu hh).grown (own_none h.own) (gbelow hb _)⟩
theorem Sx.Kn.put {s : Sx} {w w' : World} {N : Nat} {D : DataW Value} {a u : Nat} {v : Value} (hs : s.Ok) (h : s.Kn w N D) (ha : a ≤ s.es.length) (hu : u < 256) (hf : s.FoundAt w a u (.held v)) (ho : w'.ownsMap Tryd.prog 54 Rv s.M (N + 1) (D.put (pk a u) (.held v))) (hg : w.grownBy w' (some s.M)) :
    s.Kn w' (N + 1) (D.put (pk a u) (.held v)) := by
  have e8 := hs.e8
  have hK : WideAt.IsKeyLit (pk a u) := by unfold pk; exact trivial
  refine ⟨ho, fun a' u' ha' hu' hh => ?_⟩
  by_cases he : pk a' u' = pk a u
  · obtain ⟨h1, h2⟩ := pk_inj (by omega) (by omega) (by omega) (by omega) (by omega) (by omega) (by omega) (by omega) he
    obtain rfl : a' = a := by omega
    obtain rfl : u' = u := by omega
    rw [Maps.atKey_put_same h.own.isMap hK]
    exact hf.grown (own_none h.own) hg
  · rw [Maps.has_put_other he] at hh
    rw [Maps.atKey_put_other he]
    exact (h.found a' u' ha' hu' hh).grown (own_none h.own) hg

/-! ### blocks that hold a list and its contradiction -/
theorem gset {w W : World} {row : Option Nat} (h : w.grownBy W row) {p : Addr} (hp : w.heap.size ≤ p.block) (u : Value) : w.grownBy (W.setCell p u) row :=
  ⟨h.os, h.tape, h.output, by simpa using h.size, fun i hi hne => (Below.heap_setCell W p u i (by omega)).trans (h.block i hi hne)⟩
theorem galloc {w W : World} {row : Option Nat} (h : w.grownBy W row) (o : Obj) : w.grownBy (W.alloc o) row := grownBy_alloc' h o
theorem gnext {w W W' : World} {row : Option Nat} (h : w.grownBy W row) (hb : Below W.heap.size W W') : w.grownBy W' row := gtrans h (gbelow hb row)
/-- a list of pairs does not lie in such a block -/
theorem rdq_ne {w : World} {B : Nat} {b o : Nat} {l : Prs} {g : Nat} {t : TypeId} {Ax : Option Addr} {n c : Nat} {x : Value} (h : RdQ w B (some ⟨b, o, none⟩) l) (hl : 0 < l.length) (hk : Bk w g t #[.slice Ax n c, x]) : b ≠ g := by
  rintro rfl
  obtain ⟨b', o', e, _, h0, h1⟩ := Rd2.at_ h hl
  injection e with e
  injection e with e1 e2 e3
  subst e1 e2
  rw [hk.cell] at h0 h1
  rw [Nat.zero_mul, Nat.add_zero] at h0 h1
  rcases o with _ | o
  · simp [prF] at h0
  · rcases o with _ | o
    · simp at h1
    · simp at h0
theorem rdq_set {w : World} {A : Option Addr} {l : Prs} {g i : Nat} {t : TypeId} {Ax : Option Addr} {n c : Nat} {x : Value} (h : RdQ w w.heap.size A l) (hk : Bk w g t #[.slice Ax n c, x]) (u : Value) : RdQ (w.setCell ⟨g, i, none⟩ u) (w.setCell ⟨g, i, none⟩ u).heap.size A l := by
  refine ⟨h.1, fun hn => ?_⟩
  obtain ⟨b, o, rfl, hb, hc⟩ := h.2 hn
  have hne := rdq_ne h hn hk
  refine ⟨b, o, rfl, by simpa using hb, fun j v hv => ?_⟩
  rw [← hc j v hv]
  exact World.cell?_setCell_other w _ _ u (fun e => by injection e with e1; exact hne e1.symm)
theorem Sx.FoundAt.set {s : Sx} {w : World} {a u : Nat} {d : DataW Value} {g i : Nat} {t : TypeId} {Ax : Option Addr} {n c : Nat} {x : Value} (h : s.FoundAt w a u d) (hk : Bk w g t #[.slice Ax n c, x]) (v : Value) : s.FoundAt (w.setCell ⟨g, i, none⟩ v) a u d := by
  obtain ⟨A, c', l, m, h1, h2, h3, h4⟩ := h
  exact ⟨A, c', l, m, h1, h2, rdq_set h3 hk v, h4⟩
theorem Sx.Kn.set {s : Sx} {w : World} {N : Nat} {D : DataW Value} {g i : Nat} {t : TypeId} {Ax : Option Addr} {n c : Nat} {x : Value} (h : s.Kn w N D) (hk : Bk w g t #[.slice Ax n c, x]) (v : Value) : s.Kn (w.setCell ⟨g, i, none⟩ v) N D :=
  ⟨h.own.setCell (fun e => hk.neM h.own e.symm) v, fun a u ha hu hh => (h.found a u ha hu hh).set hk v⟩
theorem Bk.pairSet {w : World} {g : Nat} {t : TypeId} {x y x' y' : Value} (h : Bk w g t #[x, y]) : Bk ((w.setCell ⟨g, 0, none⟩ x').setCell ⟨g, 1, none⟩ y') g t #[x', y'] := (h.set 0 x').set 1 y'
theorem Bk.sndSet {w : World} {g : Nat} {t : TypeId} {x y y' : Value} (h : Bk w g t #[x, y]) : Bk (w.setCell ⟨g, 1, none⟩ y') g t #[x, y'] := h.set 1 y'
theorem own_lit {W : World} {g base : Nat} {e : TypeId} {x y : Value} (h : at? W g = some (.cells #[x, y] e (0, 0))) (hb : base ≤ g) : W.ownsRow base e 2 (.slice (some ⟨g, 0, none⟩) 1 1) 1 [x, y] :=
  ⟨rfl, .inr ⟨g, 1, #[x, y], rfl, hb, h, Nat.le_refl _, by simp [maxLen], by simp, by simp⟩⟩

/-! ### the map's operations in the walk -/
section
variable {P : Program} (w : World) {ops : Array Oper} {rest : List Oper} {o : Oper} {a : Act} {Q : Exit → Act → World → Prop}
theorem wpList_lookup_held (hg : o.guard = none) (m x : Operand) (t : TypeId) (hop : o.op = Op.lookup t m x true)
    (k e : TypeId) (K : Go.Maps.Keyed P k) (ht : P.underlying t = some (.map k e)) {z : Value} (hz : (zeroValue e).run P w = .ok z w) (b n : Nat) (D : DataW Value)
    (hm : a.eval m = .map (some b)) (hown : w.ownsMap P k Rv b n D) (key : Value) (kl : Lit) (hx : a.eval x = key) (hkey : keyOf P k key = some kl) (v0 : Value) (bb : Bool) (hv0 : D.atKey kl (.held z) = .held v0) (hb : Maps.has D kl = bb)
    (hK : wpList P ops Q rest (a.put o.dst (.tuple #[v0, .bool bb])) w) :
    wpList P ops Q (o :: rest) a w :=
  wpList_lookup_own_ok w hg m x t hop k e K ht Rv hz (.held z) [] rfl b n D hm hown key kl hx hkey (fun v ps hv => by
    rw [hv0] at hv
    simp only [Rv, Option.some.injEq, Prod.mk.injEq, DataW.held.injEq] at hv
    rw [hv.1, hb]
    exact hK)
end
end Go.Proofs.YthmipmdpdfdlaaaDoor
