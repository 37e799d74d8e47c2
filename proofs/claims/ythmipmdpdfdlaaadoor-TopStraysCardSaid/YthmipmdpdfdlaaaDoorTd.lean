/- plate: Distance. -/
import Derived.Test.YthmipmdpdfdlaaaDoorTc
import Derived.Deep.RegionHeld3
import Derived.IntWalk
set_option maxRecDepth 100000
set_option linter.unusedVariables false
set_option linter.unusedSimpArgs false
namespace Go.Proofs.YthmipmdpdfdlaaaDoor
open Go.RowKit

/-! ### arrays of eleven numbers -/
def arr (f : Nat → Int) : Array Value := ((List.range 11).map fun i => Value.int .i64 (f i)).toArray
def upd (f : Nat → Int) (k : Nat) (v : Int) : Nat → Int := fun i => if i = k then v else f i
theorem arr_get (f : Nat → Int) {i : Nat} (h : i < 11) : (arr f)[i]? = some (.int .i64 (f i)) := by
  simp [arr, h]
theorem arr_set (f : Nat → Int) {k : Nat} (h : k < 11) (v : Int) : (arr f).setIfInBounds k (.int .i64 v) = arr (upd f k v) := by
  apply Array.ext_getElem?
  intro i
  by_cases hik : k = i
  · subst hik
    rw [arr_get _ h]
    simp [arr, upd, h]
  · rw [Array.getElem?_setIfInBounds_ne hik]
    by_cases hi : i < 11
    · rw [arr_get _ hi, arr_get _ hi, upd, if_neg (Ne.symm hik)]
    · simp [arr, hi]
theorem arr_zero : (#[.int .i64 0, .int .i64 0, .int .i64 0, .int .i64 0, .int .i64 0, .int .i64 0, .int .i64 0, .int .i64 0, .int .i64 0, .int .i64 0, .int .i64 0] : Array Value) = arr (fun _ => 0) := rfl
theorem arr_lit (f : Nat → Int) : arr f = #[.int .i64 (f 0), .int .i64 (f 1), .int .i64 (f 2), .int .i64 (f 3), .int .i64 (f 4), .int .i64 (f 5), .int .i64 (f 6), .int .i64 (f 7), .int .i64 (f 8), .int .i64 (f 9), .int .i64 (f 10)] := rfl
theorem Bk.arrAt {w : World} {g : Nat} {f : Nat → Int} (h : Bk w g 48 (arr f)) {i : Nat} (hi : i < 11) : w.cell? ⟨g, i, none⟩ = some (.int .i64 (f i)) := (h.cell i).trans (arr_get f hi)
theorem Bk.arrSet {w : World} {g : Nat} {f : Nat → Int} (h : Bk w g 48 (arr f)) {i : Nat} (hi : i < 11) (v : Int) : Bk (w.setCell ⟨g, i, none⟩ (.int .i64 v)) g 48 (arr (upd f i v)) := by
  have := h.set i (.int .i64 v)
  rwa [arr_set f hi] at this
theorem run_min3 {P : Program} (w : World) (ts : Array TypeId) (t : TypeId) (k k' k'' : IntKind) (x y z : Int) :
    (Builtin.min_ ts t #[.int k x, .int k' y, .int k'' z]).run P w = .ok (.int k (min x (min y z))) w := by
  have e : (if z < (if y < x then y else x) then z else (if y < x then y else x)) = min x (min y z) := by
    split <;> split <;> omega
  rw [← e]
  simp [Builtin.min_, Builtin.min2]
theorem it_set {w : World} {k : Nat} {s : ByteArray} {pos : Nat} (h : w.heap[k]? = some (.stringIter s pos)) {p : Addr} (hp : k ≠ p.block) (u : Value) : (w.setCell p u).heap[k]? = some (.stringIter s pos) := (Below.heap_setCell w p u k hp).trans h
theorem setRow_other (W : World) (B k : Nat) (cs : Array Value) (h : k ≠ B) : (W.setRow B cs).heap[k]? = W.heap[k]? := by
  simp [World.setRow, Array.getElem?_modify, Ne.symm h]
theorem Bk.setRow {W : World} {B : Nat} {t : TypeId} {cur : Array Value} (h : Bk W B t cur) (cs : Array Value) : Bk (W.setRow B cs) B t cs := by
  unfold Bk at h ⊢
  simp [World.setRow, Array.getElem?_modify, h]
theorem Bk.setRowFar {W : World} {B b : Nat} {t : TypeId} {cur : Array Value} (h : Bk W b t cur) (hb : b ≠ B) (cs : Array Value) : Bk (W.setRow B cs) b t cur := (setRow_other W B b cs hb).trans h
theorem setRow_size (W : World) (B : Nat) (cs : Array Value) : (W.setRow B cs).heap.size = W.heap.size := by simp [World.setRow]
theorem below_setRow {A : Nat} {w W : World} {B : Nat} (h : Below A w W) (hB : A ≤ B) (cs : Array Value) : Below A w (W.setRow B cs) :=
  h.trans ⟨rfl, rfl, rfl, by rw [setRow_size]; exact Nat.le_refl _, fun i hi => setRow_other W B i cs (by omega)⟩
theorem wpList_store_all {P : Program} (w : World) {ops : Array Oper} {rest : List Oper} {o : Oper} {a : Act} {Q : Exit → Act → World → Prop} {B : Nat} {T : TypeId} {cur cs : Array Value}
    (hg : o.guard = none) (p x : Operand) (t : TypeId) (hop : o.op = .store t p x) (hp : a.eval p = .pointer (some ⟨B, 0, none⟩)) (hx : a.eval x = .agg cs) (h0 : Bk w B T cur) (hsz : cs.size = cur.size) (hsize : ∀ W : World, (sizeOf t).run P W = .ok cs.size W)
    (h1 : ∀ v ∈ cs.toList, v.oneCell' = true) (hK : wpList P ops Q rest (a.put o.dst undef) (w.setRow B cs)) : wpList P ops Q (o :: rest) a w := by
  refine wpList_plain hg fun K' hK' => ?_
  have hst := run_storeCells_at P B 0 T cs.toList 0 cur w h0 (by simp; omega) h1
  have e : (cur.toList.take (0 + 0) ++ cs.toList ++ cur.toList.drop (0 + 0 + cs.toList.length)).toArray = cs := by
    rw [Nat.zero_add, Nat.zero_add, List.take_zero, List.nil_append, List.drop_eq_nil_of_le (by simp; omega), List.append_nil]
  rw [e] at hst
  unfold Oper.wp
  simp [execOp, hop, hp, hx, Instr.storeAt, Instr.sureAddr, storeVar, Value.cells, hsize, hst, Result.andThen]
  exact hK' _ _ hK
def cellOr (w : World) (a : Addr) : Value := (w.cell? a).getD (.bool false)
theorem cellOr_of {w : World} {a : Addr} {v : Value} (h : w.cell? a = some v) : w.cell? a = some (cellOr w a) := by rw [cellOr, h]; rfl
theorem Bk.iterAt {w : World} {g : Nat} {t : TypeId} {cs : Array Value} (h : Bk w g t cs) {k : Nat} (hk : g ≠ k) (s : ByteArray) (pos : Nat) : Bk (w.iterAt k s pos) g t cs := (Lib.iterAt_other w k g s pos hk).trans h

/-! ### the first signs, the last one first -/
def rv (s : ByteArray) (k : Nat) : Sgs := (s.data.toList.take k).reverse
theorem rv_succ (s : ByteArray) {k : Nat} (h : k < s.size) : rv s (k + 1) = (s[k]'h) :: rv s k := by
  unfold rv
  rw [List.take_succ_eq_append_getElem (by simpa using h), List.reverse_append]
  rfl
theorem rv_all (s : ByteArray) : rv s s.size = s.data.toList.reverse := by
  unfold rv; rw [List.take_of_length_le (by simp)]
theorem rv_len (s : ByteArray) {k : Nat} (h : k ≤ s.size) : (rv s k).length = k := by
  unfold rv; simp; omega
theorem rv_zero (s : ByteArray) : rv s 0 = [] := rfl
/-- what Distance returns -/
def dsV (a b : ByteArray) : Int := if plB a = true ∧ plB b = true then dist a.data.toList b.data.toList else 0
def dsE (a b : ByteArray) : Int := if plB a = true ∧ plB b = true then 0 else 1
theorem pl_asc {s : ByteArray} (h : plB s = true) {i : Nat} (hi : i < s.size) : (s[i]'hi).toNat < 128 := by
  have := ((plB_iff s).1 h).2 i hi
  simp [sgB] at this; omega
theorem iter_at {w : World} {k : Nat} {s : ByteArray} {pos : Nat} (h : at? w k = some (.stringIter s pos)) : w.heap[k]? = some (.stringIter s pos) := h
theorem it_lt {w : World} {k : Nat} {s : ByteArray} {pos : Nat} (h : w.heap[k]? = some (.stringIter s pos)) : k < w.heap.size := (Array.getElem?_eq_some_iff.1 h).1
theorem it_next {w w' : World} {k : Nat} {s : ByteArray} {pos : Nat} (h : w.heap[k]? = some (.stringIter s pos)) (hb : Below w.heap.size w w') : w'.heap[k]? = some (.stringIter s pos) := (hb.block k (it_lt h)).trans h
theorem it_pos {w : World} {k : Nat} {s : ByteArray} {pos : Nat} (h : w.heap[k]? = some (.stringIter s pos)) : w.iterPos k = pos := by
  simp [World.iterPos, h]
set_option maxHeartbeats 4000000 in
theorem Distance_any (a b : ByteArray) (w : World) (ha : a.size ≤ 9223372036854775807) (hb : b.size ≤ 9223372036854775807) (hC : Cf w) :
    Calls Tryd.prog 8 #[.string a, .string b] w fun e w' => e = .returned (.tuple #[.int .i64 (dsV a b), .int .i64 (dsE a b)]) ∧ Below w.heap.size w w' := by
  by_cases pa : plB a = true
  · by_cases pb : plB b = true
    · have hv : dsV a b = dist a.data.toList b.data.toList := by rw [dsV, if_pos ⟨pa, pb⟩]
      have he : dsE a b = 0 := by rw [dsE, if_pos ⟨pa, pb⟩]
      rw [hv, he]
      clear hv he
      have HPA := Lib.hid pa
      have HPB := Lib.hid pb
      have HC := Lib.hid hC
      clear pa pb hC
      have hna := ((plB_iff a).1 HPA.out).1
      have hnb := ((plB_iff b).1 HPB.out).1
      go_enter Tryd.func8, Tryd.ntmps8
      go_wp2_with fail
      refine (PValid_any a _ ha).mono ?_
      rintro e W1 ⟨rfl, hb1⟩
      rw [HPA.out]
      go_wp2_with fail
      refine (PValid_any b _ hb).mono ?_
      rintro e W2 ⟨rfl, hb2⟩
      rw [HPB.out]
      have hW2 := Lib.hid (bt hb2 hb1)
      clear hb1 hb2
      go_wp2_with fail
      obtain ⟨B0, hB0⟩ : ∃ B0, B0 = W2.heap.size := ⟨_, rfl⟩
      have HWB : Hid (w.heap.size ≤ B0) := by show _ ≤ _; rw [hB0]; exact hW2.out.size
      have HCF : Hid (Cf w) := HC.out
      obtain ⟨U, hU⟩ : ∃ Zz, Zz = (W2.alloc (.cells #[.int .i64 0, .int .i64 0, .int .i64 0, .int .i64 0, .int .i64 0, .int .i64 0, .int .i64 0, .int .i64 0, .int .i64 0, .int .i64 0, .int .i64 0] 48)).alloc (.cells #[.int .i64 0, .int .i64 0, .int .i64 0, .int .i64 0, .int .i64 0, .int .i64 0, .int .i64 0, .int .i64 0, .int .i64 0, .int .i64 0, .int .i64 0] 48) := ⟨_, rfl⟩
      have HU0 : Hid (Bk U B0 48 (arr fun _ => 0)) := by rw [hU, hB0]; exact (Bk.new _ _ _).alloc _
      have HU1 : Hid (Bk U (B0 + 1) 48 (arr fun _ => 0)) := by
        rw [hU, hB0]
        have := Bk.new (W2.alloc (.cells (arr fun _ => 0) 48)) 48 (arr fun _ => 0)
        rwa [show (W2.alloc (.cells (arr fun _ => 0) 48)).heap.size = W2.heap.size + 1 from by simp] at this
      have HUW : Hid (Below w.heap.size w U) := by
        rw [hU]; exact (hW2.out.alloc hW2.out.size _).alloc (by have := hW2.out.size; simp; omega) _
      rw [← hU, ← hB0]
      clear hU hB0
      go_loopw [8, 24] (fun _ i wr => ∃ (k : Nat) (f : Nat → Int), i = .int .i64 (k : Int) ∧ k ≤ b.size + 1 ∧ Bk wr B0 48 (arr f) ∧ (∀ j, j < k → f j = 2 * (j : Int)) ∧ Bk wr (B0 + 1) 48 (arr fun _ => 0) ∧ Below w.heap.size w wr) (fun _ i _ => b.size + 1 - (intOf i).toNat)
      case atStart => exact ⟨0, _, rfl, Nat.zero_le _, HU0.out, fun j h => absurd h (by omega), HU1.out, HUW.out⟩
      case round =>
        obtain ⟨k, f, rfl, hk, k0, hf, k1, hbw⟩ := hrel
        have HF := Lib.hid hf
        have HK0 := Lib.hid k0
        have HK1 := Lib.hid k1
        have HBW := Lib.hid hbw
        clear hf k0 k1 hbw
        by_cases hkb : k < b.size + 1
        · have c6 := HK0.out.arrAt (i := k) (by omega)
          have f6 := HK0.out.frozen k
          have hk1 : (k : Int) < 11 := by omega
          have hk2 : k < 11 := by omega
          go_wp2
          go_roundw
          case rel => exact ⟨k + 1, upd f k (2 * (k : Int)), by go_num, by omega, HK0.out.arrSet (by omega) _, fun j hj => by
            unfold upd
            split
            · omega
            · exact HF.out j (by omega), HK1.out.far (p := ⟨B0, k, none⟩) (by show B0 + 1 ≠ B0; omega) _, HBW.out.setCell (p := ⟨B0, k, none⟩) HWB.out _⟩
          case measure => simp [intOf]; omega
        · obtain rfl : k = b.size + 1 := by omega
          have hsz := HBW.out.size
          go_wp2
          obtain ⟨K0, hK0⟩ : ∃ K0, K0 = wr.heap.size := ⟨_, rfl⟩
          obtain ⟨U2, hU2⟩ : ∃ Zz, Zz = wr.iter a 0 := ⟨_, rfl⟩
          have HB01 : Hid (B0 + 1 < K0) := by show _ < _; rw [hK0]; exact HK1.out.lt
          have HIA : Hid (U2.heap[K0]? = some (.stringIter a 0)) := by show _ = _; rw [hU2, hK0]; exact heap_alloc_new _ _
          have HX0 : Hid (Bk U2 B0 48 (arr f)) := by rw [hU2]; exact HK0.out.alloc _
          have HX1 : Hid (Bk U2 (B0 + 1) 48 (arr fun _ => 0)) := by rw [hU2]; exact HK1.out.alloc _
          have HXW : Hid (Below w.heap.size w U2) := by rw [hU2]; exact HBW.out.alloc hsz _
          rw [← hU2, ← hK0]
          clear hU2 hK0
          go_loopw [9, 10, 11, 12, 43] (fun _ _ _ _ _ wr => ∃ (pos : Nat) (f g : Nat → Int), pos ≤ a.size ∧ Bk wr B0 48 (arr f) ∧ (∀ j, j ≤ b.size → f j = ed (rv a pos) (rv b j)) ∧ Bk wr (B0 + 1) 48 (arr g) ∧ wr.heap[K0]? = some (.stringIter a pos) ∧ Below w.heap.size w wr) (fun _ _ _ _ _ wr => a.size - wr.iterPos K0)
          case atStart => exact ⟨0, f, _, Nat.zero_le _, HX0.out, fun j hj => by rw [HF.out j (by omega), rv_zero, ed_nil, rv_len b hj], HX1.out, HIA.out, HXW.out⟩
          case round =>
            obtain ⟨pos, f, g, hps, k0, hf, k1, hita, hbw⟩ := hrel
            have HK0 := Lib.hid k0
            have HK1 := Lib.hid k1
            have HF := Lib.hid hf
            have HIA := Lib.hid hita
            have HIM := Lib.hid (it_pos hita)
            have HBW := Lib.hid hbw
            clear k0 k1 hf hita hbw
            by_cases hpa : pos < a.size
            · have hnx : ∀ ty, (Instr.next (.pointer (some ⟨K0, 0, none⟩)) true ty).run Tryd.prog wr = .ok (.tuple #[.bool true, .int .i64 pos, .int .i32 ((a[pos]'hpa).toNat : Int)]) (wr.iterAt K0 a (pos + 1)) := fun ty => Lib.run_next_ascii_at wr K0 a pos ty HIA.out hpa (pl_asc HPA.out hpa)
              obtain ⟨x, hx⟩ : ∃ x, x = a[pos]'hpa := ⟨_, rfl⟩
              rw [← hx] at hnx
              have HX := Lib.hid hx
              clear hx
              have h0B := HB01.out
              have f7 := (HK1.out.iterAt (k := K0) (by omega) a (pos + 1)).frozen 0
              have c7 := (HK1.out.iterAt (k := K0) (by omega) a (pos + 1)).arrAt (i := 0) (by omega)
              go_wp2
              clear f7 c7 hnx
              obtain ⟨V, hV⟩ : ∃ Zz, Zz = ((wr.iterAt K0 a (pos + 1)).setCell ⟨B0 + 1, 0, none⟩ (.int .i64 (2 * ((pos : Int) + 1)))).iter b 0 := ⟨_, rfl⟩
              have hsw : ((wr.iterAt K0 a (pos + 1)).setCell ⟨B0 + 1, 0, none⟩ (.int .i64 (2 * ((pos : Int) + 1)))).heap.size = wr.heap.size := by simp [Lib.iterAt_size]
              obtain ⟨K1, hK1⟩ : ∃ K1, K1 = wr.heap.size := ⟨_, rfl⟩
              have hlt0 := it_lt HIA.out
              have hV9 := hV
              unfold World.iter at hV9
              have HVA : Hid (V.heap[K0]? = some (.stringIter a (pos + 1))) := by
                show _ = _
                rw [hV9, Below.heap_alloc _ _ _ (by rw [hsw]; exact hlt0)]
                exact it_set (Lib.iterAt_heap _ _ _ _ _ HIA.out) (by show K0 ≠ B0 + 1; omega) _
              have HVB : Hid (V.heap[K1]? = some (.stringIter b 0)) := by
                show _ = _
                rw [hV9, hK1, ← hsw]; exact heap_alloc_new _ _
              have HV0 : Hid (Bk V B0 48 (arr f)) := by
                rw [hV9]
                exact Bk.alloc (Bk.far (Bk.iterAt HK0.out (by omega) _ _) (p := ⟨B0 + 1, 0, none⟩) (by show B0 ≠ B0 + 1; omega) _) _
              have HV1 : Hid (Bk V (B0 + 1) 48 (arr (upd g 0 (2 * ((pos : Int) + 1))))) := by
                rw [hV9]
                exact Bk.alloc (Bk.arrSet (Bk.iterAt HK1.out (by omega) _ _) (by omega) _) _
              have HVW : Hid (Below w.heap.size w V) := by
                rw [hV9]
                have h9 := HWB.out
                exact ((Lib.below_iterAt HBW.out (by omega) a (pos + 1)).setCell (p := ⟨B0 + 1, 0, none⟩) (by show _ ≤ B0 + 1; omega) _).alloc (by rw [hsw]; have := HBW.out.size; omega) _
              have HK01 : Hid (K0 < K1) := by show _ < _; omega
              rw [← hV, show (wr.iterAt K0 a (pos + 1)).heap.size = wr.heap.size from Lib.iterAt_size _ _ _ _, ← hK1]
              clear hV hV9 hsw hK1 hlt0
              have HFE := HF
              have HFB : Hid (∀ q, q ≤ b.size → 0 ≤ f q ∧ f q ≤ 40) := fun q hq => by
                rw [HF.out q hq]
                have h8 := ed_lo (rv a pos) (rv b q)
                have h9 := ed_hi (rv a pos) (rv b q)
                rw [rv_len a (by omega), rv_len b (by omega)] at h9
                omega
              go_loopw [11, 12] (fun _ _ ws => ∃ (q : Nat) (g : Nat → Int), q ≤ b.size ∧ Bk ws B0 48 (arr f) ∧ Bk ws (B0 + 1) 48 (arr g) ∧ (∀ j, j ≤ q → g j = ed (x :: rv a pos) (rv b j)) ∧ ws.heap[K0]? = some (.stringIter a (pos + 1)) ∧ ws.heap[K1]? = some (.stringIter b q) ∧ Below w.heap.size w ws) (fun _ _ ws => b.size - ws.iterPos K1)
              case atStart => exact ⟨0, _, Nat.zero_le _, HV0.out, HV1.out, fun j hj => (by obtain rfl : j = 0 := (by omega); rw [rv_zero, ed_nil2]; simp [upd, rv_len a (by omega : pos ≤ a.size)]), HVA.out, HVB.out, HVW.out⟩
              case round =>
                obtain ⟨q, g, hq, k0, k1, hg, hita, hitb, hbw⟩ := hrel
                have HK0 := Lib.hid k0
                have HK1 := Lib.hid k1
                have HG := Lib.hid hg
                have HIA := Lib.hid hita
                have HIB := Lib.hid hitb
                have HBW := Lib.hid hbw
                clear k0 k1 hg hita hitb hbw
                by_cases hqb : q < b.size
                · have hnx : ∀ ty, (Instr.next (.pointer (some ⟨K1, 0, none⟩)) true ty).run Tryd.prog wr = .ok (.tuple #[.bool true, .int .i64 q, .int .i32 ((b[q]'hqb).toNat : Int)]) (wr.iterAt K1 b (q + 1)) := fun ty => Lib.run_next_ascii_at wr K1 b q ty HIB.out hqb (pl_asc HPB.out hqb)
                  obtain ⟨y, hy⟩ : ∃ y, y = b[q]'hqb := ⟨_, rfl⟩
                  rw [← hy] at hnx
                  have HY := Lib.hid hy
                  clear hy
                  go_wp2
                  obtain ⟨V, hV⟩ : ∃ Zz, Zz = wr.iterAt K1 b (q + 1) := ⟨_, rfl⟩
                  have HVA : Hid (V.heap[K0]? = some (.stringIter a (pos + 1))) := by show _ = _; rw [hV, Lib.iterAt_other _ _ _ _ _ (by have := HK01.out; omega)]; exact HIA.out
                  have HVB : Hid (V.heap[K1]? = some (.stringIter b (q + 1))) := by show _ = _; rw [hV]; exact Lib.iterAt_heap _ _ _ _ _ HIB.out
                  have HV0 : Hid (Bk V B0 48 (arr f)) := by rw [hV]; exact Bk.iterAt HK0.out (by have := HB01.out; have := HK01.out; omega) _ _
                  have HV1 : Hid (Bk V (B0 + 1) 48 (arr g)) := by rw [hV]; exact Bk.iterAt HK1.out (by have := HB01.out; have := HK01.out; omega) _ _
                  have HVW : Hid (Below w.heap.size w V) := by rw [hV]; exact Lib.below_iterAt HBW.out (by have := HB01.out; have := HK01.out; have := HWB.out; omega) _ _
                  rw [← hV]
                  clear hV hnx
                  have hf0 := HFB.out q (by omega)
                  have hf1 := HFB.out (q + 1) (by omega)
                  have hgq : 0 ≤ g q ∧ g q ≤ 44 := by
                    rw [HG.out q (Nat.le_refl _)]
                    have h8 := ed_lo (x :: rv a pos) (rv b q)
                    have h9 := ed_hi (x :: rv a pos) (rv b q)
                    rw [List.length_cons, rv_len a (by omega), rv_len b (by omega)] at h9
                    omega
                  obtain ⟨F0, hF0⟩ : ∃ F0, f q = F0 := ⟨_, rfl⟩
                  obtain ⟨F1, hF1⟩ : ∃ F1, f (q + 1) = F1 := ⟨_, rfl⟩
                  obtain ⟨G0, hG0⟩ : ∃ G0, g q = G0 := ⟨_, rfl⟩
                  obtain ⟨rp, hrp⟩ : ∃ r, repl x y = r := ⟨_, rfl⟩
                  have hr0 := repl_lo x y
                  have hr2 := repl_hi x y
                  rw [hF0] at hf0
                  rw [hF1] at hf1
                  rw [hG0] at hgq
                  rw [hrp] at hr0 hr2
                  have HSS : Hid (∀ W, Below V.heap.size V W → W.cell? ⟨B0, q, none⟩ = some (.int .i64 F0) ∧ W.cell? ⟨B0, q + 1, none⟩ = some (.int .i64 F1) ∧ W.cell? ⟨B0 + 1, q, none⟩ = some (.int .i64 G0) ∧ W.cell? ⟨B0 + 1, q + 1, none⟩ = some (cellOr W ⟨B0 + 1, q + 1, none⟩) ∧ W.frozen? ⟨B0 + 1, q + 1, none⟩ = false) := fun W hW => by
                    rw [← hF0, ← hF1, ← hG0]
                    exact ⟨(HV0.out.next hW).arrAt (by omega), (HV0.out.next hW).arrAt (by omega), (HV1.out.next hW).arrAt (by omega), cellOr_of ((HV1.out.next hW).arrAt (by omega)), (HV1.out.next hW).frozen _⟩
                  have HST : Hid (∀ W v, Below V.heap.size V W → ((W.setCell ⟨B0 + 1, q + 1, none⟩ v).cell? ⟨B0, q, none⟩ = some (.int .i64 F0) ∧ (W.setCell ⟨B0 + 1, q + 1, none⟩ v).cell? ⟨B0, q + 1, none⟩ = some (.int .i64 F1) ∧ (W.setCell ⟨B0 + 1, q + 1, none⟩ v).cell? ⟨B0 + 1, q, none⟩ = some (.int .i64 G0) ∧ (W.setCell ⟨B0 + 1, q + 1, none⟩ v).cell? ⟨B0 + 1, q + 1, none⟩ = some (cellOr (W.setCell ⟨B0 + 1, q + 1, none⟩ v) ⟨B0 + 1, q + 1, none⟩) ∧ (W.setCell ⟨B0 + 1, q + 1, none⟩ v).frozen? ⟨B0 + 1, q + 1, none⟩ = false)) := fun W v hW => by
                    have k0 := Bk.far (HV0.out.next hW) (p := ⟨B0 + 1, q + 1, none⟩) (by show B0 ≠ B0 + 1; omega) v
                    have k1 := (HV1.out.next hW).set (q + 1) v
                    have e1 := k1.cell q
                    have e2 := k1.cell (q + 1)
                    rw [Array.getElem?_setIfInBounds_ne (by omega), arr_get g (by omega)] at e1
                    rw [Array.getElem?_setIfInBounds_self_of_lt (by simp [arr]; omega)] at e2
                    rw [← hF0, ← hF1, ← hG0]
                    exact ⟨k0.arrAt (by omega), k0.arrAt (by omega), e1, cellOr_of e2, k1.frozen _⟩
                  have HRP : Hid (∀ W, Below V.heap.size V W → Calls Tryd.prog 12 #[.int .i32 (x.toNat : Int), .int .i32 (y.toNat : Int)] W fun e w' => e = .returned (.int .i64 rp) ∧ Below W.heap.size W w') := fun W hW => by
                    have := replace_any x y W (HCF.out.next (bt hW HVW.out))
                    rwa [hrp] at this
                  obtain ⟨M, hM⟩ : ∃ M, min (F0 + rp) (min (F1 + 2) (G0 + 2)) = M := ⟨_, rfl⟩
                  have HM := Lib.hid hM
                  have hm3 : ∀ (W : World) (ts : Array TypeId) (t : TypeId), (Builtin.min_ ts t #[.int .i64 (F0 + rp), .int .i64 (F1 + 2), .int .i64 (G0 + 2)]).run Tryd.prog W = .ok (.int .i64 M) W := fun W ts t => by
                    rw [run_min3, HM.out]
                  clear hM
                  have hqi : (q : Int) < 10 := by omega
                  have HF0 := Lib.hid hF0
                  have HF1 := Lib.hid hF1
                  have HG0 := Lib.hid hG0
                  have HRE := Lib.hid hrp
                  clear hF0 hF1 hG0 hrp
                  have v1 : IntKind.i64.wrap ((q : Int) + 1) = (q : Int) + 1 := IntWalk.i64_in _ (by omega)
                  have v2 : IntKind.i64.wrap (F0 + rp) = F0 + rp := IntWalk.i64_in _ (by omega)
                  have v3 : IntKind.i64.wrap (F1 + 2) = F1 + 2 := IntWalk.i64_in _ (by omega)
                  have v4 : IntKind.i64.wrap (G0 + 2) = G0 + 2 := IntWalk.i64_in _ (by omega)
                  have v5 : ((q : Int) + 1).toNat = q + 1 := by omega
                  have v6 : (0 : Int) ≤ (q : Int) + 1 := by omega
                  have v7 : (q : Int) + 1 < 11 := by omega
                  have v8 : (q : Int) < 11 := by omega
                  have v9 : q < 11 := by omega
                  have v10 : q + 1 < 11 := by omega
                  go_region_held3 (fun w' => w'.cell? ⟨B0, q, none⟩ = some (.int .i64 F0) ∧ w'.cell? ⟨B0, q + 1, none⟩ = some (.int .i64 F1) ∧ w'.cell? ⟨B0 + 1, q, none⟩ = some (.int .i64 G0) ∧ w'.cell? ⟨B0 + 1, q + 1, none⟩ = some (cellOr w' ⟨B0 + 1, q + 1, none⟩) ∧ w'.frozen? ⟨B0 + 1, q + 1, none⟩ = false)
                    (first | exact HST.out _ _ (by repeat (first | exact Below.refl _ _ | exact hbr | exact (hbr.drew) | refine belowDrew ?_ _ | refine Below.drew ?_ | exact bt hbr ((Below.refl _ _).drew))) | exact HSS.out _ (by repeat (first | exact Below.refl _ _ | exact bt hbr ((Below.refl _ _).drew) | refine belowDrew ?_ _ | refine Below.drew ?_)))
                    (first | (go_at_call 12; refine (HRP.out _ ((Below.refl _ _).drew)).mono ?_; rintro e W4 ⟨rfl, hbr⟩))
                  have hb4 : Below V.heap.size V W4 := bt hbr ((Below.refl _ _).drew)
                  clear hm3 v1 v2 v3 v4 v5 v6 v7 v8 v9 v10
                  go_wp2
                  go_roundw
                  case rel =>
                    repeat apply Exists.intro
                    refine ⟨⟨q + 1, upd g (q + 1) M, by omega, ?_, ?_, ?_, ?_, ?_, ?_⟩, rfl⟩
                    · exact Bk.far (HV0.out.next hb4) (p := ⟨B0 + 1, q + 1, none⟩) (by show B0 ≠ B0 + 1; omega) _
                    · exact (HV1.out.next hb4).arrSet (by omega) _
                    · intro j hj
                      unfold upd
                      by_cases hjq : j = q + 1
                      · subst hjq
                        rw [if_pos rfl, ← HM.out, rv_succ b hqb, ← HY.out, ed_cons]
                        rw [← HFE.out q (by omega), ← HG.out q (Nat.le_refl _), HF0.out, HG0.out, HRE.out]
                        have h5 := HFE.out (q + 1) (by omega)
                        rw [rv_succ b hqb, ← HY.out, HF1.out] at h5
                        rw [← h5]
                      · rw [if_neg hjq]
                        exact HG.out j (by omega)
                    · exact it_set (it_next HVA.out hb4) (by show K0 ≠ B0 + 1; have := HB01.out; omega) _
                    · exact it_set (it_next HVB.out hb4) (by show K1 ≠ B0 + 1; have := HB01.out; have := HK01.out; omega) _
                    · exact (bt hb4 HVW.out).setCell (p := ⟨B0 + 1, q + 1, none⟩) (by show _ ≤ B0 + 1; have := HWB.out; omega) _
                  case measure =>
                    rw [it_pos HIB.out, it_pos (it_set (it_next HVB.out hb4) (by show K1 ≠ B0 + 1; have := HB01.out; have := HK01.out; omega) _)]
                    omega
                · obtain rfl : q = b.size := by omega
                  have hnx : ∀ ty, (Instr.next (.pointer (some ⟨K1, 0, none⟩)) true ty).run Tryd.prog wr = .ok (.tuple #[.bool false]) wr := fun ty => Lib.run_next_end_at wr K1 b b.size ty HIB.out (Nat.lt_irrefl _)
                  have c0 := HK1.out.arrAt (i := 0) (by omega)
                  have f0 := HK0.out.frozen 0
                  have c1 := HK1.out.arrAt (i := 1) (by omega)
                  have f1 := HK0.out.frozen 1
                  have c2 := HK1.out.arrAt (i := 2) (by omega)
                  have f2 := HK0.out.frozen 2
                  have c3 := HK1.out.arrAt (i := 3) (by omega)
                  have f3 := HK0.out.frozen 3
                  have c4 := HK1.out.arrAt (i := 4) (by omega)
                  have f4 := HK0.out.frozen 4
                  have c5 := HK1.out.arrAt (i := 5) (by omega)
                  have f5 := HK0.out.frozen 5
                  have c6 := HK1.out.arrAt (i := 6) (by omega)
                  have f6 := HK0.out.frozen 6
                  have c7 := HK1.out.arrAt (i := 7) (by omega)
                  have f7 := HK0.out.frozen 7
                  have c8 := HK1.out.arrAt (i := 8) (by omega)
                  have f8 := HK0.out.frozen 8
                  have c9 := HK1.out.arrAt (i := 9) (by omega)
                  have f9 := HK0.out.frozen 9
                  have c10 := HK1.out.arrAt (i := 10) (by omega)
                  have f10 := HK0.out.frozen 10
                  have HQ : Hid (∀ j, j ≤ b.size → g j = ed (rv a (pos + 1)) (rv b j)) := fun j hj => by rw [HG.out j hj, rv_succ a hpa, ← HX.out]
                  have sz11 : ∀ W : World, (sizeOf 48).run Tryd.prog W = .ok 11 W := fun W => by kernel_rfl
                  go_wp2_with (refine wpList_store_all (cs := arr g) (cur := arr f) (B := B0) (T := 48) _ rfl (.tmp 6) (.tmp 68) 48 rfl (by rfl) (by rfl) HK0.out (by rfl) sz11 (by intro v hv; rw [arr_lit] at hv; simp at hv; rcases hv with rfl | rfl | rfl | rfl | rfl | rfl | rfl | rfl | rfl | rfl | rfl <;> rfl) ?_)
                  clear c0 c1 c2 c3 c4 c5 c6 c7 c8 c9 c10 sz11
                  go_roundw
                  case rel =>
                    have h7 := HB01.out
                    have h8 := HK01.out
                    repeat apply Exists.intro
                    exact ⟨⟨pos + 1, g, g, by omega, HK0.out.setRow (arr g), HQ.out, HK1.out.setRowFar (by omega) _, (setRow_other _ _ _ _ (by omega)).trans HIA.out, below_setRow HBW.out HWB.out _⟩, rfl⟩
                  case measure =>
                    have h7 := HB01.out
                    rw [it_pos ((setRow_other _ _ _ _ (by omega)).trans HIA.out), HIM.out]
                    omega
            · obtain rfl : pos = a.size := by omega
              have hnx : ∀ ty, (Instr.next (.pointer (some ⟨K0, 0, none⟩)) true ty).run Tryd.prog wr = .ok (.tuple #[.bool false]) wr := fun ty => Lib.run_next_end_at wr K0 a a.size ty HIA.out (Nat.lt_irrefl _)
              have c0 := HK0.out.arrAt (i := b.size) (by omega)
              have hbl : (b.size : Int) < 11 := by omega
              have hbl2 : b.size < 11 := by omega
              have HD : Hid (f b.size = dist a.data.toList b.data.toList) := by
                show _ = _
                rw [HF.out b.size (Nat.le_refl _), rv_all, rv_all]; rfl
              go_wp2
              go_ret2
              exact ⟨by rw [← HD.out]; rfl, HBW.out⟩
    · have pb : plB b = false := by simpa using pb
      have hv : dsV a b = 0 := by simp [dsV, pb]
      have he : dsE a b = 1 := by simp [dsE, pb]
      rw [hv, he]
      clear hv he
      have HPA := Lib.hid pa
      have HPB := Lib.hid pb
      clear pa pb
      go_enter Tryd.func8, Tryd.ntmps8
      go_wp2_with fail
      refine (PValid_any a _ ha).mono ?_
      rintro e W1 ⟨rfl, hb1⟩
      rw [HPA.out]
      go_wp2_with fail
      refine (PValid_any b _ hb).mono ?_
      rintro e W2 ⟨rfl, hb2⟩
      rw [HPB.out]
      go_wp2_with fail
      go_ret2
      exact ⟨rfl, bt hb2 hb1⟩
  · have pa : plB a = false := by simpa using pa
    have hv : dsV a b = 0 := by simp [dsV, pa]
    have he : dsE a b = 1 := by simp [dsE, pa]
    rw [hv, he]
    clear hv he
    have HPA := Lib.hid pa
    clear pa
    go_enter Tryd.func8, Tryd.ntmps8
    go_wp2_with fail
    refine (PValid_any a _ ha).mono ?_
    rintro e W1 ⟨rfl, hb1⟩
    rw [HPA.out]
    go_wp2_with fail
    go_ret2
    exact ⟨rfl, hb1⟩
end Go.Proofs.YthmipmdpdfdlaaaDoor
