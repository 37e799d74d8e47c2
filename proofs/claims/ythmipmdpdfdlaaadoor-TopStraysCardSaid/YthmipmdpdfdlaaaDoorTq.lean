/- r7Cars: the passes of cars that come one after the other. -/
import Derived.Test.YthmipmdpdfdlaaaDoorTx
import Derived.Test.YthmipmdpdfdlaaaDoorTap
import Derived.Test.YthmipmdpdfdlaaaDoorReg
import Derived.Test.YthmipmdpdfdlaaaDoorApp
import Derived.Test.YthmipmdpdfdlaaaDoorRoundV
import Derived.Lib.QuietBelow
import Derived.BigQuiet
import Derived.Deep.Cut
import Derived.Deep.CutRange
set_option maxRecDepth 100000
set_option linter.unusedVariables false
set_option linter.unusedSimpArgs false
namespace Go.Proofs.YthmipmdpdfdlaaaDoor
open Go.RowKit Go.Sort
/-! ### cars in memory -/
def carC (x : Car) : List Value := [.string x.p, .string x.r, .int .u8 (x.wt.toNat : Int), .int .u8 (x.st.toNat : Int)]
def clC (l : List Car) : List Value := l.flatMap carC
theorem clC_length (l : List Car) : (clC l).length = l.length * 4 := by
  induction l with
  | nil => rfl
  | cons x l ih => simp only [clC, List.flatMap_cons, List.length_append] at ih ⊢; rw [ih]; simp [carC]; omega
theorem clC_get : ∀ (l : List Car) (i : Nat) (x : Car) (j : Nat), l[i]? = some x → j < 4 → (clC l)[i * 4 + j]? = (carC x)[j]?
  | [], i, x, j, h, _ => by simp at h
  | y :: l, 0, x, j, h, hj => by
    simp at h; subst h
    simp only [clC, List.flatMap_cons]
    rw [List.getElem?_append_left (by simp [carC]; omega), Nat.zero_mul, Nat.zero_add]
  | y :: l, i + 1, x, j, h, hj => by
    have := clC_get l i x j (by simpa using h) hj
    simp only [clC, List.flatMap_cons] at this ⊢
    rw [List.getElem?_append_right (by simp [carC]; omega), ← this]
    congr 1
    simp [carC]; omega
def RdC (w : World) (B : Nat) (A : Option Addr) (l : List Car) : Prop := RdS w B 4 A l.length (clC l)
section
variable {w w' : World} {B B' : Nat} {A : Option Addr} {l : List Car}
theorem RdC.below (h : RdC w B A l) (hb : Below B w w') : RdC w' B A l := RdS.below h hb
theorem RdC.next (h : RdC w w.heap.size A l) (hb : Below w.heap.size w w') : RdC w' w'.heap.size A l := RdS.next h hb
theorem RdC.at_ (h : RdC w B A l) {i : Nat} (hi : i < l.length) : ∃ b o, A = some ⟨b, o, none⟩ ∧ b < B ∧ w.cell? ⟨b, o + i * 4, none⟩ = some (.string l[i].p) ∧ w.cell? ⟨b, o + i * 4 + 1, none⟩ = some (.string l[i].r) ∧ w.cell? ⟨b, o + i * 4 + 2, none⟩ = some (.int .u8 (l[i].wt.toNat : Int)) ∧ w.cell? ⟨b, o + i * 4 + 3, none⟩ = some (.int .u8 (l[i].st.toNat : Int)) := by
  obtain ⟨b, o, e, hb, hc⟩ := h.2 (by omega)
  have hx : l[i]? = some l[i] := List.getElem?_eq_getElem hi
  refine ⟨b, o, e, hb, ?_, ?_, ?_, ?_⟩
  · have := hc (i * 4 + 0) _ ((clC_get l i _ 0 hx (by omega)).trans rfl); rwa [← Nat.add_assoc] at this
  · have := hc (i * 4 + 1) _ ((clC_get l i _ 1 hx (by omega)).trans rfl); rwa [← Nat.add_assoc] at this
  · have := hc (i * 4 + 2) _ ((clC_get l i _ 2 hx (by omega)).trans rfl); rwa [← Nat.add_assoc] at this
  · have := hc (i * 4 + 3) _ ((clC_get l i _ 3 hx (by omega)).trans rfl); rwa [← Nat.add_assoc] at this
end
theorem box4 {w : World} {k : Nat} {t : TypeId} {a b c d : Value} (h : Bk w k t #[a, b, c, d]) : w.cell? ⟨k, 0, none⟩ = some a ∧ w.cell? ⟨k, 1, none⟩ = some b ∧ w.cell? ⟨k, 2, none⟩ = some c ∧ w.cell? ⟨k, 3, none⟩ = some d := ⟨h.cell 0, h.cell 1, h.cell 2, h.cell 3⟩
/-- numbers in memory -/
def inI (i : Nat) : Value := .int .i64 (i : Int)
theorem inI_one (l : List Nat) : ∀ u ∈ l.map inI, u.oneCell' = true := by
  intro u hu
  obtain ⟨x, _, rfl⟩ := List.mem_map.1 hu
  rfl
theorem info_pass : (Tryd.prog.info? 42).map (fun i => (i.zero, i.size, i.bytes)) = some (some (.agg #[.string ByteArray.empty, .int .i64 0]), 2, 24) := by kernel_rfl
theorem info_int : (Tryd.prog.info? 3).map (fun i => (i.zero, i.size, i.bytes)) = some (some (.int .i64 0), 1, 8) := by kernel_rfl
theorem rd_bk {w : World} {B g sz : Nat} {t : TypeId} {news : List Value} (h : Bk w g t news.toArray) (hl : news.length = sz) (hg : g < B) : RdS w B sz (some ⟨g, 0, none⟩) 1 news := by
  refine ⟨by omega, fun _ => ⟨g, 0, rfl, hg, fun j u hu => ?_⟩⟩
  rw [Nat.zero_add, h.cell j, ← hu]; simp
theorem ne_own {u v : Value} (h : ∀ g, u.ownBlock = some g → v.ownBlock ≠ some g) : v.ownBlock = none ∨ v.ownBlock ≠ u.ownBlock := by
  cases hv : v.ownBlock with
  | none => exact .inl rfl
  | some g => exact .inr fun e => h g e.symm hv
theorem own_base {w : World} {B B' e size n : Nat} {v : Value} {xs : List Value} (h : w.ownsRow B' e size v n xs) (hB : B ≤ B') : w.ownsRow B e size v n xs :=
  ⟨h.1, h.2.imp id (fun ⟨g, cap, cur, a, b, c⟩ => ⟨g, cap, cur, a, Nat.le_trans hB b, c⟩)⟩
theorem cl2_take {α : Type} (f g : α → Value) (l : List α) (k : Nat) : (cl2 f g l).take (k * 2) = cl2 f g (l.take k) := by
  induction l generalizing k with
  | nil => simp [cl2]
  | cons x l ih =>
    cases k with
    | zero => simp [cl2]
    | succ k =>
      have := ih k
      simp only [cl2, List.flatMap_cons, List.take_succ_cons] at this ⊢
      rw [show (k + 1) * 2 = k * 2 + 1 + 1 by omega]
      simp [this]
theorem cl2_drop {α : Type} (f g : α → Value) (l : List α) (k : Nat) : (cl2 f g l).drop (k * 2) = cl2 f g (l.drop k) := by
  induction l generalizing k with
  | nil => simp [cl2]
  | cons x l ih =>
    cases k with
    | zero => simp [cl2]
    | succ k =>
      have := ih k
      simp only [cl2, List.flatMap_cons, List.drop_succ_cons] at this ⊢
      rw [show (k + 1) * 2 = k * 2 + 1 + 1 by omega]
      simp [this]
theorem esK_succ (l : List Car) (n : Nat) : esK l (n + 1) = esK l n ++ [eOf l n] := by simp [esK, List.range_succ]
/-- where car n's exit is put -/
def pK (l : List Car) (n : Nat) : Nat := posI (xsK l n) (xOf l n).2 n
theorem cI_succ (l : List Car) (n : Nat) : cI l (n + 1) = (cI l n).take (pK l n) ++ n :: (cI l n).drop (pK l n) := by
  rw [cI, pK, xsK, cI_length]
theorem pK_le (l : List Car) (n : Nat) : pK l n ≤ n := posI_le _ _ _
theorem xs_splice (l : List Car) (n : Nat) : [] ++ (cl2 paF paG (xsK l n)).take (pK l n * 2) ++ [.string (xOf l n).1, .int .i64 (xOf l n).2] ++ (cl2 paF paG (xsK l n)).drop (pK l n * 2) = cl2 paF paG (xsK l (n + 1)) := by
  rw [cl2_take, cl2_drop, List.nil_append]
  have e : xsK l (n + 1) = (xsK l n).take (pK l n) ++ xOf l n :: (xsK l n).drop (pK l n) := by
    rw [xsK, cI_succ, List.map_append, List.map_cons, List.map_take, List.map_drop]; rfl
  rw [e, cl2_append]
  simp [cl2, paF, paG]
theorem is_splice (l : List Car) (n : Nat) : [] ++ ((cI l n).map inI).take (pK l n * 1) ++ [.int .i64 (n : Int)] ++ ((cI l n).map inI).drop (pK l n * 1) = (cI l (n + 1)).map inI := by
  rw [cI_succ]
  simp [inI]
def CarsP (l : List Car) (w : World) (e : Ending) (w' : World) : Prop :=
  (∃ A1 c1 A2 c2 A3 c3, e = .returned (.tuple #[.slice A1 l.length c1, .slice A2 l.length c2, .slice A3 l.length c3, .bool true]) ∧ CarsOk l l.length ∧ RdS w' w'.heap.size 2 A1 l.length (cl2 paF paG (esK l l.length)) ∧ RdS w' w'.heap.size 2 A2 l.length (cl2 paF paG (xsK l l.length)) ∧ RdS w' w'.heap.size 1 A3 l.length ((cI l l.length).map inI) ∧ Below w.heap.size w w') ∨
  (e = .returned (.tuple #[.slice none 0 0, .slice none 0 0, .slice none 0 0, .bool false]) ∧ Below w.heap.size w w')
theorem pas_one (l : List Pas) : ∀ u ∈ cl2 paF paG l, u.oneCell' = true := cl2_one paF paG (fun _ => rfl) (fun _ => rfl) l
set_option maxHeartbeats 4000000 in
theorem r7Cars_any (l : List Car) (A : Option Addr) (c : Nat) (w : World) (hn : l.length ≤ 3600000000000) (hS : ∀ x ∈ l, x.p.size ≤ 9223372036854775807 ∧ x.r.size ≤ 9223372036854775807) (hl : RdC w w.heap.size A l) :
    Calls Tryd.prog 7 #[.slice A l.length c] w (CarsP l w) := by
  have HS := Lib.hid hS
  have HL := Lib.hid hl
  obtain ⟨B, hB⟩ : ∃ B, B = w.heap.size := ⟨_, rfl⟩
  have HBS := Lib.hid hB
  have hB1 : w.heap.size ≤ B := Nat.le_of_eq hB.symm
  clear hS hl hB
  go_enter Tryd.func7, Tryd.ntmps7
  go_wp2_with fail
  go_loopw [6, 7, 8, 9, 16] (fun v6 v7 v8 v9 i wr => ∃ k : Nat, i = .int .i64 (k : Int) ∧ k ≤ l.length ∧ v9 = .int .i64 (mC l k : Int) ∧ wr.ownsRow B 42 2 v6 k (cl2 paF paG (esK l k)) ∧ wr.ownsRow B 42 2 v7 k (cl2 paF paG (xsK l k)) ∧ wr.ownsRow B 3 1 v8 k ((cI l k).map inI) ∧ (∀ g, v6.ownBlock = some g → v7.ownBlock ≠ some g) ∧ (∀ g, v6.ownBlock = some g → v8.ownBlock ≠ some g) ∧ CarsOk l k ∧ B ≤ wr.heap.size ∧ Below w.heap.size w wr) (fun _ _ _ _ i _ => l.length - (intOf i).toNat)
  case atStart => exact ⟨0, rfl, Nat.zero_le _, rfl, ⟨rfl, .inl ⟨rfl, rfl⟩⟩, ⟨rfl, .inl ⟨rfl, rfl⟩⟩, ⟨rfl, .inl ⟨rfl, rfl⟩⟩, fun g h => (by cases h), fun g h => (by cases h), fun i h => absurd h (Nat.not_lt_zero _), Nat.le_of_eq HBS.out, Below.refl _ _⟩
  case round =>
    obtain ⟨k, rfl, hk, rfl, o6, o7, o8, hne7, hne8, hck, hBw, hbw⟩ := hrel
    have HO6 := Lib.hid o6
    have HO7 := Lib.hid o7
    have HO8 := Lib.hid o8
    have HNE7 := Lib.hid hne7
    have HNE8 := Lib.hid hne8
    have HCK := Lib.hid hck
    have HBW := Lib.hid hbw
    have hsz := hbw.size
    clear o6 o7 o8 hne7 hne8 hck hbw
    by_cases hlt : k < l.length
    · obtain ⟨x, hx⟩ : ∃ x, x = l[k] := ⟨_, rfl⟩
      obtain ⟨b, o, rfl, hbb, c0, c1, c2, c3⟩ := (RdC.below HL.out HBW.out).at_ hlt
      rw [← hx] at c0 c1 c2 c3
      have hxg : l.getD k car0 = x := by rw [hx, List.getD_eq_getElem?_getD, List.getElem?_eq_getElem hlt]; rfl
      have hS := HS.out x (by rw [hx]; exact List.getElem_mem _)
      obtain ⟨hp1, hr1⟩ := hS
      obtain ⟨A7, c7, rfl, hc7, _⟩ := own_read HO7.out
      obtain ⟨A8, c8, rfl, hc8, _⟩ := own_read HO8.out
      obtain ⟨m0, hm0⟩ : ∃ m0 : Int, m0 = (mC l k : Int) := ⟨_, rfl⟩
      have hmb := mC_le l k
      obtain ⟨xa, hxa⟩ : ∃ xa : Int, xa = (x.wt.toNat : Int) := ⟨_, rfl⟩
      obtain ⟨xb, hxb⟩ : ∃ xb : Int, xb = (x.st.toNat : Int) := ⟨_, rfl⟩
      have a1 := x.wt.toNat_lt
      have a2 := x.st.toNat_lt
      have a3 : 0 ≤ xa := by omega
      have a4 : xa ≤ 255 := by omega
      have a5 : 0 ≤ xb := by omega
      have a6 : xb ≤ 255 := by omega
      have a7 : 0 ≤ m0 := by omega
      have a8 : m0 ≤ 1000000000000000 := by omega
      have HE1 : Hid (m0 + xa = (mC l (k + 1) : Int)) := by show _ = _; rw [mC, hxg]; push_cast; omega
      have HEE : Hid (eOf l k = (x.p, m0 + xa)) := by show _ = _; rw [HE1.out, eOf, hxg]
      have HEX : Hid (xOf l k = (x.r, m0 + xa + 1 + xb)) := by
        show _ = _
        rw [HE1.out, hxb, xOf, hxg]
        push_cast
        rfl
      have HXP : Hid (l.getD k car0 = x) := hxg
      rw [← hxa] at c2
      rw [← hxb] at c3
      rw [← hm0]
      have hbb2 : b < wr.heap.size := by omega
      have k1 : (0 : Int) ≤ (k : Int) := by omega
      have k2 : (k : Int) < (l.length : Int) := by omega
      clear hx hxg hm0 hmb hxa hxb a1 a2
      go_wp2_with fail
      refine (PValid_any x.p _ hp1).mono ?_
      rintro e W1 ⟨rfl, hb1⟩
      obtain ⟨CB, hCB⟩ : ∃ CB, CB = wr.heap.size := ⟨_, rfl⟩
      have kc0 : Bk W1 CB 30 #[.string x.p, .string x.r, .int .u8 xa, .int .u8 xb] := by rw [hCB]; exact (Bk.new wr 30 _).next hb1
      have KC0 := Lib.hid kc0
      have HB1 : Hid (Below wr.heap.size wr W1) := bt hb1 (al1 _ _)
      have HCB := Lib.hid hCB
      by_cases hp : plB x.p = true
      · rw [hp]
        have HP := Lib.hid hp
        clear hp hb1 kc0
        obtain ⟨z0, z1, z2, z3⟩ := box4 KC0.out
        have hcb1 := KC0.out.lt
        rw [← hCB]
        clear hCB
        go_wp2_with fail
        refine (PValid_any x.r _ hr1).mono ?_
        rintro e W2 ⟨rfl, hb2⟩
        have HB2 : Hid (Below wr.heap.size wr W2) := bt hb2 HB1.out
        have KC := Lib.hid (KC0.out.next hb2)
        clear hb2 z0 z1 z2 z3 hcb1 KC0 c0 c1 c2 c3 hbb hbb2
        by_cases hr : plB x.r = true
        · rw [hr]
          have HR := Lib.hid hr
          clear hr
          have HOK : Hid (CarsOk l (k + 1)) := fun i hi => by
            rcases Nat.lt_or_ge i k with h9 | h9
            · exact HCK.out i h9
            · obtain rfl : i = k := by omega
              rw [HXP.out]; exact ⟨HP.out, HR.out⟩
          have HG6 : Hid (∀ g, u6.ownBlock = some g → g < CB) := fun g h => by have := (HO6.out.lt g h).2; have := HCB.out; omega
          have hsz2 := HB2.out.size
          replace HO6 := Lib.hid (own_on HO6.out HB2.out)
          replace HO7 := Lib.hid (own_on HO7.out HB2.out)
          replace HO8 := Lib.hid (own_on HO8.out HB2.out)
          obtain ⟨i0, hi, hz0, hz1, hz2⟩ := info_parts info_pass
          obtain ⟨z0, z1, z2, z3⟩ := box4 KC.out
          have hcb1 := KC.out.lt
          clear HP HR HCK HXP
          go_wp2_with (first
            | (at_builtin; refine wpList_append_rd _ rfl _ _ _ rfl B 42 i0 _ 2 24 Tryd.underlying24 hi hz0 hz1 hz2 rfl (by omega) u6 k (cl2 paF paG (esK l k)) (by rfl) (HO6.out.alloc _) (W2.heap.size + 1) (some ⟨W2.heap.size, 0, none⟩) 1 1 [.string x.p, .int .i64 (m0 + xa)] (by rfl) (rd_bk (bkOf (by simp [at?_alloc]; try rfl)) rfl (by omega)) (by simp [Value.oneCell']) (by simp only [maxLen]; omega) (by omega) (by simp; omega) ?_; intro v6' W3 hown6 hg6 hat6; have o7 := (HO7.out.alloc (.cells #[.string x.p, .int .i64 (m0 + xa)] 42)).kept hg6 (ne_own HNE7.out); have o8 := (HO8.out.alloc (.cells #[.string x.p, .int .i64 (m0 + xa)] 42)).kept hg6 (ne_own HNE8.out); have kb := (KC.out.alloc (.cells #[.string x.p, .int .i64 (m0 + xa)] 42)).grown hg6 (fun e => by have := HG6.out _ e.symm; omega); obtain ⟨z0, z1, z2, z3⟩ := box4 kb; have hs3 : W2.heap.size + 1 ≤ W3.heap.size := by have := hg6.size; simp at this; omega))
          obtain ⟨mm, hmm⟩ : ∃ mm : Int, mm = m0 + xa + 1 + xb := ⟨_, rfl⟩
          rw [← hmm]
          have HMM := Lib.hid hmm
          have HEX2 : Hid (xOf l k = (x.r, mm)) := by show _ = _; rw [hmm]; exact HEX.out
          have b1 : 0 ≤ mm := by omega
          have b2 : mm ≤ 1000000000001000 := by omega
          have e6 : cl2 paF paG (esK l (k + 1)) = cl2 paF paG (esK l k) ++ [.string x.p, .int .i64 (m0 + xa)] := by rw [esK_succ, cl2_append, HEE.out]; rfl
          rw [← e6] at hown6
          have hbW3 : Below w.heap.size w W3 := ((bt HB2.out HBW.out).alloc (by omega) _).grown hg6 (by simp; omega) (fun g hg => (by have := (HO6.out.lt g hg).1; omega))
          obtain ⟨PB, hPB⟩ : ∃ PB, PB = W3.heap.size := ⟨_, rfl⟩
          rw [← hPB]
          obtain ⟨W4, hW4⟩ : ∃ Zz, Zz = W3.alloc (.cells #[.string x.r, .int .i64 mm] 42) := ⟨_, rfl⟩
          have hbw4 : Below w.heap.size w W4 := by rw [hW4]; exact hbW3.alloc (by have := hbW3.size; omega) _
          have k64 : W4.ownsRow B 42 2 v6' (k + 1) (cl2 paF paG (esK l (k + 1))) := by rw [hW4]; exact hown6.alloc _
          have k74 : W4.ownsRow B 42 2 (.slice A7 k c7) k (cl2 paF paG (xsK l k)) := by rw [hW4]; exact o7.alloc _
          have k84 : W4.ownsRow B 3 1 (.slice A8 k c8) k ((cI l k).map inI) := by rw [hW4]; exact o8.alloc _
          have kx4 : Bk W4 PB 42 #[.string x.r, .int .i64 mm] := by rw [hW4, hPB]; exact Bk.new _ _ _
          rw [← hW4]
          clear hW4
          have HBW4 := Lib.hid hbw4
          have H64 := Lib.hid k64
          have H74 := Lib.hid k74
          have H84 := Lib.hid k84
          have KX := Lib.hid kx4
          clear z0 z1 z2 z3 kb hg6 hat6 hown6 o7 o8 hbW3 hs3 hcb1 hmm HO6 HO7 HO8 HEE KC HG6 hPB e6 HB1 HB2 HCB hbw4 k64 k74 k84 kx4
          have HB4W : Hid (B ≤ W4.heap.size) := by show _ ≤ _; have h1 := HBW4.out.size; have h2 := HBS.out; omega
          have HR7 := Lib.hid (RdS.of_own H74.out)
          go_loopw [13] (fun v13 wq => ∃ m : Nat, m ≤ k ∧ v13 = .int .i64 (m : Int) ∧ posI (xsK l k) mm m = posI (xsK l k) mm k ∧ Below W4.heap.size W4 wq) (fun v13 _ => (intOf v13).toNat)
          case atStart => exact ⟨k, Nat.le_refl _, rfl, rfl, Below.refl _ _⟩
          case round =>
            obtain ⟨m, hmk, rfl, hpos, hbq⟩ := hrel
            have HPOS := Lib.hid hpos
            have HBQ := Lib.hid hbq
            have KXQ := Lib.hid (KX.out.next hbq)
            clear hpos hbq
            obtain ⟨x0, x1⟩ := box2 KXQ.out
            have lx := KXQ.out.lt
            go_upto_region 13 with fail
            go_cut [66] from 54 to 68 (fun q wx => ∃ qb : Bool, q = .bool qb ∧ (qb = decide (0 < m ∧ mm < ((xsK l k).getD (m - 1) ps0).2)) ∧ Below wr.heap.size wr wx)
            case first =>
              rcases m with _ | m
              · go_quiet (fail)
                go_wp2
                go_meet
                exact ⟨false, rfl, by simp, by first | exact Below.refl _ _ | exact belowDrew (Below.refl _ _) _ | exact (Below.refl _ _).drew⟩
              · obtain ⟨b7, o7, rfl, hb7, _, y1⟩ := (show Rd2 paF paG _ W4.heap.size A7 (xsK l k) by show RdS _ _ _ _ _ _; rw [xsK_length]; exact HR7.out.below HBQ.out).at_ (i := m) (by rw [xsK_length]; omega)
                obtain ⟨Y, hY⟩ : ∃ Y : Int, Y = ((xsK l k)[m]'(by rw [xsK_length]; omega)).2 := ⟨_, rfl⟩
                have hYg : ((xsK l k).getD m ps0).2 = Y := by rw [hY, List.getD_eq_getElem?_getD, List.getElem?_eq_getElem (by rw [xsK_length]; omega)]; rfl
                simp only [paG] at y1
                rw [← hY] at y1
                have HY := Lib.hid hYg
                have n1 : (0 : Int) ≤ (m : Int) := by omega
                have n2 : (m : Int) < (k : Int) := by omega
                have n3 : (0 : Int) < (m : Int) + 1 := by omega
                have n4 : IntKind.i64.wrap ((m : Int) + 1 - 1) = (m : Int) := by rw [show (m : Int) + 1 - 1 = m by omega]; exact IntWalk.i64_in _ (by omega)
                clear hY hYg
                by_cases hc : mm < Y
                · go_quiet (fail)
                  go_wp2
                  go_meet
                  exact ⟨true, rfl, by rw [show m + 1 - 1 = m from rfl, HY.out]; simp [hc], by first | exact Below.refl _ _ | exact belowDrew (Below.refl _ _) _ | exact (Below.refl _ _).drew⟩
                · have hc' : decide (mm < Y) = false := by simpa using hc
                  go_quiet (fail)
                  go_wp2
                  go_meet
                  exact ⟨false, rfl, by rw [show m + 1 - 1 = m from rfl, HY.out]; simp [hc], by first | exact Below.refl _ _ | exact belowDrew (Below.refl _ _) _ | exact (Below.refl _ _).drew⟩
            case rest =>
              obtain ⟨qb, rfl, hqb, hbc⟩ := hcut
              have HQB := Lib.hid hqb
              have HBC := Lib.hid (bt hbc HBQ.out)
              have KXC := Lib.hid (KXQ.out.next hbc)
              clear hqb hbc KXQ x0 x1 lx
              cases qb
              · have hPm : pK l k = m := by
                  have h9 := HQB.out
                  rw [pK, HEX2.out]
                  simp only
                  rw [← HPOS.out]
                  rcases m with _ | m
                  · rfl
                  · have h7 := of_decide_eq_false h9.symm
                    rw [posI]
                    exact if_neg (fun h8 => h7 ⟨by omega, h8⟩)
                obtain ⟨P, hP⟩ : ∃ P, P = m := ⟨_, rfl⟩
                rw [← hP] at hPm hmk
                rw [← hP]
                have HPM := Lib.hid hPm
                have hPk := hmk
                obtain ⟨U1, hU1⟩ : ∃ Zz, Zz = wc := ⟨_, rfl⟩
                rw [← hU1] at HBC KXC
                rw [← hU1]
                clear hU1 HQB HPOS hPm hP hmk HBQ
                have p1 : (0 : Int) ≤ (P : Int) := by omega
                have p2 : (P : Int) ≤ (k : Int) := by omega
                have p3 : (P : Int) ≤ (c7 : Int) := by omega
                have p4 : (P : Int) ≤ (c8 : Int) := by omega
                have HXS : Hid (cl2 paF paG (xsK l (k + 1)) = [] ++ (cl2 paF paG (xsK l k)).take (P * 2) ++ [.string x.r, .int .i64 mm] ++ (cl2 paF paG (xsK l k)).drop (P * 2)) := by
                  show _ = _
                  rw [← xs_splice, HEX2.out, HPM.out]
                have HIS : Hid ((cI l (k + 1)).map inI = [] ++ ((cI l k).map inI).take (P * 1) ++ [.int .i64 (k : Int)] ++ ((cI l k).map inI).drop (P * 1)) := by
                  show _ = _
                  rw [← is_splice, HPM.out]
                go_wp2_with fail
                go_cut [7, 16] from 16 to 93 (fun u7 q16 wx => q16 = .int .i64 (k : Int) ∧ wx.ownsRow U1.heap.size 42 2 u7 (k + 1) (cl2 paF paG (xsK l (k + 1))) ∧ Below U1.heap.size U1 wx)
                case first =>
                  have hcap : k ≤ c7 := hc7
                  have x0 := (box2 KXC.out).1
                  have x1 := (box2 KXC.out).2
                  obtain ⟨ys, hys⟩ : ∃ ys, ys = cl2 paF paG (xsK l k) := ⟨_, rfl⟩
                  have HYS := Lib.hid hys
                  have HX1 : Hid (∀ u ∈ ys, u.oneCell' = true) := by show ∀ u ∈ ys, _; rw [hys]; exact pas_one _
                  have hsrc : RdS U1 U1.heap.size 2 (A7) k ys := by rw [hys]; exact (HR7.out.below HBC.out).more HBC.out.size
                  clear hys
                  by_cases hcp : c7 = P
                  · refine region_V (fun _ => True) (fun w' => w'.cell? ⟨PB, 0, none⟩ = some (.string x.r) ∧ w'.cell? ⟨PB, 1, none⟩ = some (.int .i64 mm)) 99 (by kernel_rfl) ?_
                    obtain ⟨Y0, hY0⟩ : ∃ Zz, Zz = U1.drew := ⟨_, rfl⟩
                    have hb0 : Below U1.heap.size U1 Y0 := by rw [hY0]; exact (Below.refl _ U1).drew
                    rw [← hY0]
                    clear hY0
                    have HSRC := Lib.hid hsrc
                    have HB0 := Lib.hid hb0
                    have HSS : Hid (∀ w', Below U1.heap.size U1 w' → w'.cell? ⟨PB, 0, none⟩ = some (.string x.r) ∧ w'.cell? ⟨PB, 1, none⟩ = some (.int .i64 mm)) := fun w' hb => box2 (KXC.out.next hb)
                    have HSX := HSS.out Y0 HB0.out
                    clear hb0 hsrc
                    have HCUT : Hid (RdS U1 U1.heap.size 2 (A7) (k - P) (ys.drop (P * 2))) := by
                      have := HSRC.out.cut hPk hcap
                      rwa [if_pos hcp] at this
                    refine anyV_take2 (i := 1) rfl (by decide) (by kernel_rfl) (by kernel_rfl) (by kernel_rfl) (fun _ _ _ h => h) (Or.inl ⟨by rfl, fun w' hS' => (by obtain ⟨s1, s2⟩ := hS'; go_simp; try with_reducible rfl)⟩) trivial HSX ?_
                    refine anyV_take2 (i := 2) rfl (by decide) (by kernel_rfl) (by kernel_rfl) (by kernel_rfl) (fun _ _ _ h => h) (Or.inl ⟨by rfl, fun w' hS' => (by obtain ⟨s1, s2⟩ := hS'; go_simp; try with_reducible rfl)⟩) trivial HSX ?_
                    refine anyV_take2 (i := 3) rfl (by decide) (by kernel_rfl) (by kernel_rfl) (by kernel_rfl) (fun _ _ _ h => h) (Or.inl ⟨by rfl, fun w' hS' => (by obtain ⟨s1, s2⟩ := hS'; go_simp; try with_reducible rfl)⟩) trivial HSX ?_
                    refine anyV_take2 (i := 5) rfl (by decide) (by kernel_rfl) (by kernel_rfl) (by kernel_rfl) (fun _ _ _ h => h) (Or.inl ⟨by rfl, fun w' hS' => (by obtain ⟨s1, s2⟩ := hS'; go_simp; try with_reducible rfl)⟩) trivial HSX ?_
                    refine anyV_take2 (i := 8) rfl (by decide) (by kernel_rfl) (by kernel_rfl) (by kernel_rfl) (fun _ _ _ h => h) (Or.inl ⟨by rfl, fun w' hS' => (by obtain ⟨s1, s2⟩ := hS'; go_simp; try with_reducible rfl)⟩) trivial HSX ?_
                    refine anyV_take2 (i := 9) rfl (by decide) (by kernel_rfl) (by kernel_rfl) (by kernel_rfl) (fun _ _ _ h => h) (Or.inl ⟨by rfl, fun w' hS' => (by obtain ⟨s1, s2⟩ := hS'; go_simp; try with_reducible rfl)⟩) trivial HSX ?_
                    refine anyV_take2 (i := 10) rfl (by decide) (by kernel_rfl) (by kernel_rfl) (by kernel_rfl) (fun _ _ _ h => h) (Or.inl ⟨by rfl, fun w' hS' => (by obtain ⟨s1, s2⟩ := hS'; go_simp; try with_reducible rfl)⟩) trivial HSX ?_
                    clear HSX
                    refine anyV_two (i := 0) (j := 6) (by kernel_rfl) rfl rfl rfl rfl (fun K hK => ?_) (fun K hK => ?_)
                    · go_simp
                      obtain ⟨Y1, hY1⟩ : ∃ Zz, Zz = Y0.alloc (.cells #[] 42) := ⟨_, rfl⟩
                      have hb : Below Y0.heap.size Y0 Y1 := by rw [hY1]; exact al1 _ _
                      have ho : Y1.ownsRow U1.heap.size 42 2 (.slice (some ⟨Y0.heap.size, 0, none⟩) 0 0) 0 [] := by rw [hY1]; exact own_empty (by simp [at?_alloc]) HB0.out.size
                      rw [← hY1]
                      clear hY1
                      obtain ⟨G0, hG⟩ : ∃ G, G = Y0.heap.size := ⟨_, rfl⟩
                      rw [← hG] at ho ⊢
                      have HO1 := Lib.hid ho
                      have HB1 := Lib.hid (bt hb HB0.out)
                      clear hb hG ho
                      refine hK _ _ (fun _ => trivial) (HSS.out _ HB1.out) ?_
                      clear hK K
                      refine anyV_two (i := 4) (j := 6) (by kernel_rfl) rfl rfl rfl rfl (fun K hK => ?_) (fun K hK => ?_)
                      · refine wp_append_rd _ _ _ _ (by rfl) U1.heap.size 42 i0 _ 2 24 Tryd.underlying24 hi hz0 hz1 hz2 rfl (by omega) (.slice (some ⟨G0, 0, none⟩) 0 0) (0) ([]) (by rfl) HO1.out _ (A7) (P) _ (ys.take (P * 2)) (by rfl) ((HSRC.out.head_ hPk).below HB1.out) (fun u hu => HX1.out u (List.mem_of_mem_take hu)) (by simp only [maxLen]; omega) (by omega) HB1.out.size ?_
                        intro rv2 Y2 hown hg hat
                        have HO2 := Lib.hid hown
                        have HB2 : Hid (Below U1.heap.size U1 Y2) := HB1.out.grown hg HB1.out.size (fun k hk => (HO1.out.lt k hk).1)
                        clear hown hg hat
                        refine hK _ _ (fun _ => trivial) (HSS.out _ HB2.out) ?_
                        clear hK K
                        refine anyV_one (i := 6) (by kernel_rfl) rfl rfl (fun K hK => ?_)
                        go_simp
                        obtain ⟨Y3, hY3⟩ : ∃ Zz, Zz = Y2.alloc (.cells #[.string x.r, .int .i64 mm] 42) := ⟨_, rfl⟩
                        have hb : Below Y2.heap.size Y2 Y3 := by rw [hY3]; exact al1 _ _
                        have kn : Bk Y3 Y2.heap.size 42 #[.string x.r, .int .i64 mm] := by rw [hY3]; exact Bk.new _ _ _
                        have ho : Y3.ownsRow U1.heap.size 42 2 (rv2) (0 + P) ([] ++ ys.take (P * 2)) := by rw [hY3]; exact HO2.out.alloc _
                        rw [← hY3]
                        clear hY3
                        obtain ⟨G1, hG⟩ : ∃ G, G = Y2.heap.size := ⟨_, rfl⟩
                        rw [← hG] at kn ⊢
                        have KN3 := Lib.hid kn
                        have HO3 := Lib.hid ho
                        have HNE3 : Hid (∀ g, (rv2).ownBlock = some g → g ≠ G1) := fun g h e => by have := (HO2.out.lt g h).2; omega
                        have HB3 := Lib.hid (bt hb HB2.out)
                        clear hb hG kn ho
                        refine hK _ _ (fun _ => trivial) (HSS.out _ HB3.out) ?_
                        clear hK K
                        refine anyV_one (i := 7) (by kernel_rfl) rfl rfl (fun K hK => ?_)
                        refine wp_append_rd _ _ _ _ (by rfl) U1.heap.size 42 i0 _ 2 24 Tryd.underlying24 hi hz0 hz1 hz2 rfl (by omega) (rv2) (0 + P) ([] ++ ys.take (P * 2)) (by rfl) HO3.out _ (some ⟨G1, 0, none⟩) (1) 1 ([.string x.r, .int .i64 mm]) (by rfl) (rd_bk KN3.out rfl KN3.out.lt) (by simp [Value.oneCell']) (by simp only [maxLen]; omega) (by omega) HB3.out.size ?_
                        intro rv4 Y4 hown hg hat
                        have HO4 := Lib.hid hown
                        have HB4 : Hid (Below U1.heap.size U1 Y4) := HB3.out.grown hg HB3.out.size (fun k hk => (HO3.out.lt k hk).1)
                        clear hown hg hat
                        refine hK _ _ (fun _ => trivial) (HSS.out _ HB4.out) ?_
                        clear hK K
                        refine anyV_one (i := 11) (by kernel_rfl) rfl rfl (fun K hK => ?_)
                        refine wp_append_rd _ _ _ _ (by rfl) U1.heap.size 42 i0 _ 2 24 Tryd.underlying24 hi hz0 hz1 hz2 rfl (by omega) (rv4) (0 + P + 1) ([] ++ ys.take (P * 2) ++ [.string x.r, .int .i64 mm]) (by rfl) HO4.out _ (A7) (k - P) _ (ys.drop (P * 2)) (by rfl) (HCUT.out.below HB4.out) (fun u hu => HX1.out u (List.mem_of_mem_drop hu)) (by simp only [maxLen]; omega) (by omega) HB4.out.size ?_
                        intro rv5 Y5 hown hg hat
                        have HO5 := Lib.hid hown
                        have HB5 : Hid (Below U1.heap.size U1 Y5) := HB4.out.grown hg HB4.out.size (fun k hk => (HO4.out.lt k hk).1)
                        clear hown hg hat
                        refine hK _ _ (fun _ => trivial) (HSS.out _ HB5.out) ?_
                        clear hK K
                        refine anyV_one (i := 12) (by kernel_rfl) rfl rfl (fun K hK => ?_)
                        go_simp
                        refine hK _ _ (fun _ => trivial) (HSS.out _ HB5.out) ?_
                        clear hK K
                        refine anyV_done (by kernel_rfl) ?_ _
                        simp only [normPost]
                        have HF : Hid (Y5.ownsRow U1.heap.size 42 2 rv5 (0 + P + 1 + (k - P)) ([] ++ ys.take (P * 2) ++ [.string x.r, .int .i64 mm] ++ ys.drop (P * 2)) ∧ Below U1.heap.size U1 Y5) := ⟨HO5.out, HB5.out⟩
                        go_wp2
                        go_meet
                        exact ⟨rfl, by have h9 := HF.out.1; rw [show 0 + P + 1 + (k - P) = k + 1 by omega] at h9; rw [HXS.out, ← HYS.out]; exact own_base h9 (Nat.le_refl _), HF.out.2⟩
                      · go_simp
                        obtain ⟨Y2, hY2⟩ : ∃ Zz, Zz = Y1.alloc (.cells #[.string x.r, .int .i64 mm] 42) := ⟨_, rfl⟩
                        have hb : Below Y1.heap.size Y1 Y2 := by rw [hY2]; exact al1 _ _
                        have kn : Bk Y2 Y1.heap.size 42 #[.string x.r, .int .i64 mm] := by rw [hY2]; exact Bk.new _ _ _
                        have ho : Y2.ownsRow U1.heap.size 42 2 (.slice (some ⟨G0, 0, none⟩) 0 0) (0) ([]) := by rw [hY2]; exact HO1.out.alloc _
                        rw [← hY2]
                        clear hY2
                        obtain ⟨G1, hG⟩ : ∃ G, G = Y1.heap.size := ⟨_, rfl⟩
                        rw [← hG] at kn ⊢
                        have KN2 := Lib.hid kn
                        have HO2 := Lib.hid ho
                        have HNE2 : Hid (∀ g, (Value.slice (some ⟨G0, 0, none⟩) 0 0).ownBlock = some g → g ≠ G1) := fun g h e => by have := (HO1.out.lt g h).2; omega
                        have HB2 := Lib.hid (bt hb HB1.out)
                        clear hb hG kn ho
                        refine hK _ _ (fun _ => trivial) (HSS.out _ HB2.out) ?_
                        clear hK K
                        refine anyV_one (i := 4) (by kernel_rfl) rfl rfl (fun K hK => ?_)
                        refine wp_append_rd _ _ _ _ (by rfl) U1.heap.size 42 i0 _ 2 24 Tryd.underlying24 hi hz0 hz1 hz2 rfl (by omega) (.slice (some ⟨G0, 0, none⟩) 0 0) (0) ([]) (by rfl) HO2.out _ (A7) (P) _ (ys.take (P * 2)) (by rfl) ((HSRC.out.head_ hPk).below HB2.out) (fun u hu => HX1.out u (List.mem_of_mem_take hu)) (by simp only [maxLen]; omega) (by omega) HB2.out.size ?_
                        intro rv3 Y3 hown hg hat
                        have HO3 := Lib.hid hown
                        have HB3 : Hid (Below U1.heap.size U1 Y3) := HB2.out.grown hg HB2.out.size (fun k hk => (HO2.out.lt k hk).1)
                        have KN3 := Lib.hid (KN2.out.grown hg (fun e => HNE2.out G1 e.symm rfl))
                        have HNE3 : Hid (∀ g, rv3.ownBlock = some g → g ≠ G1) := fun g h e => by
                          have := KN2.out.lt
                          rcases hat with h9 | h9
                          · exact HNE2.out g (h9 ▸ h) e
                          · rw [h] at h9; injection h9 with h9; omega
                        clear hown hg hat
                        refine hK _ _ (fun _ => trivial) (HSS.out _ HB3.out) ?_
                        clear hK K
                        refine anyV_one (i := 7) (by kernel_rfl) rfl rfl (fun K hK => ?_)
                        refine wp_append_rd _ _ _ _ (by rfl) U1.heap.size 42 i0 _ 2 24 Tryd.underlying24 hi hz0 hz1 hz2 rfl (by omega) (rv3) (0 + P) ([] ++ ys.take (P * 2)) (by rfl) HO3.out _ (some ⟨G1, 0, none⟩) (1) 1 ([.string x.r, .int .i64 mm]) (by rfl) (rd_bk KN3.out rfl KN3.out.lt) (by simp [Value.oneCell']) (by simp only [maxLen]; omega) (by omega) HB3.out.size ?_
                        intro rv4 Y4 hown hg hat
                        have HO4 := Lib.hid hown
                        have HB4 : Hid (Below U1.heap.size U1 Y4) := HB3.out.grown hg HB3.out.size (fun k hk => (HO3.out.lt k hk).1)
                        clear hown hg hat
                        refine hK _ _ (fun _ => trivial) (HSS.out _ HB4.out) ?_
                        clear hK K
                        refine anyV_one (i := 11) (by kernel_rfl) rfl rfl (fun K hK => ?_)
                        refine wp_append_rd _ _ _ _ (by rfl) U1.heap.size 42 i0 _ 2 24 Tryd.underlying24 hi hz0 hz1 hz2 rfl (by omega) (rv4) (0 + P + 1) ([] ++ ys.take (P * 2) ++ [.string x.r, .int .i64 mm]) (by rfl) HO4.out _ (A7) (k - P) _ (ys.drop (P * 2)) (by rfl) (HCUT.out.below HB4.out) (fun u hu => HX1.out u (List.mem_of_mem_drop hu)) (by simp only [maxLen]; omega) (by omega) HB4.out.size ?_
                        intro rv5 Y5 hown hg hat
                        have HO5 := Lib.hid hown
                        have HB5 : Hid (Below U1.heap.size U1 Y5) := HB4.out.grown hg HB4.out.size (fun k hk => (HO4.out.lt k hk).1)
                        clear hown hg hat
                        refine hK _ _ (fun _ => trivial) (HSS.out _ HB5.out) ?_
                        clear hK K
                        refine anyV_one (i := 12) (by kernel_rfl) rfl rfl (fun K hK => ?_)
                        go_simp
                        refine hK _ _ (fun _ => trivial) (HSS.out _ HB5.out) ?_
                        clear hK K
                        refine anyV_done (by kernel_rfl) ?_ _
                        simp only [normPost]
                        have HF : Hid (Y5.ownsRow U1.heap.size 42 2 rv5 (0 + P + 1 + (k - P)) ([] ++ ys.take (P * 2) ++ [.string x.r, .int .i64 mm] ++ ys.drop (P * 2)) ∧ Below U1.heap.size U1 Y5) := ⟨HO5.out, HB5.out⟩
                        go_wp2
                        go_meet
                        exact ⟨rfl, by have h9 := HF.out.1; rw [show 0 + P + 1 + (k - P) = k + 1 by omega] at h9; rw [HXS.out, ← HYS.out]; exact own_base h9 (Nat.le_refl _), HF.out.2⟩
                    · go_simp
                      obtain ⟨Y1, hY1⟩ : ∃ Zz, Zz = Y0.alloc (.cells #[.string x.r, .int .i64 mm] 42) := ⟨_, rfl⟩
                      have hb : Below Y0.heap.size Y0 Y1 := by rw [hY1]; exact al1 _ _
                      have kn : Bk Y1 Y0.heap.size 42 #[.string x.r, .int .i64 mm] := by rw [hY1]; exact Bk.new _ _ _
                      rw [← hY1]
                      clear hY1
                      obtain ⟨G1, hG⟩ : ∃ G, G = Y0.heap.size := ⟨_, rfl⟩
                      rw [← hG] at kn ⊢
                      have KN1 := Lib.hid kn
                      have HB1 := Lib.hid (bt hb HB0.out)
                      clear hb hG kn
                      refine hK _ _ (fun _ => trivial) (HSS.out _ HB1.out) ?_
                      clear hK K
                      refine anyV_one (i := 0) (by kernel_rfl) rfl rfl (fun K hK => ?_)
                      go_simp
                      obtain ⟨Y2, hY2⟩ : ∃ Zz, Zz = Y1.alloc (.cells #[] 42) := ⟨_, rfl⟩
                      have hb : Below Y1.heap.size Y1 Y2 := by rw [hY2]; exact al1 _ _
                      have ho : Y2.ownsRow U1.heap.size 42 2 (.slice (some ⟨Y1.heap.size, 0, none⟩) 0 0) 0 [] := by rw [hY2]; exact own_empty (by simp [at?_alloc]) HB1.out.size
                      rw [← hY2]
                      clear hY2
                      obtain ⟨G0, hG⟩ : ∃ G, G = Y1.heap.size := ⟨_, rfl⟩
                      rw [← hG] at ho ⊢
                      have HO2 := Lib.hid ho
                      have KN2 := Lib.hid (KN1.out.next hb)
                      have HNE2 : Hid (∀ g, (Value.slice (some ⟨G0, 0, none⟩) 0 0).ownBlock = some g → g ≠ G1) := fun g h e => by have := KN1.out.lt; injection h with h; simp at h; omega
                      have HB2 := Lib.hid (bt hb HB1.out)
                      clear hb hG ho
                      refine hK _ _ (fun _ => trivial) (HSS.out _ HB2.out) ?_
                      clear hK K
                      refine anyV_one (i := 4) (by kernel_rfl) rfl rfl (fun K hK => ?_)
                      refine wp_append_rd _ _ _ _ (by rfl) U1.heap.size 42 i0 _ 2 24 Tryd.underlying24 hi hz0 hz1 hz2 rfl (by omega) (.slice (some ⟨G0, 0, none⟩) 0 0) (0) ([]) (by rfl) HO2.out _ (A7) (P) _ (ys.take (P * 2)) (by rfl) ((HSRC.out.head_ hPk).below HB2.out) (fun u hu => HX1.out u (List.mem_of_mem_take hu)) (by simp only [maxLen]; omega) (by omega) HB2.out.size ?_
                      intro rv3 Y3 hown hg hat
                      have HO3 := Lib.hid hown
                      have HB3 : Hid (Below U1.heap.size U1 Y3) := HB2.out.grown hg HB2.out.size (fun k hk => (HO2.out.lt k hk).1)
                      have KN3 := Lib.hid (KN2.out.grown hg (fun e => HNE2.out G1 e.symm rfl))
                      have HNE3 : Hid (∀ g, rv3.ownBlock = some g → g ≠ G1) := fun g h e => by
                        have := KN2.out.lt
                        rcases hat with h9 | h9
                        · exact HNE2.out g (h9 ▸ h) e
                        · rw [h] at h9; injection h9 with h9; omega
                      clear hown hg hat
                      refine hK _ _ (fun _ => trivial) (HSS.out _ HB3.out) ?_
                      clear hK K
                      refine anyV_one (i := 7) (by kernel_rfl) rfl rfl (fun K hK => ?_)
                      refine wp_append_rd _ _ _ _ (by rfl) U1.heap.size 42 i0 _ 2 24 Tryd.underlying24 hi hz0 hz1 hz2 rfl (by omega) (rv3) (0 + P) ([] ++ ys.take (P * 2)) (by rfl) HO3.out _ (some ⟨G1, 0, none⟩) (1) 1 ([.string x.r, .int .i64 mm]) (by rfl) (rd_bk KN3.out rfl KN3.out.lt) (by simp [Value.oneCell']) (by simp only [maxLen]; omega) (by omega) HB3.out.size ?_
                      intro rv4 Y4 hown hg hat
                      have HO4 := Lib.hid hown
                      have HB4 : Hid (Below U1.heap.size U1 Y4) := HB3.out.grown hg HB3.out.size (fun k hk => (HO3.out.lt k hk).1)
                      clear hown hg hat
                      refine hK _ _ (fun _ => trivial) (HSS.out _ HB4.out) ?_
                      clear hK K
                      refine anyV_one (i := 11) (by kernel_rfl) rfl rfl (fun K hK => ?_)
                      refine wp_append_rd _ _ _ _ (by rfl) U1.heap.size 42 i0 _ 2 24 Tryd.underlying24 hi hz0 hz1 hz2 rfl (by omega) (rv4) (0 + P + 1) ([] ++ ys.take (P * 2) ++ [.string x.r, .int .i64 mm]) (by rfl) HO4.out _ (A7) (k - P) _ (ys.drop (P * 2)) (by rfl) (HCUT.out.below HB4.out) (fun u hu => HX1.out u (List.mem_of_mem_drop hu)) (by simp only [maxLen]; omega) (by omega) HB4.out.size ?_
                      intro rv5 Y5 hown hg hat
                      have HO5 := Lib.hid hown
                      have HB5 : Hid (Below U1.heap.size U1 Y5) := HB4.out.grown hg HB4.out.size (fun k hk => (HO4.out.lt k hk).1)
                      clear hown hg hat
                      refine hK _ _ (fun _ => trivial) (HSS.out _ HB5.out) ?_
                      clear hK K
                      refine anyV_one (i := 12) (by kernel_rfl) rfl rfl (fun K hK => ?_)
                      go_simp
                      refine hK _ _ (fun _ => trivial) (HSS.out _ HB5.out) ?_
                      clear hK K
                      refine anyV_done (by kernel_rfl) ?_ _
                      simp only [normPost]
                      have HF : Hid (Y5.ownsRow U1.heap.size 42 2 rv5 (0 + P + 1 + (k - P)) ([] ++ ys.take (P * 2) ++ [.string x.r, .int .i64 mm] ++ ys.drop (P * 2)) ∧ Below U1.heap.size U1 Y5) := ⟨HO5.out, HB5.out⟩
                      go_wp2
                      go_meet
                      exact ⟨rfl, by have h9 := HF.out.1; rw [show 0 + P + 1 + (k - P) = k + 1 by omega] at h9; rw [HXS.out, ← HYS.out]; exact own_base h9 (Nat.le_refl _), HF.out.2⟩
                  · refine region_V (fun _ => True) (fun w' => w'.cell? ⟨PB, 0, none⟩ = some (.string x.r) ∧ w'.cell? ⟨PB, 1, none⟩ = some (.int .i64 mm)) 99 (by kernel_rfl) ?_
                    obtain ⟨Y0, hY0⟩ : ∃ Zz, Zz = U1.drew := ⟨_, rfl⟩
                    have hb0 : Below U1.heap.size U1 Y0 := by rw [hY0]; exact (Below.refl _ U1).drew
                    rw [← hY0]
                    clear hY0
                    have HSRC := Lib.hid hsrc
                    have HB0 := Lib.hid hb0
                    have HSS : Hid (∀ w', Below U1.heap.size U1 w' → w'.cell? ⟨PB, 0, none⟩ = some (.string x.r) ∧ w'.cell? ⟨PB, 1, none⟩ = some (.int .i64 mm)) := fun w' hb => box2 (KXC.out.next hb)
                    have HSX := HSS.out Y0 HB0.out
                    clear hb0 hsrc
                    have HCUT : Hid (RdS U1 U1.heap.size 2 ((A7).map (·.add (P * 2))) (k - P) (ys.drop (P * 2))) := by
                      have := HSRC.out.cut hPk hcap
                      rw [if_neg hcp] at this
                      show RdS _ _ _ _ _ _
                      simpa only [Nat.mul_one] using this
                    refine anyV_take2 (i := 1) rfl (by decide) (by kernel_rfl) (by kernel_rfl) (by kernel_rfl) (fun _ _ _ h => h) (Or.inl ⟨by rfl, fun w' hS' => (by obtain ⟨s1, s2⟩ := hS'; go_simp; try with_reducible rfl)⟩) trivial HSX ?_
                    refine anyV_take2 (i := 2) rfl (by decide) (by kernel_rfl) (by kernel_rfl) (by kernel_rfl) (fun _ _ _ h => h) (Or.inl ⟨by rfl, fun w' hS' => (by obtain ⟨s1, s2⟩ := hS'; go_simp; try with_reducible rfl)⟩) trivial HSX ?_
                    refine anyV_take2 (i := 3) rfl (by decide) (by kernel_rfl) (by kernel_rfl) (by kernel_rfl) (fun _ _ _ h => h) (Or.inl ⟨by rfl, fun w' hS' => (by obtain ⟨s1, s2⟩ := hS'; go_simp; try with_reducible rfl)⟩) trivial HSX ?_
                    refine anyV_take2 (i := 5) rfl (by decide) (by kernel_rfl) (by kernel_rfl) (by kernel_rfl) (fun _ _ _ h => h) (Or.inl ⟨by rfl, fun w' hS' => (by obtain ⟨s1, s2⟩ := hS'; go_simp; try with_reducible rfl)⟩) trivial HSX ?_
                    refine anyV_take2 (i := 8) rfl (by decide) (by kernel_rfl) (by kernel_rfl) (by kernel_rfl) (fun _ _ _ h => h) (Or.inl ⟨by rfl, fun w' hS' => (by obtain ⟨s1, s2⟩ := hS'; go_simp; try with_reducible rfl)⟩) trivial HSX ?_
                    refine anyV_take2 (i := 9) rfl (by decide) (by kernel_rfl) (by kernel_rfl) (by kernel_rfl) (fun _ _ _ h => h) (Or.inl ⟨by rfl, fun w' hS' => (by obtain ⟨s1, s2⟩ := hS'; go_simp; try with_reducible rfl)⟩) trivial HSX ?_
                    refine anyV_take2 (i := 10) rfl (by decide) (by kernel_rfl) (by kernel_rfl) (by kernel_rfl) (fun _ _ _ h => h) (Or.inl ⟨by rfl, fun w' hS' => (by obtain ⟨s1, s2⟩ := hS'; go_simp; try with_reducible rfl)⟩) trivial HSX ?_
                    clear HSX
                    refine anyV_two (i := 0) (j := 6) (by kernel_rfl) rfl rfl rfl rfl (fun K hK => ?_) (fun K hK => ?_)
                    · go_simp
                      obtain ⟨Y1, hY1⟩ : ∃ Zz, Zz = Y0.alloc (.cells #[] 42) := ⟨_, rfl⟩
                      have hb : Below Y0.heap.size Y0 Y1 := by rw [hY1]; exact al1 _ _
                      have ho : Y1.ownsRow U1.heap.size 42 2 (.slice (some ⟨Y0.heap.size, 0, none⟩) 0 0) 0 [] := by rw [hY1]; exact own_empty (by simp [at?_alloc]) HB0.out.size
                      rw [← hY1]
                      clear hY1
                      obtain ⟨G0, hG⟩ : ∃ G, G = Y0.heap.size := ⟨_, rfl⟩
                      rw [← hG] at ho ⊢
                      have HO1 := Lib.hid ho
                      have HB1 := Lib.hid (bt hb HB0.out)
                      clear hb hG ho
                      refine hK _ _ (fun _ => trivial) (HSS.out _ HB1.out) ?_
                      clear hK K
                      refine anyV_two (i := 4) (j := 6) (by kernel_rfl) rfl rfl rfl rfl (fun K hK => ?_) (fun K hK => ?_)
                      · refine wp_append_rd _ _ _ _ (by rfl) U1.heap.size 42 i0 _ 2 24 Tryd.underlying24 hi hz0 hz1 hz2 rfl (by omega) (.slice (some ⟨G0, 0, none⟩) 0 0) (0) ([]) (by rfl) HO1.out _ (A7) (P) _ (ys.take (P * 2)) (by rfl) ((HSRC.out.head_ hPk).below HB1.out) (fun u hu => HX1.out u (List.mem_of_mem_take hu)) (by simp only [maxLen]; omega) (by omega) HB1.out.size ?_
                        intro rv2 Y2 hown hg hat
                        have HO2 := Lib.hid hown
                        have HB2 : Hid (Below U1.heap.size U1 Y2) := HB1.out.grown hg HB1.out.size (fun k hk => (HO1.out.lt k hk).1)
                        clear hown hg hat
                        refine hK _ _ (fun _ => trivial) (HSS.out _ HB2.out) ?_
                        clear hK K
                        refine anyV_one (i := 6) (by kernel_rfl) rfl rfl (fun K hK => ?_)
                        go_simp
                        obtain ⟨Y3, hY3⟩ : ∃ Zz, Zz = Y2.alloc (.cells #[.string x.r, .int .i64 mm] 42) := ⟨_, rfl⟩
                        have hb : Below Y2.heap.size Y2 Y3 := by rw [hY3]; exact al1 _ _
                        have kn : Bk Y3 Y2.heap.size 42 #[.string x.r, .int .i64 mm] := by rw [hY3]; exact Bk.new _ _ _
                        have ho : Y3.ownsRow U1.heap.size 42 2 (rv2) (0 + P) ([] ++ ys.take (P * 2)) := by rw [hY3]; exact HO2.out.alloc _
                        rw [← hY3]
                        clear hY3
                        obtain ⟨G1, hG⟩ : ∃ G, G = Y2.heap.size := ⟨_, rfl⟩
                        rw [← hG] at kn ⊢
                        have KN3 := Lib.hid kn
                        have HO3 := Lib.hid ho
                        have HNE3 : Hid (∀ g, (rv2).ownBlock = some g → g ≠ G1) := fun g h e => by have := (HO2.out.lt g h).2; omega
                        have HB3 := Lib.hid (bt hb HB2.out)
                        clear hb hG kn ho
                        refine hK _ _ (fun _ => trivial) (HSS.out _ HB3.out) ?_
                        clear hK K
                        refine anyV_one (i := 7) (by kernel_rfl) rfl rfl (fun K hK => ?_)
                        refine wp_append_rd _ _ _ _ (by rfl) U1.heap.size 42 i0 _ 2 24 Tryd.underlying24 hi hz0 hz1 hz2 rfl (by omega) (rv2) (0 + P) ([] ++ ys.take (P * 2)) (by rfl) HO3.out _ (some ⟨G1, 0, none⟩) (1) 1 ([.string x.r, .int .i64 mm]) (by rfl) (rd_bk KN3.out rfl KN3.out.lt) (by simp [Value.oneCell']) (by simp only [maxLen]; omega) (by omega) HB3.out.size ?_
                        intro rv4 Y4 hown hg hat
                        have HO4 := Lib.hid hown
                        have HB4 : Hid (Below U1.heap.size U1 Y4) := HB3.out.grown hg HB3.out.size (fun k hk => (HO3.out.lt k hk).1)
                        clear hown hg hat
                        refine hK _ _ (fun _ => trivial) (HSS.out _ HB4.out) ?_
                        clear hK K
                        refine anyV_one (i := 11) (by kernel_rfl) rfl rfl (fun K hK => ?_)
                        refine wp_append_rd _ _ _ _ (by rfl) U1.heap.size 42 i0 _ 2 24 Tryd.underlying24 hi hz0 hz1 hz2 rfl (by omega) (rv4) (0 + P + 1) ([] ++ ys.take (P * 2) ++ [.string x.r, .int .i64 mm]) (by rfl) HO4.out _ ((A7).map (·.add (P * 2))) (k - P) _ (ys.drop (P * 2)) (by rfl) (HCUT.out.below HB4.out) (fun u hu => HX1.out u (List.mem_of_mem_drop hu)) (by simp only [maxLen]; omega) (by omega) HB4.out.size ?_
                        intro rv5 Y5 hown hg hat
                        have HO5 := Lib.hid hown
                        have HB5 : Hid (Below U1.heap.size U1 Y5) := HB4.out.grown hg HB4.out.size (fun k hk => (HO4.out.lt k hk).1)
                        clear hown hg hat
                        refine hK _ _ (fun _ => trivial) (HSS.out _ HB5.out) ?_
                        clear hK K
                        refine anyV_one (i := 12) (by kernel_rfl) rfl rfl (fun K hK => ?_)
                        go_simp
                        refine hK _ _ (fun _ => trivial) (HSS.out _ HB5.out) ?_
                        clear hK K
                        refine anyV_done (by kernel_rfl) ?_ _
                        simp only [normPost]
                        have HF : Hid (Y5.ownsRow U1.heap.size 42 2 rv5 (0 + P + 1 + (k - P)) ([] ++ ys.take (P * 2) ++ [.string x.r, .int .i64 mm] ++ ys.drop (P * 2)) ∧ Below U1.heap.size U1 Y5) := ⟨HO5.out, HB5.out⟩
                        go_wp2
                        go_meet
                        exact ⟨rfl, by have h9 := HF.out.1; rw [show 0 + P + 1 + (k - P) = k + 1 by omega] at h9; rw [HXS.out, ← HYS.out]; exact own_base h9 (Nat.le_refl _), HF.out.2⟩
                      · go_simp
                        obtain ⟨Y2, hY2⟩ : ∃ Zz, Zz = Y1.alloc (.cells #[.string x.r, .int .i64 mm] 42) := ⟨_, rfl⟩
                        have hb : Below Y1.heap.size Y1 Y2 := by rw [hY2]; exact al1 _ _
                        have kn : Bk Y2 Y1.heap.size 42 #[.string x.r, .int .i64 mm] := by rw [hY2]; exact Bk.new _ _ _
                        have ho : Y2.ownsRow U1.heap.size 42 2 (.slice (some ⟨G0, 0, none⟩) 0 0) (0) ([]) := by rw [hY2]; exact HO1.out.alloc _
                        rw [← hY2]
                        clear hY2
                        obtain ⟨G1, hG⟩ : ∃ G, G = Y1.heap.size := ⟨_, rfl⟩
                        rw [← hG] at kn ⊢
                        have KN2 := Lib.hid kn
                        have HO2 := Lib.hid ho
                        have HNE2 : Hid (∀ g, (Value.slice (some ⟨G0, 0, none⟩) 0 0).ownBlock = some g → g ≠ G1) := fun g h e => by have := (HO1.out.lt g h).2; omega
                        have HB2 := Lib.hid (bt hb HB1.out)
                        clear hb hG kn ho
                        refine hK _ _ (fun _ => trivial) (HSS.out _ HB2.out) ?_
                        clear hK K
                        refine anyV_one (i := 4) (by kernel_rfl) rfl rfl (fun K hK => ?_)
                        refine wp_append_rd _ _ _ _ (by rfl) U1.heap.size 42 i0 _ 2 24 Tryd.underlying24 hi hz0 hz1 hz2 rfl (by omega) (.slice (some ⟨G0, 0, none⟩) 0 0) (0) ([]) (by rfl) HO2.out _ (A7) (P) _ (ys.take (P * 2)) (by rfl) ((HSRC.out.head_ hPk).below HB2.out) (fun u hu => HX1.out u (List.mem_of_mem_take hu)) (by simp only [maxLen]; omega) (by omega) HB2.out.size ?_
                        intro rv3 Y3 hown hg hat
                        have HO3 := Lib.hid hown
                        have HB3 : Hid (Below U1.heap.size U1 Y3) := HB2.out.grown hg HB2.out.size (fun k hk => (HO2.out.lt k hk).1)
                        have KN3 := Lib.hid (KN2.out.grown hg (fun e => HNE2.out G1 e.symm rfl))
                        have HNE3 : Hid (∀ g, rv3.ownBlock = some g → g ≠ G1) := fun g h e => by
                          have := KN2.out.lt
                          rcases hat with h9 | h9
                          · exact HNE2.out g (h9 ▸ h) e
                          · rw [h] at h9; injection h9 with h9; omega
                        clear hown hg hat
                        refine hK _ _ (fun _ => trivial) (HSS.out _ HB3.out) ?_
                        clear hK K
                        refine anyV_one (i := 7) (by kernel_rfl) rfl rfl (fun K hK => ?_)
                        refine wp_append_rd _ _ _ _ (by rfl) U1.heap.size 42 i0 _ 2 24 Tryd.underlying24 hi hz0 hz1 hz2 rfl (by omega) (rv3) (0 + P) ([] ++ ys.take (P * 2)) (by rfl) HO3.out _ (some ⟨G1, 0, none⟩) (1) 1 ([.string x.r, .int .i64 mm]) (by rfl) (rd_bk KN3.out rfl KN3.out.lt) (by simp [Value.oneCell']) (by simp only [maxLen]; omega) (by omega) HB3.out.size ?_
                        intro rv4 Y4 hown hg hat
                        have HO4 := Lib.hid hown
                        have HB4 : Hid (Below U1.heap.size U1 Y4) := HB3.out.grown hg HB3.out.size (fun k hk => (HO3.out.lt k hk).1)
                        clear hown hg hat
                        refine hK _ _ (fun _ => trivial) (HSS.out _ HB4.out) ?_
                        clear hK K
                        refine anyV_one (i := 11) (by kernel_rfl) rfl rfl (fun K hK => ?_)
                        refine wp_append_rd _ _ _ _ (by rfl) U1.heap.size 42 i0 _ 2 24 Tryd.underlying24 hi hz0 hz1 hz2 rfl (by omega) (rv4) (0 + P + 1) ([] ++ ys.take (P * 2) ++ [.string x.r, .int .i64 mm]) (by rfl) HO4.out _ ((A7).map (·.add (P * 2))) (k - P) _ (ys.drop (P * 2)) (by rfl) (HCUT.out.below HB4.out) (fun u hu => HX1.out u (List.mem_of_mem_drop hu)) (by simp only [maxLen]; omega) (by omega) HB4.out.size ?_
                        intro rv5 Y5 hown hg hat
                        have HO5 := Lib.hid hown
                        have HB5 : Hid (Below U1.heap.size U1 Y5) := HB4.out.grown hg HB4.out.size (fun k hk => (HO4.out.lt k hk).1)
                        clear hown hg hat
                        refine hK _ _ (fun _ => trivial) (HSS.out _ HB5.out) ?_
                        clear hK K
                        refine anyV_one (i := 12) (by kernel_rfl) rfl rfl (fun K hK => ?_)
                        go_simp
                        refine hK _ _ (fun _ => trivial) (HSS.out _ HB5.out) ?_
                        clear hK K
                        refine anyV_done (by kernel_rfl) ?_ _
                        simp only [normPost]
                        have HF : Hid (Y5.ownsRow U1.heap.size 42 2 rv5 (0 + P + 1 + (k - P)) ([] ++ ys.take (P * 2) ++ [.string x.r, .int .i64 mm] ++ ys.drop (P * 2)) ∧ Below U1.heap.size U1 Y5) := ⟨HO5.out, HB5.out⟩
                        go_wp2
                        go_meet
                        exact ⟨rfl, by have h9 := HF.out.1; rw [show 0 + P + 1 + (k - P) = k + 1 by omega] at h9; rw [HXS.out, ← HYS.out]; exact own_base h9 (Nat.le_refl _), HF.out.2⟩
                    · go_simp
                      obtain ⟨Y1, hY1⟩ : ∃ Zz, Zz = Y0.alloc (.cells #[.string x.r, .int .i64 mm] 42) := ⟨_, rfl⟩
                      have hb : Below Y0.heap.size Y0 Y1 := by rw [hY1]; exact al1 _ _
                      have kn : Bk Y1 Y0.heap.size 42 #[.string x.r, .int .i64 mm] := by rw [hY1]; exact Bk.new _ _ _
                      rw [← hY1]
                      clear hY1
                      obtain ⟨G1, hG⟩ : ∃ G, G = Y0.heap.size := ⟨_, rfl⟩
                      rw [← hG] at kn ⊢
                      have KN1 := Lib.hid kn
                      have HB1 := Lib.hid (bt hb HB0.out)
                      clear hb hG kn
                      refine hK _ _ (fun _ => trivial) (HSS.out _ HB1.out) ?_
                      clear hK K
                      refine anyV_one (i := 0) (by kernel_rfl) rfl rfl (fun K hK => ?_)
                      go_simp
                      obtain ⟨Y2, hY2⟩ : ∃ Zz, Zz = Y1.alloc (.cells #[] 42) := ⟨_, rfl⟩
                      have hb : Below Y1.heap.size Y1 Y2 := by rw [hY2]; exact al1 _ _
                      have ho : Y2.ownsRow U1.heap.size 42 2 (.slice (some ⟨Y1.heap.size, 0, none⟩) 0 0) 0 [] := by rw [hY2]; exact own_empty (by simp [at?_alloc]) HB1.out.size
                      rw [← hY2]
                      clear hY2
                      obtain ⟨G0, hG⟩ : ∃ G, G = Y1.heap.size := ⟨_, rfl⟩
                      rw [← hG] at ho ⊢
                      have HO2 := Lib.hid ho
                      have KN2 := Lib.hid (KN1.out.next hb)
                      have HNE2 : Hid (∀ g, (Value.slice (some ⟨G0, 0, none⟩) 0 0).ownBlock = some g → g ≠ G1) := fun g h e => by have := KN1.out.lt; injection h with h; simp at h; omega
                      have HB2 := Lib.hid (bt hb HB1.out)
                      clear hb hG ho
                      refine hK _ _ (fun _ => trivial) (HSS.out _ HB2.out) ?_
                      clear hK K
                      refine anyV_one (i := 4) (by kernel_rfl) rfl rfl (fun K hK => ?_)
                      refine wp_append_rd _ _ _ _ (by rfl) U1.heap.size 42 i0 _ 2 24 Tryd.underlying24 hi hz0 hz1 hz2 rfl (by omega) (.slice (some ⟨G0, 0, none⟩) 0 0) (0) ([]) (by rfl) HO2.out _ (A7) (P) _ (ys.take (P * 2)) (by rfl) ((HSRC.out.head_ hPk).below HB2.out) (fun u hu => HX1.out u (List.mem_of_mem_take hu)) (by simp only [maxLen]; omega) (by omega) HB2.out.size ?_
                      intro rv3 Y3 hown hg hat
                      have HO3 := Lib.hid hown
                      have HB3 : Hid (Below U1.heap.size U1 Y3) := HB2.out.grown hg HB2.out.size (fun k hk => (HO2.out.lt k hk).1)
                      have KN3 := Lib.hid (KN2.out.grown hg (fun e => HNE2.out G1 e.symm rfl))
                      have HNE3 : Hid (∀ g, rv3.ownBlock = some g → g ≠ G1) := fun g h e => by
                        have := KN2.out.lt
                        rcases hat with h9 | h9
                        · exact HNE2.out g (h9 ▸ h) e
                        · rw [h] at h9; injection h9 with h9; omega
                      clear hown hg hat
                      refine hK _ _ (fun _ => trivial) (HSS.out _ HB3.out) ?_
                      clear hK K
                      refine anyV_one (i := 7) (by kernel_rfl) rfl rfl (fun K hK => ?_)
                      refine wp_append_rd _ _ _ _ (by rfl) U1.heap.size 42 i0 _ 2 24 Tryd.underlying24 hi hz0 hz1 hz2 rfl (by omega) (rv3) (0 + P) ([] ++ ys.take (P * 2)) (by rfl) HO3.out _ (some ⟨G1, 0, none⟩) (1) 1 ([.string x.r, .int .i64 mm]) (by rfl) (rd_bk KN3.out rfl KN3.out.lt) (by simp [Value.oneCell']) (by simp only [maxLen]; omega) (by omega) HB3.out.size ?_
                      intro rv4 Y4 hown hg hat
                      have HO4 := Lib.hid hown
                      have HB4 : Hid (Below U1.heap.size U1 Y4) := HB3.out.grown hg HB3.out.size (fun k hk => (HO3.out.lt k hk).1)
                      clear hown hg hat
                      refine hK _ _ (fun _ => trivial) (HSS.out _ HB4.out) ?_
                      clear hK K
                      refine anyV_one (i := 11) (by kernel_rfl) rfl rfl (fun K hK => ?_)
                      refine wp_append_rd _ _ _ _ (by rfl) U1.heap.size 42 i0 _ 2 24 Tryd.underlying24 hi hz0 hz1 hz2 rfl (by omega) (rv4) (0 + P + 1) ([] ++ ys.take (P * 2) ++ [.string x.r, .int .i64 mm]) (by rfl) HO4.out _ ((A7).map (·.add (P * 2))) (k - P) _ (ys.drop (P * 2)) (by rfl) (HCUT.out.below HB4.out) (fun u hu => HX1.out u (List.mem_of_mem_drop hu)) (by simp only [maxLen]; omega) (by omega) HB4.out.size ?_
                      intro rv5 Y5 hown hg hat
                      have HO5 := Lib.hid hown
                      have HB5 : Hid (Below U1.heap.size U1 Y5) := HB4.out.grown hg HB4.out.size (fun k hk => (HO4.out.lt k hk).1)
                      clear hown hg hat
                      refine hK _ _ (fun _ => trivial) (HSS.out _ HB5.out) ?_
                      clear hK K
                      refine anyV_one (i := 12) (by kernel_rfl) rfl rfl (fun K hK => ?_)
                      go_simp
                      refine hK _ _ (fun _ => trivial) (HSS.out _ HB5.out) ?_
                      clear hK K
                      refine anyV_done (by kernel_rfl) ?_ _
                      simp only [normPost]
                      have HF : Hid (Y5.ownsRow U1.heap.size 42 2 rv5 (0 + P + 1 + (k - P)) ([] ++ ys.take (P * 2) ++ [.string x.r, .int .i64 mm] ++ ys.drop (P * 2)) ∧ Below U1.heap.size U1 Y5) := ⟨HO5.out, HB5.out⟩
                      go_wp2
                      go_meet
                      exact ⟨rfl, by have h9 := HF.out.1; rw [show 0 + P + 1 + (k - P) = k + 1 by omega] at h9; rw [HXS.out, ← HYS.out]; exact own_base h9 (Nat.le_refl _), HF.out.2⟩
                case rest =>
                  obtain ⟨rfl, o72, hb2⟩ := hcut
                  obtain ⟨U2, hU2⟩ : ∃ Zz, Zz = wc := ⟨_, rfl⟩
                  rw [← hU2] at o72 hb2
                  rw [← hU2]
                  have HO72 := Lib.hid o72
                  have HBU2 := Lib.hid hb2
                  clear o72 hb2 hU2
                  obtain ⟨i0, hi, hz0, hz1, hz2⟩ := info_parts info_int
                  have hcap : k ≤ c8 := hc8
                  go_wp2_with fail
                  obtain ⟨ys, hys⟩ : ∃ ys, ys = (cI l k).map inI := ⟨_, rfl⟩
                  have HYS := Lib.hid hys
                  have HX1 : Hid (∀ u ∈ ys, u.oneCell' = true) := by show ∀ u ∈ ys, _; rw [hys]; exact inI_one _
                  have hsrc : RdS U2 U2.heap.size 1 (A8) k ys := by rw [hys]; exact ((RdS.of_own H84.out).next HBC.out).next HBU2.out
                  clear hys
                  by_cases hcp : c8 = P
                  · refine region_V (fun _ => True) (fun w' => True) 99 (by kernel_rfl) ?_
                    obtain ⟨Y0, hY0⟩ : ∃ Zz, Zz = U2.drew := ⟨_, rfl⟩
                    have hb0 : Below U2.heap.size U2 Y0 := by rw [hY0]; exact (Below.refl _ U2).drew
                    rw [← hY0]
                    clear hY0
                    have HSRC := Lib.hid hsrc
                    have HB0 := Lib.hid hb0
                    have HSS : Hid (∀ w', Below U2.heap.size U2 w' → True) := fun w' hb => trivial
                    have HSX := HSS.out Y0 HB0.out
                    clear hb0 hsrc
                    have HCUT : Hid (RdS U2 U2.heap.size 1 (A8) (k - P) (ys.drop (P * 1))) := by
                      have := HSRC.out.cut hPk hcap
                      rwa [if_pos hcp] at this
                    refine anyV_take2 (i := 1) rfl (by decide) (by kernel_rfl) (by kernel_rfl) (by kernel_rfl) (fun _ _ _ h => h) (Or.inl ⟨by rfl, fun w' hS' => (by go_simp; try with_reducible rfl)⟩) trivial HSX ?_
                    refine anyV_take2 (i := 2) rfl (by decide) (by kernel_rfl) (by kernel_rfl) (by kernel_rfl) (fun _ _ _ h => h) (Or.inl ⟨by rfl, fun w' hS' => (by go_simp; try with_reducible rfl)⟩) trivial HSX ?_
                    refine anyV_take2 (i := 3) rfl (by decide) (by kernel_rfl) (by kernel_rfl) (by kernel_rfl) (fun _ _ _ h => h) (Or.inl ⟨by rfl, fun w' hS' => (by go_simp; try with_reducible rfl)⟩) trivial HSX ?_
                    refine anyV_take2 (i := 5) rfl (by decide) (by kernel_rfl) (by kernel_rfl) (by kernel_rfl) (fun _ _ _ h => h) (Or.inl ⟨by rfl, fun w' hS' => (by go_simp; try with_reducible rfl)⟩) trivial HSX ?_
                    refine anyV_take2 (i := 8) rfl (by decide) (by kernel_rfl) (by kernel_rfl) (by kernel_rfl) (fun _ _ _ h => h) (Or.inl ⟨by rfl, fun w' hS' => (by go_simp; try with_reducible rfl)⟩) trivial HSX ?_
                    refine anyV_take2 (i := 9) rfl (by decide) (by kernel_rfl) (by kernel_rfl) (by kernel_rfl) (fun _ _ _ h => h) (Or.inl ⟨by rfl, fun w' hS' => (by go_simp; try with_reducible rfl)⟩) trivial HSX ?_
                    refine anyV_take2 (i := 10) rfl (by decide) (by kernel_rfl) (by kernel_rfl) (by kernel_rfl) (fun _ _ _ h => h) (Or.inl ⟨by rfl, fun w' hS' => (by go_simp; try with_reducible rfl)⟩) trivial HSX ?_
                    clear HSX
                    refine anyV_two (i := 0) (j := 6) (by kernel_rfl) rfl rfl rfl rfl (fun K hK => ?_) (fun K hK => ?_)
                    · go_simp
                      obtain ⟨Y1, hY1⟩ : ∃ Zz, Zz = Y0.alloc (.cells #[] 3) := ⟨_, rfl⟩
                      have hb : Below Y0.heap.size Y0 Y1 := by rw [hY1]; exact al1 _ _
                      have ho : Y1.ownsRow U2.heap.size 3 1 (.slice (some ⟨Y0.heap.size, 0, none⟩) 0 0) 0 [] := by rw [hY1]; exact own_empty (by simp [at?_alloc]) HB0.out.size
                      rw [← hY1]
                      clear hY1
                      obtain ⟨G0, hG⟩ : ∃ G, G = Y0.heap.size := ⟨_, rfl⟩
                      rw [← hG] at ho ⊢
                      have HO1 := Lib.hid ho
                      have HB1 := Lib.hid (bt hb HB0.out)
                      clear hb hG ho
                      refine hK _ _ (fun _ => trivial) (HSS.out _ HB1.out) ?_
                      clear hK K
                      refine anyV_two (i := 4) (j := 6) (by kernel_rfl) rfl rfl rfl rfl (fun K hK => ?_) (fun K hK => ?_)
                      · refine wp_append_rd _ _ _ _ (by rfl) U2.heap.size 3 i0 _ 1 8 Tryd.underlying25 hi hz0 hz1 hz2 rfl (by omega) (.slice (some ⟨G0, 0, none⟩) 0 0) (0) ([]) (by rfl) HO1.out _ (A8) (P) _ (ys.take (P * 1)) (by rfl) ((HSRC.out.head_ hPk).below HB1.out) (fun u hu => HX1.out u (List.mem_of_mem_take hu)) (by simp only [maxLen]; omega) (by omega) HB1.out.size ?_
                        intro rv2 Y2 hown hg hat
                        have HO2 := Lib.hid hown
                        have HB2 : Hid (Below U2.heap.size U2 Y2) := HB1.out.grown hg HB1.out.size (fun k hk => (HO1.out.lt k hk).1)
                        clear hown hg hat
                        refine hK _ _ (fun _ => trivial) (HSS.out _ HB2.out) ?_
                        clear hK K
                        refine anyV_one (i := 6) (by kernel_rfl) rfl rfl (fun K hK => ?_)
                        go_simp
                        obtain ⟨Y3, hY3⟩ : ∃ Zz, Zz = Y2.alloc (.cells #[.int .i64 (k : Int)] 3) := ⟨_, rfl⟩
                        have hb : Below Y2.heap.size Y2 Y3 := by rw [hY3]; exact al1 _ _
                        have kn : Bk Y3 Y2.heap.size 3 #[.int .i64 (k : Int)] := by rw [hY3]; exact Bk.new _ _ _
                        have ho : Y3.ownsRow U2.heap.size 3 1 (rv2) (0 + P) ([] ++ ys.take (P * 1)) := by rw [hY3]; exact HO2.out.alloc _
                        rw [← hY3]
                        clear hY3
                        obtain ⟨G1, hG⟩ : ∃ G, G = Y2.heap.size := ⟨_, rfl⟩
                        rw [← hG] at kn ⊢
                        have KN3 := Lib.hid kn
                        have HO3 := Lib.hid ho
                        have HNE3 : Hid (∀ g, (rv2).ownBlock = some g → g ≠ G1) := fun g h e => by have := (HO2.out.lt g h).2; omega
                        have HB3 := Lib.hid (bt hb HB2.out)
                        clear hb hG kn ho
                        refine hK _ _ (fun _ => trivial) (HSS.out _ HB3.out) ?_
                        clear hK K
                        refine anyV_one (i := 7) (by kernel_rfl) rfl rfl (fun K hK => ?_)
                        refine wp_append_rd _ _ _ _ (by rfl) U2.heap.size 3 i0 _ 1 8 Tryd.underlying25 hi hz0 hz1 hz2 rfl (by omega) (rv2) (0 + P) ([] ++ ys.take (P * 1)) (by rfl) HO3.out _ (some ⟨G1, 0, none⟩) (1) 1 ([.int .i64 (k : Int)]) (by rfl) (rd_bk KN3.out rfl KN3.out.lt) (by simp [Value.oneCell']) (by simp only [maxLen]; omega) (by omega) HB3.out.size ?_
                        intro rv4 Y4 hown hg hat
                        have HO4 := Lib.hid hown
                        have HB4 : Hid (Below U2.heap.size U2 Y4) := HB3.out.grown hg HB3.out.size (fun k hk => (HO3.out.lt k hk).1)
                        clear hown hg hat
                        refine hK _ _ (fun _ => trivial) (HSS.out _ HB4.out) ?_
                        clear hK K
                        refine anyV_one (i := 11) (by kernel_rfl) rfl rfl (fun K hK => ?_)
                        refine wp_append_rd _ _ _ _ (by rfl) U2.heap.size 3 i0 _ 1 8 Tryd.underlying25 hi hz0 hz1 hz2 rfl (by omega) (rv4) (0 + P + 1) ([] ++ ys.take (P * 1) ++ [.int .i64 (k : Int)]) (by rfl) HO4.out _ (A8) (k - P) _ (ys.drop (P * 1)) (by rfl) (HCUT.out.below HB4.out) (fun u hu => HX1.out u (List.mem_of_mem_drop hu)) (by simp only [maxLen]; omega) (by omega) HB4.out.size ?_
                        intro rv5 Y5 hown hg hat
                        have HO5 := Lib.hid hown
                        have HB5 : Hid (Below U2.heap.size U2 Y5) := HB4.out.grown hg HB4.out.size (fun k hk => (HO4.out.lt k hk).1)
                        clear hown hg hat
                        refine hK _ _ (fun _ => trivial) (HSS.out _ HB5.out) ?_
                        clear hK K
                        refine anyV_one (i := 12) (by kernel_rfl) rfl rfl (fun K hK => ?_)
                        go_simp
                        refine hK _ _ (fun _ => trivial) (HSS.out _ HB5.out) ?_
                        clear hK K
                        refine anyV_done (by kernel_rfl) ?_ _
                        simp only [normPost]
                        have HF : Hid (Y5.ownsRow U2.heap.size 3 1 rv5 (0 + P + 1 + (k - P)) ([] ++ ys.take (P * 1) ++ [.int .i64 (k : Int)] ++ ys.drop (P * 1)) ∧ Below U2.heap.size U2 Y5) := ⟨HO5.out, HB5.out⟩
                        have h9 := HF.out.1
                        rw [show 0 + P + 1 + (k - P) = k + 1 by omega] at h9
                        have o83 : Y5.ownsRow U2.heap.size 3 1 rv5 (k + 1) ((cI l (k + 1)).map inI) := by rw [HIS.out, ← HYS.out]; exact own_base h9 (Nat.le_refl _)
                        have hb3 := HF.out.2
                        have HB13 := Lib.hid (bt hb3 HBU2.out)
                        have HB43 := Lib.hid (bt HB13.out HBC.out)
                        have hs4 := HBW4.out.size
                        have hs5 := HBC.out.size
                        have hs6 := HBU2.out.size
                        have O6 := own_on H64.out HB43.out
                        have O7 := own_on HO72.out hb3
                        have N7 : ∀ g, v6'.ownBlock = some g → u7.ownBlock ≠ some g := fun g h1 h2 => by
                          have := (H64.out.lt g h1).2
                          have := (HO72.out.lt g h2).1
                          omega
                        have N8 : ∀ g, v6'.ownBlock = some g → (rv5).ownBlock ≠ some g := fun g h1 h2 => by
                          have := (H64.out.lt g h1).2
                          have := (o83.lt g h2).1
                          omega
                        have HBF := bt HB43.out HBW4.out
                        have hB4 : B ≤ W4.heap.size := HB4W.out
                        have HG : Hid (Y5.ownsRow B 42 2 v6' (k + 1) (cl2 paF paG (esK l (k + 1))) ∧ Y5.ownsRow B 42 2 u7 (k + 1) (cl2 paF paG (xsK l (k + 1))) ∧ Y5.ownsRow B 3 1 rv5 (k + 1) ((cI l (k + 1)).map inI) ∧ (∀ g, v6'.ownBlock = some g → u7.ownBlock ≠ some g) ∧ (∀ g, v6'.ownBlock = some g → (rv5).ownBlock ≠ some g) ∧ CarsOk l (k + 1) ∧ B ≤ Y5.heap.size ∧ Below w.heap.size w Y5) := ⟨O6, own_base O7 (by omega), own_base o83 (by omega), N7, N8, HOK.out, by have := HB43.out.size; omega, HBF⟩
                        clear O6 O7 N7 N8 HBF o83 hb3 h9 HF
                        go_wp2
                        go_roundw
                        case rel => first
                          | exact ⟨k + 1, by go_num, by omega, by rw [← HE1.out], HG.out⟩
                          | ((repeat apply Exists.intro); exact ⟨⟨k + 1, by go_num, by omega, by rw [← HE1.out], HG.out⟩, rfl⟩)
                        case measure => simp [intOf]; omega
                      · go_simp
                        obtain ⟨Y2, hY2⟩ : ∃ Zz, Zz = Y1.alloc (.cells #[.int .i64 (k : Int)] 3) := ⟨_, rfl⟩
                        have hb : Below Y1.heap.size Y1 Y2 := by rw [hY2]; exact al1 _ _
                        have kn : Bk Y2 Y1.heap.size 3 #[.int .i64 (k : Int)] := by rw [hY2]; exact Bk.new _ _ _
                        have ho : Y2.ownsRow U2.heap.size 3 1 (.slice (some ⟨G0, 0, none⟩) 0 0) (0) ([]) := by rw [hY2]; exact HO1.out.alloc _
                        rw [← hY2]
                        clear hY2
                        obtain ⟨G1, hG⟩ : ∃ G, G = Y1.heap.size := ⟨_, rfl⟩
                        rw [← hG] at kn ⊢
                        have KN2 := Lib.hid kn
                        have HO2 := Lib.hid ho
                        have HNE2 : Hid (∀ g, (Value.slice (some ⟨G0, 0, none⟩) 0 0).ownBlock = some g → g ≠ G1) := fun g h e => by have := (HO1.out.lt g h).2; omega
                        have HB2 := Lib.hid (bt hb HB1.out)
                        clear hb hG kn ho
                        refine hK _ _ (fun _ => trivial) (HSS.out _ HB2.out) ?_
                        clear hK K
                        refine anyV_one (i := 4) (by kernel_rfl) rfl rfl (fun K hK => ?_)
                        refine wp_append_rd _ _ _ _ (by rfl) U2.heap.size 3 i0 _ 1 8 Tryd.underlying25 hi hz0 hz1 hz2 rfl (by omega) (.slice (some ⟨G0, 0, none⟩) 0 0) (0) ([]) (by rfl) HO2.out _ (A8) (P) _ (ys.take (P * 1)) (by rfl) ((HSRC.out.head_ hPk).below HB2.out) (fun u hu => HX1.out u (List.mem_of_mem_take hu)) (by simp only [maxLen]; omega) (by omega) HB2.out.size ?_
                        intro rv3 Y3 hown hg hat
                        have HO3 := Lib.hid hown
                        have HB3 : Hid (Below U2.heap.size U2 Y3) := HB2.out.grown hg HB2.out.size (fun k hk => (HO2.out.lt k hk).1)
                        have KN3 := Lib.hid (KN2.out.grown hg (fun e => HNE2.out G1 e.symm rfl))
                        have HNE3 : Hid (∀ g, rv3.ownBlock = some g → g ≠ G1) := fun g h e => by
                          have := KN2.out.lt
                          rcases hat with h9 | h9
                          · exact HNE2.out g (h9 ▸ h) e
                          · rw [h] at h9; injection h9 with h9; omega
                        clear hown hg hat
                        refine hK _ _ (fun _ => trivial) (HSS.out _ HB3.out) ?_
                        clear hK K
                        refine anyV_one (i := 7) (by kernel_rfl) rfl rfl (fun K hK => ?_)
                        refine wp_append_rd _ _ _ _ (by rfl) U2.heap.size 3 i0 _ 1 8 Tryd.underlying25 hi hz0 hz1 hz2 rfl (by omega) (rv3) (0 + P) ([] ++ ys.take (P * 1)) (by rfl) HO3.out _ (some ⟨G1, 0, none⟩) (1) 1 ([.int .i64 (k : Int)]) (by rfl) (rd_bk KN3.out rfl KN3.out.lt) (by simp [Value.oneCell']) (by simp only [maxLen]; omega) (by omega) HB3.out.size ?_
                        intro rv4 Y4 hown hg hat
                        have HO4 := Lib.hid hown
                        have HB4 : Hid (Below U2.heap.size U2 Y4) := HB3.out.grown hg HB3.out.size (fun k hk => (HO3.out.lt k hk).1)
                        clear hown hg hat
                        refine hK _ _ (fun _ => trivial) (HSS.out _ HB4.out) ?_
                        clear hK K
                        refine anyV_one (i := 11) (by kernel_rfl) rfl rfl (fun K hK => ?_)
                        refine wp_append_rd _ _ _ _ (by rfl) U2.heap.size 3 i0 _ 1 8 Tryd.underlying25 hi hz0 hz1 hz2 rfl (by omega) (rv4) (0 + P + 1) ([] ++ ys.take (P * 1) ++ [.int .i64 (k : Int)]) (by rfl) HO4.out _ (A8) (k - P) _ (ys.drop (P * 1)) (by rfl) (HCUT.out.below HB4.out) (fun u hu => HX1.out u (List.mem_of_mem_drop hu)) (by simp only [maxLen]; omega) (by omega) HB4.out.size ?_
                        intro rv5 Y5 hown hg hat
                        have HO5 := Lib.hid hown
                        have HB5 : Hid (Below U2.heap.size U2 Y5) := HB4.out.grown hg HB4.out.size (fun k hk => (HO4.out.lt k hk).1)
                        clear hown hg hat
                        refine hK _ _ (fun _ => trivial) (HSS.out _ HB5.out) ?_
                        clear hK K
                        refine anyV_one (i := 12) (by kernel_rfl) rfl rfl (fun K hK => ?_)
                        go_simp
                        refine hK _ _ (fun _ => trivial) (HSS.out _ HB5.out) ?_
                        clear hK K
                        refine anyV_done (by kernel_rfl) ?_ _
                        simp only [normPost]
                        have HF : Hid (Y5.ownsRow U2.heap.size 3 1 rv5 (0 + P + 1 + (k - P)) ([] ++ ys.take (P * 1) ++ [.int .i64 (k : Int)] ++ ys.drop (P * 1)) ∧ Below U2.heap.size U2 Y5) := ⟨HO5.out, HB5.out⟩
                        have h9 := HF.out.1
                        rw [show 0 + P + 1 + (k - P) = k + 1 by omega] at h9
                        have o83 : Y5.ownsRow U2.heap.size 3 1 rv5 (k + 1) ((cI l (k + 1)).map inI) := by rw [HIS.out, ← HYS.out]; exact own_base h9 (Nat.le_refl _)
                        have hb3 := HF.out.2
                        have HB13 := Lib.hid (bt hb3 HBU2.out)
                        have HB43 := Lib.hid (bt HB13.out HBC.out)
                        have hs4 := HBW4.out.size
                        have hs5 := HBC.out.size
                        have hs6 := HBU2.out.size
                        have O6 := own_on H64.out HB43.out
                        have O7 := own_on HO72.out hb3
                        have N7 : ∀ g, v6'.ownBlock = some g → u7.ownBlock ≠ some g := fun g h1 h2 => by
                          have := (H64.out.lt g h1).2
                          have := (HO72.out.lt g h2).1
                          omega
                        have N8 : ∀ g, v6'.ownBlock = some g → (rv5).ownBlock ≠ some g := fun g h1 h2 => by
                          have := (H64.out.lt g h1).2
                          have := (o83.lt g h2).1
                          omega
                        have HBF := bt HB43.out HBW4.out
                        have hB4 : B ≤ W4.heap.size := HB4W.out
                        have HG : Hid (Y5.ownsRow B 42 2 v6' (k + 1) (cl2 paF paG (esK l (k + 1))) ∧ Y5.ownsRow B 42 2 u7 (k + 1) (cl2 paF paG (xsK l (k + 1))) ∧ Y5.ownsRow B 3 1 rv5 (k + 1) ((cI l (k + 1)).map inI) ∧ (∀ g, v6'.ownBlock = some g → u7.ownBlock ≠ some g) ∧ (∀ g, v6'.ownBlock = some g → (rv5).ownBlock ≠ some g) ∧ CarsOk l (k + 1) ∧ B ≤ Y5.heap.size ∧ Below w.heap.size w Y5) := ⟨O6, own_base O7 (by omega), own_base o83 (by omega), N7, N8, HOK.out, by have := HB43.out.size; omega, HBF⟩
                        clear O6 O7 N7 N8 HBF o83 hb3 h9 HF
                        go_wp2
                        go_roundw
                        case rel => first
                          | exact ⟨k + 1, by go_num, by omega, by rw [← HE1.out], HG.out⟩
                          | ((repeat apply Exists.intro); exact ⟨⟨k + 1, by go_num, by omega, by rw [← HE1.out], HG.out⟩, rfl⟩)
                        case measure => simp [intOf]; omega
                    · go_simp
                      obtain ⟨Y1, hY1⟩ : ∃ Zz, Zz = Y0.alloc (.cells #[.int .i64 (k : Int)] 3) := ⟨_, rfl⟩
                      have hb : Below Y0.heap.size Y0 Y1 := by rw [hY1]; exact al1 _ _
                      have kn : Bk Y1 Y0.heap.size 3 #[.int .i64 (k : Int)] := by rw [hY1]; exact Bk.new _ _ _
                      rw [← hY1]
                      clear hY1
                      obtain ⟨G1, hG⟩ : ∃ G, G = Y0.heap.size := ⟨_, rfl⟩
                      rw [← hG] at kn ⊢
                      have KN1 := Lib.hid kn
                      have HB1 := Lib.hid (bt hb HB0.out)
                      clear hb hG kn
                      refine hK _ _ (fun _ => trivial) (HSS.out _ HB1.out) ?_
                      clear hK K
                      refine anyV_one (i := 0) (by kernel_rfl) rfl rfl (fun K hK => ?_)
                      go_simp
                      obtain ⟨Y2, hY2⟩ : ∃ Zz, Zz = Y1.alloc (.cells #[] 3) := ⟨_, rfl⟩
                      have hb : Below Y1.heap.size Y1 Y2 := by rw [hY2]; exact al1 _ _
                      have ho : Y2.ownsRow U2.heap.size 3 1 (.slice (some ⟨Y1.heap.size, 0, none⟩) 0 0) 0 [] := by rw [hY2]; exact own_empty (by simp [at?_alloc]) HB1.out.size
                      rw [← hY2]
                      clear hY2
                      obtain ⟨G0, hG⟩ : ∃ G, G = Y1.heap.size := ⟨_, rfl⟩
                      rw [← hG] at ho ⊢
                      have HO2 := Lib.hid ho
                      have KN2 := Lib.hid (KN1.out.next hb)
                      have HNE2 : Hid (∀ g, (Value.slice (some ⟨G0, 0, none⟩) 0 0).ownBlock = some g → g ≠ G1) := fun g h e => by have := KN1.out.lt; injection h with h; simp at h; omega
                      have HB2 := Lib.hid (bt hb HB1.out)
                      clear hb hG ho
                      refine hK _ _ (fun _ => trivial) (HSS.out _ HB2.out) ?_
                      clear hK K
                      refine anyV_one (i := 4) (by kernel_rfl) rfl rfl (fun K hK => ?_)
                      refine wp_append_rd _ _ _ _ (by rfl) U2.heap.size 3 i0 _ 1 8 Tryd.underlying25 hi hz0 hz1 hz2 rfl (by omega) (.slice (some ⟨G0, 0, none⟩) 0 0) (0) ([]) (by rfl) HO2.out _ (A8) (P) _ (ys.take (P * 1)) (by rfl) ((HSRC.out.head_ hPk).below HB2.out) (fun u hu => HX1.out u (List.mem_of_mem_take hu)) (by simp only [maxLen]; omega) (by omega) HB2.out.size ?_
                      intro rv3 Y3 hown hg hat
                      have HO3 := Lib.hid hown
                      have HB3 : Hid (Below U2.heap.size U2 Y3) := HB2.out.grown hg HB2.out.size (fun k hk => (HO2.out.lt k hk).1)
                      have KN3 := Lib.hid (KN2.out.grown hg (fun e => HNE2.out G1 e.symm rfl))
                      have HNE3 : Hid (∀ g, rv3.ownBlock = some g → g ≠ G1) := fun g h e => by
                        have := KN2.out.lt
                        rcases hat with h9 | h9
                        · exact HNE2.out g (h9 ▸ h) e
                        · rw [h] at h9; injection h9 with h9; omega
                      clear hown hg hat
                      refine hK _ _ (fun _ => trivial) (HSS.out _ HB3.out) ?_
                      clear hK K
                      refine anyV_one (i := 7) (by kernel_rfl) rfl rfl (fun K hK => ?_)
                      refine wp_append_rd _ _ _ _ (by rfl) U2.heap.size 3 i0 _ 1 8 Tryd.underlying25 hi hz0 hz1 hz2 rfl (by omega) (rv3) (0 + P) ([] ++ ys.take (P * 1)) (by rfl) HO3.out _ (some ⟨G1, 0, none⟩) (1) 1 ([.int .i64 (k : Int)]) (by rfl) (rd_bk KN3.out rfl KN3.out.lt) (by simp [Value.oneCell']) (by simp only [maxLen]; omega) (by omega) HB3.out.size ?_
                      intro rv4 Y4 hown hg hat
                      have HO4 := Lib.hid hown
                      have HB4 : Hid (Below U2.heap.size U2 Y4) := HB3.out.grown hg HB3.out.size (fun k hk => (HO3.out.lt k hk).1)
                      clear hown hg hat
                      refine hK _ _ (fun _ => trivial) (HSS.out _ HB4.out) ?_
                      clear hK K
                      refine anyV_one (i := 11) (by kernel_rfl) rfl rfl (fun K hK => ?_)
                      refine wp_append_rd _ _ _ _ (by rfl) U2.heap.size 3 i0 _ 1 8 Tryd.underlying25 hi hz0 hz1 hz2 rfl (by omega) (rv4) (0 + P + 1) ([] ++ ys.take (P * 1) ++ [.int .i64 (k : Int)]) (by rfl) HO4.out _ (A8) (k - P) _ (ys.drop (P * 1)) (by rfl) (HCUT.out.below HB4.out) (fun u hu => HX1.out u (List.mem_of_mem_drop hu)) (by simp only [maxLen]; omega) (by omega) HB4.out.size ?_
                      intro rv5 Y5 hown hg hat
                      have HO5 := Lib.hid hown
                      have HB5 : Hid (Below U2.heap.size U2 Y5) := HB4.out.grown hg HB4.out.size (fun k hk => (HO4.out.lt k hk).1)
                      clear hown hg hat
                      refine hK _ _ (fun _ => trivial) (HSS.out _ HB5.out) ?_
                      clear hK K
                      refine anyV_one (i := 12) (by kernel_rfl) rfl rfl (fun K hK => ?_)
                      go_simp
                      refine hK _ _ (fun _ => trivial) (HSS.out _ HB5.out) ?_
                      clear hK K
                      refine anyV_done (by kernel_rfl) ?_ _
                      simp only [normPost]
                      have HF : Hid (Y5.ownsRow U2.heap.size 3 1 rv5 (0 + P + 1 + (k - P)) ([] ++ ys.take (P * 1) ++ [.int .i64 (k : Int)] ++ ys.drop (P * 1)) ∧ Below U2.heap.size U2 Y5) := ⟨HO5.out, HB5.out⟩
                      have h9 := HF.out.1
                      rw [show 0 + P + 1 + (k - P) = k + 1 by omega] at h9
                      have o83 : Y5.ownsRow U2.heap.size 3 1 rv5 (k + 1) ((cI l (k + 1)).map inI) := by rw [HIS.out, ← HYS.out]; exact own_base h9 (Nat.le_refl _)
                      have hb3 := HF.out.2
                      have HB13 := Lib.hid (bt hb3 HBU2.out)
                      have HB43 := Lib.hid (bt HB13.out HBC.out)
                      have hs4 := HBW4.out.size
                      have hs5 := HBC.out.size
                      have hs6 := HBU2.out.size
                      have O6 := own_on H64.out HB43.out
                      have O7 := own_on HO72.out hb3
                      have N7 : ∀ g, v6'.ownBlock = some g → u7.ownBlock ≠ some g := fun g h1 h2 => by
                        have := (H64.out.lt g h1).2
                        have := (HO72.out.lt g h2).1
                        omega
                      have N8 : ∀ g, v6'.ownBlock = some g → (rv5).ownBlock ≠ some g := fun g h1 h2 => by
                        have := (H64.out.lt g h1).2
                        have := (o83.lt g h2).1
                        omega
                      have HBF := bt HB43.out HBW4.out
                      have hB4 : B ≤ W4.heap.size := HB4W.out
                      have HG : Hid (Y5.ownsRow B 42 2 v6' (k + 1) (cl2 paF paG (esK l (k + 1))) ∧ Y5.ownsRow B 42 2 u7 (k + 1) (cl2 paF paG (xsK l (k + 1))) ∧ Y5.ownsRow B 3 1 rv5 (k + 1) ((cI l (k + 1)).map inI) ∧ (∀ g, v6'.ownBlock = some g → u7.ownBlock ≠ some g) ∧ (∀ g, v6'.ownBlock = some g → (rv5).ownBlock ≠ some g) ∧ CarsOk l (k + 1) ∧ B ≤ Y5.heap.size ∧ Below w.heap.size w Y5) := ⟨O6, own_base O7 (by omega), own_base o83 (by omega), N7, N8, HOK.out, by have := HB43.out.size; omega, HBF⟩
                      clear O6 O7 N7 N8 HBF o83 hb3 h9 HF
                      go_wp2
                      go_roundw
                      case rel => first
                        | exact ⟨k + 1, by go_num, by omega, by rw [← HE1.out], HG.out⟩
                        | ((repeat apply Exists.intro); exact ⟨⟨k + 1, by go_num, by omega, by rw [← HE1.out], HG.out⟩, rfl⟩)
                      case measure => simp [intOf]; omega
                  · refine region_V (fun _ => True) (fun w' => True) 99 (by kernel_rfl) ?_
                    obtain ⟨Y0, hY0⟩ : ∃ Zz, Zz = U2.drew := ⟨_, rfl⟩
                    have hb0 : Below U2.heap.size U2 Y0 := by rw [hY0]; exact (Below.refl _ U2).drew
                    rw [← hY0]
                    clear hY0
                    have HSRC := Lib.hid hsrc
                    have HB0 := Lib.hid hb0
                    have HSS : Hid (∀ w', Below U2.heap.size U2 w' → True) := fun w' hb => trivial
                    have HSX := HSS.out Y0 HB0.out
                    clear hb0 hsrc
                    have HCUT : Hid (RdS U2 U2.heap.size 1 ((A8).map (·.add P)) (k - P) (ys.drop (P * 1))) := by
                      have := HSRC.out.cut hPk hcap
                      rw [if_neg hcp] at this
                      show RdS _ _ _ _ _ _
                      simpa only [Nat.mul_one] using this
                    refine anyV_take2 (i := 1) rfl (by decide) (by kernel_rfl) (by kernel_rfl) (by kernel_rfl) (fun _ _ _ h => h) (Or.inl ⟨by rfl, fun w' hS' => (by go_simp; try with_reducible rfl)⟩) trivial HSX ?_
                    refine anyV_take2 (i := 2) rfl (by decide) (by kernel_rfl) (by kernel_rfl) (by kernel_rfl) (fun _ _ _ h => h) (Or.inl ⟨by rfl, fun w' hS' => (by go_simp; try with_reducible rfl)⟩) trivial HSX ?_
                    refine anyV_take2 (i := 3) rfl (by decide) (by kernel_rfl) (by kernel_rfl) (by kernel_rfl) (fun _ _ _ h => h) (Or.inl ⟨by rfl, fun w' hS' => (by go_simp; try with_reducible rfl)⟩) trivial HSX ?_
                    refine anyV_take2 (i := 5) rfl (by decide) (by kernel_rfl) (by kernel_rfl) (by kernel_rfl) (fun _ _ _ h => h) (Or.inl ⟨by rfl, fun w' hS' => (by go_simp; try with_reducible rfl)⟩) trivial HSX ?_
                    refine anyV_take2 (i := 8) rfl (by decide) (by kernel_rfl) (by kernel_rfl) (by kernel_rfl) (fun _ _ _ h => h) (Or.inl ⟨by rfl, fun w' hS' => (by go_simp; try with_reducible rfl)⟩) trivial HSX ?_
                    refine anyV_take2 (i := 9) rfl (by decide) (by kernel_rfl) (by kernel_rfl) (by kernel_rfl) (fun _ _ _ h => h) (Or.inl ⟨by rfl, fun w' hS' => (by go_simp; try with_reducible rfl)⟩) trivial HSX ?_
                    refine anyV_take2 (i := 10) rfl (by decide) (by kernel_rfl) (by kernel_rfl) (by kernel_rfl) (fun _ _ _ h => h) (Or.inl ⟨by rfl, fun w' hS' => (by go_simp; try with_reducible rfl)⟩) trivial HSX ?_
                    clear HSX
                    refine anyV_two (i := 0) (j := 6) (by kernel_rfl) rfl rfl rfl rfl (fun K hK => ?_) (fun K hK => ?_)
                    · go_simp
                      obtain ⟨Y1, hY1⟩ : ∃ Zz, Zz = Y0.alloc (.cells #[] 3) := ⟨_, rfl⟩
                      have hb : Below Y0.heap.size Y0 Y1 := by rw [hY1]; exact al1 _ _
                      have ho : Y1.ownsRow U2.heap.size 3 1 (.slice (some ⟨Y0.heap.size, 0, none⟩) 0 0) 0 [] := by rw [hY1]; exact own_empty (by simp [at?_alloc]) HB0.out.size
                      rw [← hY1]
                      clear hY1
                      obtain ⟨G0, hG⟩ : ∃ G, G = Y0.heap.size := ⟨_, rfl⟩
                      rw [← hG] at ho ⊢
                      have HO1 := Lib.hid ho
                      have HB1 := Lib.hid (bt hb HB0.out)
                      clear hb hG ho
                      refine hK _ _ (fun _ => trivial) (HSS.out _ HB1.out) ?_
                      clear hK K
                      refine anyV_two (i := 4) (j := 6) (by kernel_rfl) rfl rfl rfl rfl (fun K hK => ?_) (fun K hK => ?_)
                      · refine wp_append_rd _ _ _ _ (by rfl) U2.heap.size 3 i0 _ 1 8 Tryd.underlying25 hi hz0 hz1 hz2 rfl (by omega) (.slice (some ⟨G0, 0, none⟩) 0 0) (0) ([]) (by rfl) HO1.out _ (A8) (P) _ (ys.take (P * 1)) (by rfl) ((HSRC.out.head_ hPk).below HB1.out) (fun u hu => HX1.out u (List.mem_of_mem_take hu)) (by simp only [maxLen]; omega) (by omega) HB1.out.size ?_
                        intro rv2 Y2 hown hg hat
                        have HO2 := Lib.hid hown
                        have HB2 : Hid (Below U2.heap.size U2 Y2) := HB1.out.grown hg HB1.out.size (fun k hk => (HO1.out.lt k hk).1)
                        clear hown hg hat
                        refine hK _ _ (fun _ => trivial) (HSS.out _ HB2.out) ?_
                        clear hK K
                        refine anyV_one (i := 6) (by kernel_rfl) rfl rfl (fun K hK => ?_)
                        go_simp
                        obtain ⟨Y3, hY3⟩ : ∃ Zz, Zz = Y2.alloc (.cells #[.int .i64 (k : Int)] 3) := ⟨_, rfl⟩
                        have hb : Below Y2.heap.size Y2 Y3 := by rw [hY3]; exact al1 _ _
                        have kn : Bk Y3 Y2.heap.size 3 #[.int .i64 (k : Int)] := by rw [hY3]; exact Bk.new _ _ _
                        have ho : Y3.ownsRow U2.heap.size 3 1 (rv2) (0 + P) ([] ++ ys.take (P * 1)) := by rw [hY3]; exact HO2.out.alloc _
                        rw [← hY3]
                        clear hY3
                        obtain ⟨G1, hG⟩ : ∃ G, G = Y2.heap.size := ⟨_, rfl⟩
                        rw [← hG] at kn ⊢
                        have KN3 := Lib.hid kn
                        have HO3 := Lib.hid ho
                        have HNE3 : Hid (∀ g, (rv2).ownBlock = some g → g ≠ G1) := fun g h e => by have := (HO2.out.lt g h).2; omega
                        have HB3 := Lib.hid (bt hb HB2.out)
                        clear hb hG kn ho
                        refine hK _ _ (fun _ => trivial) (HSS.out _ HB3.out) ?_
                        clear hK K
                        refine anyV_one (i := 7) (by kernel_rfl) rfl rfl (fun K hK => ?_)
                        refine wp_append_rd _ _ _ _ (by rfl) U2.heap.size 3 i0 _ 1 8 Tryd.underlying25 hi hz0 hz1 hz2 rfl (by omega) (rv2) (0 + P) ([] ++ ys.take (P * 1)) (by rfl) HO3.out _ (some ⟨G1, 0, none⟩) (1) 1 ([.int .i64 (k : Int)]) (by rfl) (rd_bk KN3.out rfl KN3.out.lt) (by simp [Value.oneCell']) (by simp only [maxLen]; omega) (by omega) HB3.out.size ?_
                        intro rv4 Y4 hown hg hat
                        have HO4 := Lib.hid hown
                        have HB4 : Hid (Below U2.heap.size U2 Y4) := HB3.out.grown hg HB3.out.size (fun k hk => (HO3.out.lt k hk).1)
                        clear hown hg hat
                        refine hK _ _ (fun _ => trivial) (HSS.out _ HB4.out) ?_
                        clear hK K
                        refine anyV_one (i := 11) (by kernel_rfl) rfl rfl (fun K hK => ?_)
                        refine wp_append_rd _ _ _ _ (by rfl) U2.heap.size 3 i0 _ 1 8 Tryd.underlying25 hi hz0 hz1 hz2 rfl (by omega) (rv4) (0 + P + 1) ([] ++ ys.take (P * 1) ++ [.int .i64 (k : Int)]) (by rfl) HO4.out _ ((A8).map (·.add P)) (k - P) _ (ys.drop (P * 1)) (by rfl) (HCUT.out.below HB4.out) (fun u hu => HX1.out u (List.mem_of_mem_drop hu)) (by simp only [maxLen]; omega) (by omega) HB4.out.size ?_
                        intro rv5 Y5 hown hg hat
                        have HO5 := Lib.hid hown
                        have HB5 : Hid (Below U2.heap.size U2 Y5) := HB4.out.grown hg HB4.out.size (fun k hk => (HO4.out.lt k hk).1)
                        clear hown hg hat
                        refine hK _ _ (fun _ => trivial) (HSS.out _ HB5.out) ?_
                        clear hK K
                        refine anyV_one (i := 12) (by kernel_rfl) rfl rfl (fun K hK => ?_)
                        go_simp
                        refine hK _ _ (fun _ => trivial) (HSS.out _ HB5.out) ?_
                        clear hK K
                        refine anyV_done (by kernel_rfl) ?_ _
                        simp only [normPost]
                        have HF : Hid (Y5.ownsRow U2.heap.size 3 1 rv5 (0 + P + 1 + (k - P)) ([] ++ ys.take (P * 1) ++ [.int .i64 (k : Int)] ++ ys.drop (P * 1)) ∧ Below U2.heap.size U2 Y5) := ⟨HO5.out, HB5.out⟩
                        have h9 := HF.out.1
                        rw [show 0 + P + 1 + (k - P) = k + 1 by omega] at h9
                        have o83 : Y5.ownsRow U2.heap.size 3 1 rv5 (k + 1) ((cI l (k + 1)).map inI) := by rw [HIS.out, ← HYS.out]; exact own_base h9 (Nat.le_refl _)
                        have hb3 := HF.out.2
                        have HB13 := Lib.hid (bt hb3 HBU2.out)
                        have HB43 := Lib.hid (bt HB13.out HBC.out)
                        have hs4 := HBW4.out.size
                        have hs5 := HBC.out.size
                        have hs6 := HBU2.out.size
                        have O6 := own_on H64.out HB43.out
                        have O7 := own_on HO72.out hb3
                        have N7 : ∀ g, v6'.ownBlock = some g → u7.ownBlock ≠ some g := fun g h1 h2 => by
                          have := (H64.out.lt g h1).2
                          have := (HO72.out.lt g h2).1
                          omega
                        have N8 : ∀ g, v6'.ownBlock = some g → (rv5).ownBlock ≠ some g := fun g h1 h2 => by
                          have := (H64.out.lt g h1).2
                          have := (o83.lt g h2).1
                          omega
                        have HBF := bt HB43.out HBW4.out
                        have hB4 : B ≤ W4.heap.size := HB4W.out
                        have HG : Hid (Y5.ownsRow B 42 2 v6' (k + 1) (cl2 paF paG (esK l (k + 1))) ∧ Y5.ownsRow B 42 2 u7 (k + 1) (cl2 paF paG (xsK l (k + 1))) ∧ Y5.ownsRow B 3 1 rv5 (k + 1) ((cI l (k + 1)).map inI) ∧ (∀ g, v6'.ownBlock = some g → u7.ownBlock ≠ some g) ∧ (∀ g, v6'.ownBlock = some g → (rv5).ownBlock ≠ some g) ∧ CarsOk l (k + 1) ∧ B ≤ Y5.heap.size ∧ Below w.heap.size w Y5) := ⟨O6, own_base O7 (by omega), own_base o83 (by omega), N7, N8, HOK.out, by have := HB43.out.size; omega, HBF⟩
                        clear O6 O7 N7 N8 HBF o83 hb3 h9 HF
                        go_wp2
                        go_roundw
                        case rel => first
                          | exact ⟨k + 1, by go_num, by omega, by rw [← HE1.out], HG.out⟩
                          | ((repeat apply Exists.intro); exact ⟨⟨k + 1, by go_num, by omega, by rw [← HE1.out], HG.out⟩, rfl⟩)
                        case measure => simp [intOf]; omega
                      · go_simp
                        obtain ⟨Y2, hY2⟩ : ∃ Zz, Zz = Y1.alloc (.cells #[.int .i64 (k : Int)] 3) := ⟨_, rfl⟩
                        have hb : Below Y1.heap.size Y1 Y2 := by rw [hY2]; exact al1 _ _
                        have kn : Bk Y2 Y1.heap.size 3 #[.int .i64 (k : Int)] := by rw [hY2]; exact Bk.new _ _ _
                        have ho : Y2.ownsRow U2.heap.size 3 1 (.slice (some ⟨G0, 0, none⟩) 0 0) (0) ([]) := by rw [hY2]; exact HO1.out.alloc _
                        rw [← hY2]
                        clear hY2
                        obtain ⟨G1, hG⟩ : ∃ G, G = Y1.heap.size := ⟨_, rfl⟩
                        rw [← hG] at kn ⊢
                        have KN2 := Lib.hid kn
                        have HO2 := Lib.hid ho
                        have HNE2 : Hid (∀ g, (Value.slice (some ⟨G0, 0, none⟩) 0 0).ownBlock = some g → g ≠ G1) := fun g h e => by have := (HO1.out.lt g h).2; omega
                        have HB2 := Lib.hid (bt hb HB1.out)
                        clear hb hG kn ho
                        refine hK _ _ (fun _ => trivial) (HSS.out _ HB2.out) ?_
                        clear hK K
                        refine anyV_one (i := 4) (by kernel_rfl) rfl rfl (fun K hK => ?_)
                        refine wp_append_rd _ _ _ _ (by rfl) U2.heap.size 3 i0 _ 1 8 Tryd.underlying25 hi hz0 hz1 hz2 rfl (by omega) (.slice (some ⟨G0, 0, none⟩) 0 0) (0) ([]) (by rfl) HO2.out _ (A8) (P) _ (ys.take (P * 1)) (by rfl) ((HSRC.out.head_ hPk).below HB2.out) (fun u hu => HX1.out u (List.mem_of_mem_take hu)) (by simp only [maxLen]; omega) (by omega) HB2.out.size ?_
                        intro rv3 Y3 hown hg hat
                        have HO3 := Lib.hid hown
                        have HB3 : Hid (Below U2.heap.size U2 Y3) := HB2.out.grown hg HB2.out.size (fun k hk => (HO2.out.lt k hk).1)
                        have KN3 := Lib.hid (KN2.out.grown hg (fun e => HNE2.out G1 e.symm rfl))
                        have HNE3 : Hid (∀ g, rv3.ownBlock = some g → g ≠ G1) := fun g h e => by
                          have := KN2.out.lt
                          rcases hat with h9 | h9
                          · exact HNE2.out g (h9 ▸ h) e
                          · rw [h] at h9; injection h9 with h9; omega
                        clear hown hg hat
                        refine hK _ _ (fun _ => trivial) (HSS.out _ HB3.out) ?_
                        clear hK K
                        refine anyV_one (i := 7) (by kernel_rfl) rfl rfl (fun K hK => ?_)
                        refine wp_append_rd _ _ _ _ (by rfl) U2.heap.size 3 i0 _ 1 8 Tryd.underlying25 hi hz0 hz1 hz2 rfl (by omega) (rv3) (0 + P) ([] ++ ys.take (P * 1)) (by rfl) HO3.out _ (some ⟨G1, 0, none⟩) (1) 1 ([.int .i64 (k : Int)]) (by rfl) (rd_bk KN3.out rfl KN3.out.lt) (by simp [Value.oneCell']) (by simp only [maxLen]; omega) (by omega) HB3.out.size ?_
                        intro rv4 Y4 hown hg hat
                        have HO4 := Lib.hid hown
                        have HB4 : Hid (Below U2.heap.size U2 Y4) := HB3.out.grown hg HB3.out.size (fun k hk => (HO3.out.lt k hk).1)
                        clear hown hg hat
                        refine hK _ _ (fun _ => trivial) (HSS.out _ HB4.out) ?_
                        clear hK K
                        refine anyV_one (i := 11) (by kernel_rfl) rfl rfl (fun K hK => ?_)
                        refine wp_append_rd _ _ _ _ (by rfl) U2.heap.size 3 i0 _ 1 8 Tryd.underlying25 hi hz0 hz1 hz2 rfl (by omega) (rv4) (0 + P + 1) ([] ++ ys.take (P * 1) ++ [.int .i64 (k : Int)]) (by rfl) HO4.out _ ((A8).map (·.add P)) (k - P) _ (ys.drop (P * 1)) (by rfl) (HCUT.out.below HB4.out) (fun u hu => HX1.out u (List.mem_of_mem_drop hu)) (by simp only [maxLen]; omega) (by omega) HB4.out.size ?_
                        intro rv5 Y5 hown hg hat
                        have HO5 := Lib.hid hown
                        have HB5 : Hid (Below U2.heap.size U2 Y5) := HB4.out.grown hg HB4.out.size (fun k hk => (HO4.out.lt k hk).1)
                        clear hown hg hat
                        refine hK _ _ (fun _ => trivial) (HSS.out _ HB5.out) ?_
                        clear hK K
                        refine anyV_one (i := 12) (by kernel_rfl) rfl rfl (fun K hK => ?_)
                        go_simp
                        refine hK _ _ (fun _ => trivial) (HSS.out _ HB5.out) ?_
                        clear hK K
                        refine anyV_done (by kernel_rfl) ?_ _
                        simp only [normPost]
                        have HF : Hid (Y5.ownsRow U2.heap.size 3 1 rv5 (0 + P + 1 + (k - P)) ([] ++ ys.take (P * 1) ++ [.int .i64 (k : Int)] ++ ys.drop (P * 1)) ∧ Below U2.heap.size U2 Y5) := ⟨HO5.out, HB5.out⟩
                        have h9 := HF.out.1
                        rw [show 0 + P + 1 + (k - P) = k + 1 by omega] at h9
                        have o83 : Y5.ownsRow U2.heap.size 3 1 rv5 (k + 1) ((cI l (k + 1)).map inI) := by rw [HIS.out, ← HYS.out]; exact own_base h9 (Nat.le_refl _)
                        have hb3 := HF.out.2
                        have HB13 := Lib.hid (bt hb3 HBU2.out)
                        have HB43 := Lib.hid (bt HB13.out HBC.out)
                        have hs4 := HBW4.out.size
                        have hs5 := HBC.out.size
                        have hs6 := HBU2.out.size
                        have O6 := own_on H64.out HB43.out
                        have O7 := own_on HO72.out hb3
                        have N7 : ∀ g, v6'.ownBlock = some g → u7.ownBlock ≠ some g := fun g h1 h2 => by
                          have := (H64.out.lt g h1).2
                          have := (HO72.out.lt g h2).1
                          omega
                        have N8 : ∀ g, v6'.ownBlock = some g → (rv5).ownBlock ≠ some g := fun g h1 h2 => by
                          have := (H64.out.lt g h1).2
                          have := (o83.lt g h2).1
                          omega
                        have HBF := bt HB43.out HBW4.out
                        have hB4 : B ≤ W4.heap.size := HB4W.out
                        have HG : Hid (Y5.ownsRow B 42 2 v6' (k + 1) (cl2 paF paG (esK l (k + 1))) ∧ Y5.ownsRow B 42 2 u7 (k + 1) (cl2 paF paG (xsK l (k + 1))) ∧ Y5.ownsRow B 3 1 rv5 (k + 1) ((cI l (k + 1)).map inI) ∧ (∀ g, v6'.ownBlock = some g → u7.ownBlock ≠ some g) ∧ (∀ g, v6'.ownBlock = some g → (rv5).ownBlock ≠ some g) ∧ CarsOk l (k + 1) ∧ B ≤ Y5.heap.size ∧ Below w.heap.size w Y5) := ⟨O6, own_base O7 (by omega), own_base o83 (by omega), N7, N8, HOK.out, by have := HB43.out.size; omega, HBF⟩
                        clear O6 O7 N7 N8 HBF o83 hb3 h9 HF
                        go_wp2
                        go_roundw
                        case rel => first
                          | exact ⟨k + 1, by go_num, by omega, by rw [← HE1.out], HG.out⟩
                          | ((repeat apply Exists.intro); exact ⟨⟨k + 1, by go_num, by omega, by rw [← HE1.out], HG.out⟩, rfl⟩)
                        case measure => simp [intOf]; omega
                    · go_simp
                      obtain ⟨Y1, hY1⟩ : ∃ Zz, Zz = Y0.alloc (.cells #[.int .i64 (k : Int)] 3) := ⟨_, rfl⟩
                      have hb : Below Y0.heap.size Y0 Y1 := by rw [hY1]; exact al1 _ _
                      have kn : Bk Y1 Y0.heap.size 3 #[.int .i64 (k : Int)] := by rw [hY1]; exact Bk.new _ _ _
                      rw [← hY1]
                      clear hY1
                      obtain ⟨G1, hG⟩ : ∃ G, G = Y0.heap.size := ⟨_, rfl⟩
                      rw [← hG] at kn ⊢
                      have KN1 := Lib.hid kn
                      have HB1 := Lib.hid (bt hb HB0.out)
                      clear hb hG kn
                      refine hK _ _ (fun _ => trivial) (HSS.out _ HB1.out) ?_
                      clear hK K
                      refine anyV_one (i := 0) (by kernel_rfl) rfl rfl (fun K hK => ?_)
                      go_simp
                      obtain ⟨Y2, hY2⟩ : ∃ Zz, Zz = Y1.alloc (.cells #[] 3) := ⟨_, rfl⟩
                      have hb : Below Y1.heap.size Y1 Y2 := by rw [hY2]; exact al1 _ _
                      have ho : Y2.ownsRow U2.heap.size 3 1 (.slice (some ⟨Y1.heap.size, 0, none⟩) 0 0) 0 [] := by rw [hY2]; exact own_empty (by simp [at?_alloc]) HB1.out.size
                      rw [← hY2]
                      clear hY2
                      obtain ⟨G0, hG⟩ : ∃ G, G = Y1.heap.size := ⟨_, rfl⟩
                      rw [← hG] at ho ⊢
                      have HO2 := Lib.hid ho
                      have KN2 := Lib.hid (KN1.out.next hb)
                      have HNE2 : Hid (∀ g, (Value.slice (some ⟨G0, 0, none⟩) 0 0).ownBlock = some g → g ≠ G1) := fun g h e => by have := KN1.out.lt; injection h with h; simp at h; omega
                      have HB2 := Lib.hid (bt hb HB1.out)
                      clear hb hG ho
                      refine hK _ _ (fun _ => trivial) (HSS.out _ HB2.out) ?_
                      clear hK K
                      refine anyV_one (i := 4) (by kernel_rfl) rfl rfl (fun K hK => ?_)
                      refine wp_append_rd _ _ _ _ (by rfl) U2.heap.size 3 i0 _ 1 8 Tryd.underlying25 hi hz0 hz1 hz2 rfl (by omega) (.slice (some ⟨G0, 0, none⟩) 0 0) (0) ([]) (by rfl) HO2.out _ (A8) (P) _ (ys.take (P * 1)) (by rfl) ((HSRC.out.head_ hPk).below HB2.out) (fun u hu => HX1.out u (List.mem_of_mem_take hu)) (by simp only [maxLen]; omega) (by omega) HB2.out.size ?_
                      intro rv3 Y3 hown hg hat
                      have HO3 := Lib.hid hown
                      have HB3 : Hid (Below U2.heap.size U2 Y3) := HB2.out.grown hg HB2.out.size (fun k hk => (HO2.out.lt k hk).1)
                      have KN3 := Lib.hid (KN2.out.grown hg (fun e => HNE2.out G1 e.symm rfl))
                      have HNE3 : Hid (∀ g, rv3.ownBlock = some g → g ≠ G1) := fun g h e => by
                        have := KN2.out.lt
                        rcases hat with h9 | h9
                        · exact HNE2.out g (h9 ▸ h) e
                        · rw [h] at h9; injection h9 with h9; omega
                      clear hown hg hat
                      refine hK _ _ (fun _ => trivial) (HSS.out _ HB3.out) ?_
                      clear hK K
                      refine anyV_one (i := 7) (by kernel_rfl) rfl rfl (fun K hK => ?_)
                      refine wp_append_rd _ _ _ _ (by rfl) U2.heap.size 3 i0 _ 1 8 Tryd.underlying25 hi hz0 hz1 hz2 rfl (by omega) (rv3) (0 + P) ([] ++ ys.take (P * 1)) (by rfl) HO3.out _ (some ⟨G1, 0, none⟩) (1) 1 ([.int .i64 (k : Int)]) (by rfl) (rd_bk KN3.out rfl KN3.out.lt) (by simp [Value.oneCell']) (by simp only [maxLen]; omega) (by omega) HB3.out.size ?_
                      intro rv4 Y4 hown hg hat
                      have HO4 := Lib.hid hown
                      have HB4 : Hid (Below U2.heap.size U2 Y4) := HB3.out.grown hg HB3.out.size (fun k hk => (HO3.out.lt k hk).1)
                      clear hown hg hat
                      refine hK _ _ (fun _ => trivial) (HSS.out _ HB4.out) ?_
                      clear hK K
                      refine anyV_one (i := 11) (by kernel_rfl) rfl rfl (fun K hK => ?_)
                      refine wp_append_rd _ _ _ _ (by rfl) U2.heap.size 3 i0 _ 1 8 Tryd.underlying25 hi hz0 hz1 hz2 rfl (by omega) (rv4) (0 + P + 1) ([] ++ ys.take (P * 1) ++ [.int .i64 (k : Int)]) (by rfl) HO4.out _ ((A8).map (·.add P)) (k - P) _ (ys.drop (P * 1)) (by rfl) (HCUT.out.below HB4.out) (fun u hu => HX1.out u (List.mem_of_mem_drop hu)) (by simp only [maxLen]; omega) (by omega) HB4.out.size ?_
                      intro rv5 Y5 hown hg hat
                      have HO5 := Lib.hid hown
                      have HB5 : Hid (Below U2.heap.size U2 Y5) := HB4.out.grown hg HB4.out.size (fun k hk => (HO4.out.lt k hk).1)
                      clear hown hg hat
                      refine hK _ _ (fun _ => trivial) (HSS.out _ HB5.out) ?_
                      clear hK K
                      refine anyV_one (i := 12) (by kernel_rfl) rfl rfl (fun K hK => ?_)
                      go_simp
                      refine hK _ _ (fun _ => trivial) (HSS.out _ HB5.out) ?_
                      clear hK K
                      refine anyV_done (by kernel_rfl) ?_ _
                      simp only [normPost]
                      have HF : Hid (Y5.ownsRow U2.heap.size 3 1 rv5 (0 + P + 1 + (k - P)) ([] ++ ys.take (P * 1) ++ [.int .i64 (k : Int)] ++ ys.drop (P * 1)) ∧ Below U2.heap.size U2 Y5) := ⟨HO5.out, HB5.out⟩
                      have h9 := HF.out.1
                      rw [show 0 + P + 1 + (k - P) = k + 1 by omega] at h9
                      have o83 : Y5.ownsRow U2.heap.size 3 1 rv5 (k + 1) ((cI l (k + 1)).map inI) := by rw [HIS.out, ← HYS.out]; exact own_base h9 (Nat.le_refl _)
                      have hb3 := HF.out.2
                      have HB13 := Lib.hid (bt hb3 HBU2.out)
                      have HB43 := Lib.hid (bt HB13.out HBC.out)
                      have hs4 := HBW4.out.size
                      have hs5 := HBC.out.size
                      have hs6 := HBU2.out.size
                      have O6 := own_on H64.out HB43.out
                      have O7 := own_on HO72.out hb3
                      have N7 : ∀ g, v6'.ownBlock = some g → u7.ownBlock ≠ some g := fun g h1 h2 => by
                        have := (H64.out.lt g h1).2
                        have := (HO72.out.lt g h2).1
                        omega
                      have N8 : ∀ g, v6'.ownBlock = some g → (rv5).ownBlock ≠ some g := fun g h1 h2 => by
                        have := (H64.out.lt g h1).2
                        have := (o83.lt g h2).1
                        omega
                      have HBF := bt HB43.out HBW4.out
                      have hB4 : B ≤ W4.heap.size := HB4W.out
                      have HG : Hid (Y5.ownsRow B 42 2 v6' (k + 1) (cl2 paF paG (esK l (k + 1))) ∧ Y5.ownsRow B 42 2 u7 (k + 1) (cl2 paF paG (xsK l (k + 1))) ∧ Y5.ownsRow B 3 1 rv5 (k + 1) ((cI l (k + 1)).map inI) ∧ (∀ g, v6'.ownBlock = some g → u7.ownBlock ≠ some g) ∧ (∀ g, v6'.ownBlock = some g → (rv5).ownBlock ≠ some g) ∧ CarsOk l (k + 1) ∧ B ≤ Y5.heap.size ∧ Below w.heap.size w Y5) := ⟨O6, own_base O7 (by omega), own_base o83 (by omega), N7, N8, HOK.out, by have := HB43.out.size; omega, HBF⟩
                      clear O6 O7 N7 N8 HBF o83 hb3 h9 HF
                      go_wp2
                      go_roundw
                      case rel => first
                        | exact ⟨k + 1, by go_num, by omega, by rw [← HE1.out], HG.out⟩
                        | ((repeat apply Exists.intro); exact ⟨⟨k + 1, by go_num, by omega, by rw [← HE1.out], HG.out⟩, rfl⟩)
                      case measure => simp [intOf]; omega
              · obtain ⟨hm0, hlt0⟩ := of_decide_eq_true HQB.out.symm
                obtain ⟨m, rfl⟩ : ∃ m', m = m' + 1 := ⟨m - 1, by omega⟩
                have HPN : Hid (posI (xsK l k) mm m = posI (xsK l k) mm k) := by
                  show _ = _
                  rw [← HPOS.out, posI, if_pos (by simpa using hlt0)]
                clear hlt0 hm0
                go_wp2
                go_roundw
                case rel => exact ⟨m, by omega, by go_num, HPN.out, HBC.out⟩
                case measure => simp [intOf] <;> omega
        · have hr' : plB x.r = false := by simpa using hr
          rw [hr']
          clear hr hr'
          go_wp2
          exact bodyPost_ret (v := .tuple #[.slice none 0 0, .slice none 0 0, .slice none 0 0, .bool false]) (by simp [results, Tryd.results7, go_sem]) rfl (Or.inr ⟨rfl, bt HB2.out HBW.out⟩)
      · have hp' : plB x.p = false := by simpa using hp
        rw [hp']
        clear hp hp' kc0 hCB
        go_wp2
        exact bodyPost_ret (v := .tuple #[.slice none 0 0, .slice none 0 0, .slice none 0 0, .bool false]) (by simp [results, Tryd.results7, go_sem]) rfl (Or.inr ⟨rfl, bt HB1.out HBW.out⟩)
    · obtain rfl : k = l.length := by omega
      obtain ⟨A6, c6, rfl, hc6, r6⟩ := own_read HO6.out
      obtain ⟨A7, c7, rfl, hc7, r7⟩ := own_read HO7.out
      obtain ⟨A8, c8, rfl, hc8, r8⟩ := own_read HO8.out
      have HF : Hid (CarsOk l l.length ∧ RdS wr wr.heap.size 2 A6 l.length (cl2 paF paG (esK l l.length)) ∧ RdS wr wr.heap.size 2 A7 l.length (cl2 paF paG (xsK l l.length)) ∧ RdS wr wr.heap.size 1 A8 l.length ((cI l l.length).map inI) ∧ Below w.heap.size w wr) := ⟨HCK.out, r6, r7, r8, HBW.out⟩
      clear r6 r7 r8 HO6 HO7 HO8 HNE7 HNE8 hlt hk
      have k2 : ¬ ((l.length : Int) < (l.length : Int)) := by omega
      go_wp2
      exact bodyPost_ret (v := .tuple #[.slice A6 l.length c6, .slice A7 l.length c7, .slice A8 l.length c8, .bool true]) (by simp [results, Tryd.results7, go_sem]) rfl (Or.inl ⟨_, _, _, _, _, _, rfl, HF.out⟩)
end Go.Proofs.YthmipmdpdfdlaaaDoor
