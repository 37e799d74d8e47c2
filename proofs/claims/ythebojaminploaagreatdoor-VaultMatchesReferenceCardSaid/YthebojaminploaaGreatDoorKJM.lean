/- The bytes of a journal as plain lists: checksums, records, what is found in an area. No program. -/
import Derived.Test.YthebojaminploaaGreatDoorKMem
import Derived.Test.YthebojaminploaaGreatDoorKFY
set_option linter.unusedVariables false
namespace Go.Proofs.YthebojaminploaaGreatDoor

/-! ### the checksum -/
def fnvS (h : UInt32) (b : UInt8) : UInt32 := (h ^^^ b.toUInt32) * 16777619
def fnv (bs : List UInt8) : UInt32 := bs.foldl fnvS 2166136261
def fnvN (bs : List UInt8) : Nat := (fnv bs).toNat
theorem fnvN_lt (bs : List UInt8) : fnvN bs < 4294967296 := (fnv bs).toNat_lt

/-! ### numbers in bytes -/
def be4 (n : Nat) : List UInt8 := [UInt8.ofNat (n / 16777216), UInt8.ofNat (n / 65536 % 256), UInt8.ofNat (n / 256 % 256), UInt8.ofNat (n % 256)]
def num4 (a b c d : UInt8) : Nat := a.toNat * 16777216 + b.toNat * 65536 + c.toNat * 256 + d.toNat
theorem u8_of (a : UInt8) (n : Nat) (h : n = a.toNat) : UInt8.ofNat n = a := by subst h; exact UInt8.ofNat_toNat
theorem num4_lt (a b c d : UInt8) : num4 a b c d < 4294967296 := by
  have := a.toNat_lt; have := b.toNat_lt; have := c.toNat_lt; have := d.toNat_lt
  unfold num4; omega
theorem be4_num4 (a b c d : UInt8) : be4 (num4 a b c d) = [a, b, c, d] := by
  have := a.toNat_lt; have := b.toNat_lt; have := c.toNat_lt; have := d.toNat_lt
  unfold be4 num4
  rw [u8_of a _ (by omega), u8_of b _ (by omega), u8_of c _ (by omega), u8_of d _ (by omega)]
theorem num4_be4 (n : Nat) (h : n < 4294967296) : num4 (UInt8.ofNat (n / 16777216)) (UInt8.ofNat (n / 65536 % 256)) (UInt8.ofNat (n / 256 % 256)) (UInt8.ofNat (n % 256)) = n := by
  unfold num4
  simp only [UInt8.toNat_ofNat']
  omega
theorem be4_length (n : Nat) : (be4 n).length = 4 := rfl

/-! ### records -/
abbrev Rec := List UInt8
def szL (n : Nat) : List UInt8 := [UInt8.ofNat (n / 256), UInt8.ofNat (n % 256)]
def recL (d : Rec) : List UInt8 := 80 :: (szL d.length ++ (be4 (fnvN (szL d.length ++ d)) ++ d))
theorem recL_length (d : Rec) : (recL d).length = 7 + d.length := by simp [recL, szL, be4_length]; omega
def recs (l : List Rec) : List UInt8 := l.flatMap recL
def room : List Rec → Nat
  | [] => 0
  | d :: l => 7 + d.length + room l
theorem recs_length (l : List Rec) : (recs l).length = room l := by
  induction l with
  | nil => rfl
  | cons d l ih => simp only [recs, List.flatMap_cons, List.length_append, room, recL_length] at ih ⊢; rw [ih]
theorem recs_cons (d : Rec) (l : List Rec) : recs (d :: l) = recL d ++ recs l := by simp [recs]
theorem recs_append (l m : List Rec) : recs (l ++ m) = recs l ++ recs m := by simp [recs]
theorem room_append (l m : List Rec) : room (l ++ m) = room l + room m := by rw [← recs_length, recs_append, List.length_append, recs_length, recs_length]

/-- the size of the record with which the bytes begin, if it is good -/
def stepOk (s : List UInt8) : Option Nat :=
  if 7 ≤ s.length then
    if 7 + ((s.getD 1 0).toNat * 256 + (s.getD 2 0).toNat) ≤ s.length then
      if fnvN ([s.getD 1 0, s.getD 2 0] ++ (s.drop 7).take ((s.getD 1 0).toNat * 256 + (s.getD 2 0).toNat)) = num4 (s.getD 3 0) (s.getD 4 0) (s.getD 5 0) (s.getD 6 0) then some ((s.getD 1 0).toNat * 256 + (s.getD 2 0).toNat) else none
    else none
  else none
theorem stepOk_rec (d : Rec) (hd : d.length ≤ 65535) (rest : List UInt8) : stepOk (recL d ++ rest) = some d.length := by
  have hs1 : (UInt8.ofNat (d.length / 256)).toNat * 256 + (UInt8.ofNat (d.length % 256)).toNat = d.length := by
    simp only [UInt8.toNat_ofNat']; omega
  have hsh : recL d ++ rest = 80 :: UInt8.ofNat (d.length / 256) :: UInt8.ofNat (d.length % 256) :: UInt8.ofNat (fnvN (szL d.length ++ d) / 16777216) :: UInt8.ofNat (fnvN (szL d.length ++ d) / 65536 % 256) :: UInt8.ofNat (fnvN (szL d.length ++ d) / 256 % 256) :: UInt8.ofNat (fnvN (szL d.length ++ d) % 256) :: (d ++ rest) := by
    simp [recL, szL, be4]
  rw [hsh]
  unfold stepOk
  simp only [List.getD_cons_zero, List.getD_cons_succ, List.length_cons, List.length_append, List.drop_succ_cons, List.drop_zero]
  rw [hs1, if_pos (by omega), if_pos (by omega), List.take_left' rfl, num4_be4 _ (fnvN_lt _)]
  exact if_pos rfl
theorem stepOk_some {s : List UInt8} {n : Nat} (h0 : s.getD 0 0 = 80) (h : stepOk s = some n) : n ≤ 65535 ∧ 7 + n ≤ s.length ∧ s.take (7 + n) = recL ((s.drop 7).take n) := by
  unfold stepOk at h
  split at h
  · rename_i h7
    obtain ⟨c0, c1, c2, c3, c4, c5, c6, t, rfl⟩ : ∃ c0 c1 c2 c3 c4 c5 c6 t, s = c0 :: c1 :: c2 :: c3 :: c4 :: c5 :: c6 :: t := by
      rcases s with _ | ⟨c0, s⟩
      · simp at h7
      rcases s with _ | ⟨c1, s⟩
      · simp at h7
      rcases s with _ | ⟨c2, s⟩
      · simp at h7
      rcases s with _ | ⟨c3, s⟩
      · simp at h7
      rcases s with _ | ⟨c4, s⟩
      · simp at h7
      rcases s with _ | ⟨c5, s⟩
      · simp at h7
      rcases s with _ | ⟨c6, s⟩
      · simp at h7
      exact ⟨_, _, _, _, _, _, _, _, rfl⟩
    simp only [List.getD_cons_zero, List.getD_cons_succ, List.length_cons, List.drop_succ_cons, List.drop_zero] at h h0 ⊢
    subst h0
    split at h
    · rename_i hl
      split at h
      · rename_i hf
        obtain rfl : c1.toNat * 256 + c2.toNat = n := by simpa using h
        have b1 := c1.toNat_lt
        have b2 := c2.toNat_lt
        refine ⟨by omega, by omega, ?_⟩
        have ht : (t.take (c1.toNat * 256 + c2.toNat)).length = c1.toNat * 256 + c2.toNat := by rw [List.length_take]; omega
        have e : szL (t.take (c1.toNat * 256 + c2.toNat)).length = [c1, c2] := by
          rw [ht, szL, u8_of c1 _ (by omega), u8_of c2 _ (by omega)]
        rw [recL, e, hf, be4_num4, Nat.add_comm 7]
        simp
      · cases h
    · cases h
  · cases h

/-- what is found in the bytes of an area from a place on: the records and the end, or nothing if one is wrong -/
def scan (b : List UInt8) : Nat → Nat → Option (List Rec × Nat)
  | 0, p => some ([], p)
  | k + 1, p =>
    if p < b.length ∧ b.getD p 0 = 80 then
      match stepOk (b.drop p) with
      | none => none
      | some n => (scan b k (p + 7 + n)).map fun r => ((((b.drop p).drop 7).take n) :: r.1, r.2)
    else some ([], p)
def scanA (b : List UInt8) : Option (List Rec × Nat) := scan b b.length 5

/-- the end of what is found -/
def stops (s : List UInt8) : Prop := s = [] ∨ s.getD 0 0 ≠ 80
theorem drop_getD (b : List UInt8) (p i : Nat) : (b.drop p).getD i 0 = b.getD (p + i) 0 := by
  rw [List.getD_eq_getElem?_getD, List.getElem?_drop, ← List.getD_eq_getElem?_getD]
theorem stops_drop (b : List UInt8) (p : Nat) : stops (b.drop p) ↔ ¬ (p < b.length ∧ b.getD p 0 = 80) := by
  unfold stops
  rw [drop_getD, Nat.add_zero, List.drop_eq_nil_iff]
  by_cases h : p < b.length
  · simp only [h, true_and]
    exact ⟨fun h' => h'.resolve_left (by omega), .inr⟩
  · simp only [h, false_and, not_false_iff, iff_true]
    exact .inl (by omega)
/-- records, then the end: that is found -/
theorem scan_recs (l : List Rec) : ∀ (b : List UInt8) (k p : Nat) (rest : List UInt8), (∀ d ∈ l, d.length ≤ 65535) → b.drop p = recs l ++ rest → stops rest → room l ≤ k → scan b k p = some (l, p + room l) := by
  induction l with
  | nil =>
    intro b k p rest _ hb hs _
    have hb' : stops (b.drop p) := by rw [hb]; simpa [recs] using hs
    rw [stops_drop] at hb'
    cases k with
    | zero => rfl
    | succ k => rw [scan, if_neg hb']; rfl
  | cons d l ih =>
    intro b k p rest hd hb hs hk
    have hd0 := hd d (by simp)
    rw [recs_cons, List.append_assoc] at hb
    have hh : ¬ stops (b.drop p) := by
      rw [hb]
      rintro (h | h)
      · have := congrArg List.length h; simp [recL_length] at this
      · exact h (by simp [recL])
    rw [stops_drop, Classical.not_not] at hh
    cases k with
    | zero => simp [room] at hk
    | succ k =>
      have hb2 : b.drop (p + 7 + d.length) = recs l ++ rest := by
        rw [Nat.add_assoc, ← List.drop_drop, hb, List.drop_left' (recL_length d)]
      rw [scan, if_pos hh, hb, stepOk_rec d hd0]
      simp only
      rw [ih b k _ rest (fun x hx => hd x (by simp [hx])) hb2 hs (by simp [room] at hk; omega)]
      have e : (List.drop 7 (recL d ++ (recs l ++ rest))).take d.length = d := by
        have : recL d ++ (recs l ++ rest) = (80 :: (szL d.length ++ be4 (fnvN (szL d.length ++ d)))) ++ (d ++ (recs l ++ rest)) := by simp [recL]
        rw [this, List.drop_left' (by simp [szL, be4_length]), List.take_left' rfl]
      simp only [Option.map_some, e, room]
      congr 2
      omega
/-- what is found: records, and the end -/
theorem scan_some : ∀ (k : Nat) (b : List UInt8) (p : Nat) (l : List Rec) (e : Nat), b.length ≤ p + k → scan b k p = some (l, e) → (∀ d ∈ l, d.length ≤ 65535) ∧ e = p + room l ∧ b.drop p = recs l ++ b.drop e ∧ stops (b.drop e)
  | 0, b, p, l, e, hk, h => by
    obtain ⟨rfl, rfl⟩ : [] = l ∧ p = e := by simpa [scan] using h
    exact ⟨by simp, rfl, by simp [recs], (stops_drop b p).2 (by omega)⟩
  | k + 1, b, p, l, e, hk, h => by
    rw [scan] at h
    split at h
    · rename_i hh
      split at h
      · cases h
      · rename_i n hn
        rw [Option.map_eq_some_iff] at h
        obtain ⟨⟨l', e'⟩, hs, heq⟩ := h
        obtain ⟨rfl, rfl⟩ : ((b.drop p).drop 7).take n :: l' = l ∧ e' = e := by simpa using heq
        obtain ⟨s1, s2, s3⟩ := stepOk_some (by rw [drop_getD, Nat.add_zero]; exact hh.2) hn
        obtain ⟨i1, i2, i3, i4⟩ := scan_some k b (p + 7 + n) l' e' (by omega) hs
        rw [List.length_drop] at s2
        have hl : (((b.drop p).drop 7).take n).length = n := by rw [List.length_take, List.length_drop, List.length_drop]; omega
        refine ⟨?_, ?_, ?_, i4⟩
        · intro d hd
          rcases List.mem_cons.1 hd with rfl | hd
          · rw [hl]; exact s1
          · exact i1 d hd
        · rw [room, hl, i2]; omega
        · rw [recs_cons, List.append_assoc, ← i3, ← s3, Nat.add_assoc, ← List.drop_drop, List.take_append_drop]
    · rename_i hh
      obtain ⟨rfl, rfl⟩ : [] = l ∧ p = e := by simpa using h
      exact ⟨by simp, rfl, by simp [recs], (stops_drop b p).2 hh⟩
end Go.Proofs.YthebojaminploaaGreatDoor

/- Slices of slices of bytes that are read. No program. -/
set_option linter.unusedVariables false
namespace Go.Proofs.YthebojaminploaaGreatDoor
open Go.RowKit

/-- a slice of slices of bytes -/
def RdBs (w : World) (B : Nat) (A : Option Addr) (ds : List Rec) : Prop :=
  0 < ds.length → ∃ b o, A = some ⟨b, o, none⟩ ∧ b < B ∧ ∀ i d, ds[i]? = some d → ∃ A' c', w.cell? ⟨b, o + i, none⟩ = some (.slice A' d.length c') ∧ d.length ≤ c' ∧ RdB w B A' d
section
variable {w w' : World} {B B' : Nat} {A : Option Addr} {ds : List Rec}
theorem RdBs.below (h : RdBs w B A ds) (hb : Below B w w') : RdBs w' B A ds := fun hn => by
  obtain ⟨b, o, e, hl, hc⟩ := h hn
  refine ⟨b, o, e, hl, fun i d hd => ?_⟩
  obtain ⟨A', c', h1, h2, h3⟩ := hc i d hd
  exact ⟨A', c', (hb.cell (p := ⟨b, o + i, none⟩) hl).trans h1, h2, h3.below hb⟩
theorem RdBs.more (h : RdBs w B A ds) (hb : B ≤ B') : RdBs w B' A ds := fun hn => by
  obtain ⟨b, o, e, hl, hc⟩ := h hn
  refine ⟨b, o, e, by omega, fun i d hd => ?_⟩
  obtain ⟨A', c', h1, h2, h3⟩ := hc i d hd
  exact ⟨A', c', h1, h2, h3.more hb⟩
theorem RdBs.next (h : RdBs w w.heap.size A ds) (hb : Below w.heap.size w w') : RdBs w' w'.heap.size A ds := (h.below hb).more hb.size
theorem RdBs.at_ (h : RdBs w B A ds) {i : Nat} (hi : i < ds.length) : ∃ b o A' c', A = some ⟨b, o, none⟩ ∧ b < B ∧ w.cell? ⟨b, o + i, none⟩ = some (.slice A' ds[i].length c') ∧ ds[i].length ≤ c' ∧ RdB w B A' ds[i] := by
  obtain ⟨b, o, e, hl, hc⟩ := h (by omega)
  obtain ⟨A', c', h1, h2, h3⟩ := hc i ds[i] (List.getElem?_eq_getElem hi)
  exact ⟨b, o, A', c', e, hl, h1, h2, h3⟩
theorem RdBs.nil : RdBs w B A [] := fun h => absurd h (by simp)
end
theorem al1 (w : World) (o : Obj) : Below w.heap.size w (w.alloc o) := (Below.refl _ _).alloc (Nat.le_refl _) _
theorem al2 (w : World) (o o' : Obj) : Below w.heap.size w ((w.alloc o).alloc o') := (al1 w o).alloc (by simp) _
theorem al3 (w : World) (o o' o'' : Obj) : Below w.heap.size w (((w.alloc o).alloc o').alloc o'') := (al2 w o o').alloc (by simp; omega) _
theorem box1 {w : World} {k : Nat} {t : TypeId} {a : Value} (h : Bk w k t #[a]) : w.cell? ⟨k, 0, none⟩ = some a := h.cell 0
theorem box2 {w : World} {k : Nat} {t : TypeId} {a b : Value} (h : Bk w k t #[a, b]) : w.cell? ⟨k, 0, none⟩ = some a ∧ w.cell? ⟨k, 1, none⟩ = some b := ⟨h.cell 0, h.cell 1⟩
theorem own_read {w : World} {base n sz : Nat} {e : TypeId} {v : Value} {xs : List Value} (h : w.ownsRow base e sz v n xs) : ∃ A c, v = .slice A n c ∧ n ≤ c ∧ RdS w w.heap.size sz A n xs := by
  have h' := h
  obtain ⟨h1, h2⟩ := h
  rcases h2 with ⟨rfl, rfl⟩ | ⟨g, cap, cur, rfl, _, _, hc, _⟩
  · have : xs = [] := List.eq_nil_of_length_eq_zero (by omega)
    subst this
    exact ⟨none, 0, rfl, Nat.le_refl _, RdS.nil⟩
  · exact ⟨some ⟨g, 0, none⟩, cap, rfl, hc, RdS.of_own h'⟩
theorem own_on {w w' : World} {base n sz : Nat} {e : TypeId} {v : Value} {xs : List Value} (h : w.ownsRow base e sz v n xs) (hb : Below w.heap.size w w') : w'.ownsRow base e sz v n xs := by
  obtain ⟨h1, h2⟩ := h
  refine ⟨h1, ?_⟩
  rcases h2 with h2 | ⟨g, cap, cur, rfl, hg, hh, r⟩
  · exact .inl h2
  · exact .inr ⟨g, cap, cur, rfl, hg, (hb.block g (Array.getElem?_eq_some_iff.1 hh).1).trans hh, r⟩
end Go.Proofs.YthebojaminploaaGreatDoor

/- What a journal memory is: areas, generations, which area counts. No program. -/
set_option linter.unusedVariables false
namespace Go.Proofs.YthebojaminploaaGreatDoor

def jvB (s : Int) (n : Nat) : Bool := validB s n && decide ((n : Int) / s % 2 = 0) && decide (32 ≤ (n : Int))
def hf (m : Mem) : Nat := m.2.length / 2
def areaB (m : Mem) (a : Nat) : List UInt8 := (m.2.drop (a * hf m)).take (hf m)
def genB (b : List UInt8) : Nat := num4 (b.getD 1 0) (b.getD 2 0) (b.getD 3 0) (b.getD 4 0)
def curO (m : Mem) : Option Nat :=
  if (areaB m 0).getD 0 0 = 80 then
    if (areaB m 1).getD 0 0 = 80 then if genB (areaB m 0) < genB (areaB m 1) then some 1 else some 0 else some 0
  else if (areaB m 1).getD 0 0 = 80 then some 1 else none
theorem areaB_length (m : Mem) {a : Nat} (ha : a ≤ 1) : (areaB m a).length = hf m := by
  unfold areaB hf
  rw [List.length_take, List.length_drop]
  have : a * (m.2.length / 2) ≤ m.2.length / 2 := by
    calc a * (m.2.length / 2) ≤ 1 * (m.2.length / 2) := Nat.mul_le_mul_right _ ha
      _ = _ := Nat.one_mul _
  omega
theorem jv_len {s : Int} {n : Nat} (h : jvB s n = true) : 32 ≤ n := by
  simp only [jvB, Bool.and_eq_true, decide_eq_true_eq] at h; omega
/-- a part of what is read -/
theorem RdB.part {w : World} {B b o : Nat} {bs : List UInt8} (h : RdB w B (some ⟨b, o, none⟩) bs) (i n : Nat) (hn : 0 < n) (hi : i + n ≤ bs.length) : RdB w B (some ⟨b, o + i, none⟩) ((bs.drop i).take n) := by
  have hl : ((bs.drop i).take n).length = n := by rw [List.length_take, List.length_drop]; omega
  obtain ⟨b', o', e, hb, hc⟩ := h.addr (by omega)
  obtain ⟨rfl, rfl⟩ : b = b' ∧ o = o' := by simpa using e
  refine ⟨by simp, fun _ => ⟨b, o + i, rfl, hb, fun j u hu => ?_⟩⟩
  have hj : j < n := by
    rcases Nat.lt_or_ge j n with h' | h'
    · exact h'
    · rw [List.getElem?_eq_none (by simp; omega)] at hu; cases hu
  rw [u8s_get _ j (by omega)] at hu
  rw [← Option.some.inj hu, Nat.add_assoc, hc (i + j) (by omega)]
  simp
end Go.Proofs.YthebojaminploaaGreatDoor
