/- The reference's Program and Erase: the same lists of memories. -/
import Derived.Test.YtpcklbmhblmjpaaFh
import Derived.Test.YtpcklbmhblmjpaaReg
set_option maxRecDepth 100000
set_option linter.unusedVariables false
set_option linter.unusedSimpArgs false
namespace Go.Proofs.Ytpcklbmhblmjpaa
open Go.RowKit

/-- elements of a list of memories: where the bytes are, the room, the bytes -/
abbrev Elt := Option Addr × Nat × List UInt8
def cellsE (s : Int) (its : List Elt) : List Value := its.flatMap fun x => [.int .i64 s, .slice x.1 x.2.2.length x.2.1]
theorem cellsE_snoc (s : Int) (its : List Elt) (x : Elt) : cellsE s (its ++ [x]) = cellsE s its ++ [.int .i64 s, .slice x.1 x.2.2.length x.2.1] := by simp [cellsE]
theorem cellsE_get (s : Int) : ∀ (its : List Elt) (i : Nat) (x : Elt), its[i]? = some x → (cellsE s its)[i * 2]? = some (.int .i64 s) ∧ (cellsE s its)[i * 2 + 1]? = some (.slice x.1 x.2.2.length x.2.1)
  | [], i, x, h => by simp at h
  | y :: l, 0, x, h => by
    simp at h; subst h
    simp [cellsE]
  | y :: l, i + 1, x, h => by
    simp at h
    have := cellsE_get s l i x h
    simp only [cellsE, List.flatMap_cons] at this ⊢
    rw [show (i + 1) * 2 = i * 2 + 1 + 1 from by omega]
    simpa using this
def EltOk (w : World) (x : Elt) : Prop := RdB w w.heap.size x.1 x.2.2 ∧ x.2.2.length ≤ x.2.1

/-- the slice of what has been made so far -/
def Lst (s : Int) (base : Nat) (its : List Elt) (v : Value) (W : World) : Prop := W.ownsRow base 24 2 v its.length (cellsE s its) ∧ (∀ x ∈ its, EltOk W x) ∧ ∀ x ∈ its, 0 < x.2.2.length → ∀ b o, x.1 = some ⟨b, o, none⟩ → some b ≠ v.ownBlock

theorem Lst.reads {s : Int} {base : Nat} {its : List Elt} {A : Option Addr} {c : Nat} {W : World} (h : Lst s base its (.slice A its.length c) W) : RdFs W W.heap.size A (its.map fun x => (s, x.2.2)) := by
  intro hn
  have hn' : 0 < its.length := by simpa using hn
  obtain ⟨g, cap, hv, _, hlt⟩ := h.1.form hn'
  have hA : A = some ⟨g, 0, none⟩ := by injection hv
  subst hA
  refine ⟨g, 0, rfl, hlt, fun i m hm => ?_⟩
  simp only [List.getElem?_map, Option.map_eq_some_iff] at hm
  obtain ⟨x, hx, rfl⟩ := hm
  obtain ⟨q1, q2⟩ := cellsE_get s its i x hx
  have hc : ∀ j u, (cellsE s its)[j]? = some u → W.cell? ⟨g, 0 + j, none⟩ = some u := fun j u hu => by have := h.1.cells (g := g) rfl j u hu; rwa [add_mk] at this
  obtain ⟨o1, o2⟩ := h.2.1 x (List.mem_of_getElem? hx)
  exact ⟨x.1, x.2.1, hc _ _ q1, hc _ _ q2, o2, o1⟩

theorem Lst.at_ {s : Int} {base g : Nat} {its : List Elt} {c : Nat} {W : World} (h : Lst s base its (.slice (some ⟨g, 0, none⟩) its.length c) W) {k : Nat} (hk : k < its.length) :
    ∃ A1 c1, W.cell? ⟨g, k * 2, none⟩ = some (.int .i64 s) ∧ W.cell? ⟨g, k * 2 + 1, none⟩ = some (.slice A1 its[k].2.2.length c1) ∧ its[k].2.2.length ≤ c1 ∧ RdB W W.heap.size A1 its[k].2.2 ∧ (0 < its[k].2.2.length → ∀ b o, A1 = some ⟨b, o, none⟩ → b ≠ g) := by
  obtain ⟨q1, q2⟩ := cellsE_get s its k its[k] (List.getElem?_eq_getElem hk)
  have hc : ∀ j u, (cellsE s its)[j]? = some u → W.cell? ⟨g, j, none⟩ = some u := fun j u hu => by have := h.1.cells (g := g) rfl j u hu; rwa [add_mk, Nat.zero_add] at this
  obtain ⟨o1, o2⟩ := h.2.1 its[k] (List.getElem_mem hk)
  refine ⟨its[k].1, its[k].2.1, hc _ _ q1, hc _ _ q2, o2, o1, fun hn b o e he => h.2.2 its[k] (List.getElem_mem hk) hn b o e ?_⟩
  rw [he]; rfl

theorem EltOk.next {w w' : World} {x : Elt} (h : EltOk w x) (hb : Below w.heap.size w w') : EltOk w' x := ⟨h.1.next hb, h.2⟩

/-- a row of memories stays what it is over a step that keeps what was there -/
theorem own_next {W W' : World} {base size k : Nat} {e : TypeId} {v : Value} {xs : List Value} (h : W.ownsRow base e size v k xs) (hb : Below W.heap.size W W') : W'.ownsRow base e size v k xs := by
  obtain ⟨h1, h2⟩ := h
  refine ⟨h1, ?_⟩
  rcases h2 with h2 | ⟨g, cap, cur, rfl, hg, hh, r⟩
  · exact .inl h2
  · exact .inr ⟨g, cap, cur, rfl, hg, (hb.block g (Array.getElem?_eq_some_iff.1 hh).1).trans hh, r⟩
theorem Lst.next {s : Int} {base : Nat} {its : List Elt} {v : Value} {W W' : World} (h : Lst s base its v W) (hb : Below W.heap.size W W') : Lst s base its v W' := ⟨own_next h.1 hb, fun x hx => (h.2.1 x hx).next hb, h.2.2⟩

/-- a byte array is not written by an append to a row of memories -/
theorem EltOk.grown {W w1 : World} {base k : Nat} {v : Value} {xs : List Value} {x : Elt} (h : EltOk W x) (hr : W.ownsRow base 24 2 v k xs) (hg : W.grownBy w1 v.ownBlock) (hby : ∀ b o, x.1 = some ⟨b, o, none⟩ → 0 < x.2.2.length → some b ≠ v.ownBlock) : EltOk w1 x := by
  refine ⟨⟨h.1.1, fun hn => ?_⟩, h.2⟩
  obtain ⟨b, o, e, hb, hc⟩ := h.1.2 hn
  exact ⟨b, o, e, Nat.lt_of_lt_of_le hb hg.size, fun j u hu => (World.cell?_of_block (a := ⟨b, o + j, none⟩) (hg.block b hb (hby b o e hn))).trans (hc j u hu)⟩

/-- one memory more -/
theorem Lst.snoc {s : Int} {base : Nat} {its : List Elt} {x : Elt} {v v' : Value} {W w1 : World} {tmp : Obj} (h : Lst s base its v W) (hx : EltOk W x) (hsep : 0 < x.2.2.length → ∀ b o, x.1 = some ⟨b, o, none⟩ → some b ≠ v.ownBlock)
    (hown : w1.ownsRow base 24 2 v' (its.length + 1) (cellsE s its ++ [.int .i64 s, .slice x.1 x.2.2.length x.2.1])) (hgrow : (W.alloc tmp).grownBy w1 v.ownBlock) (hat : v'.ownBlock = v.ownBlock ∨ v'.ownBlock = some (W.alloc tmp).heap.size) :
    Lst s base (its ++ [x]) v' w1 := by
  have hal : Below W.heap.size W (W.alloc tmp) := (Below.refl _ _).alloc (Nat.le_refl _) _
  have key : ∀ y ∈ its ++ [x], EltOk W y ∧ (0 < y.2.2.length → ∀ b o, y.1 = some ⟨b, o, none⟩ → some b ≠ v.ownBlock) := by
    intro y hy
    rcases List.mem_append.1 hy with hy | hy
    · exact ⟨h.2.1 y hy, h.2.2 y hy⟩
    · obtain rfl : y = x := by simpa using hy
      exact ⟨hx, hsep⟩
  refine ⟨by rw [cellsE_snoc]; simpa using hown, fun y hy => ?_, fun y hy hn b o e => ?_⟩
  · obtain ⟨k1, k2⟩ := key y hy
    exact (k1.next hal).grown (own_next h.1 hal) hgrow (fun b o e hn => k2 hn b o e)
  · obtain ⟨k1, k2⟩ := key y hy
    rcases hat with q | q
    · rw [q]; exact k2 hn b o e
    · rw [q]
      intro he
      obtain ⟨b', o', e', hb', _⟩ := k1.1.2 hn
      rw [e] at e'
      injection e' with e'
      injection e' with e'
      simp at he
      omega

theorem keep4 {W W' : World} {nb b2 o2 b3 o3 : Nat} {x0 x1 x2 x3 : Value} (y0 : W.cell? ⟨nb, 0, none⟩ = some x0) (y1 : W.cell? ⟨nb, 1, none⟩ = some x1) (y2 : W.cell? ⟨b2, o2, none⟩ = some x2) (y3 : W.cell? ⟨b3, o3, none⟩ = some x3)
    (h1 : W'.heap[nb]? = W.heap[nb]?) (h2 : W'.heap[b2]? = W.heap[b2]?) (h3 : W'.heap[b3]? = W.heap[b3]?) : W'.cell? ⟨nb, 0, none⟩ = some x0 ∧ W'.cell? ⟨nb, 1, none⟩ = some x1 ∧ W'.cell? ⟨b2, o2, none⟩ = some x2 ∧ W'.cell? ⟨b3, o3, none⟩ = some x3 :=
  ⟨(World.cell?_of_block (a := ⟨nb, 0, none⟩) h1).trans y0, (World.cell?_of_block (a := ⟨nb, 1, none⟩) h1).trans y1, (World.cell?_of_block (a := ⟨b2, o2, none⟩) h2).trans y2, (World.cell?_of_block (a := ⟨b3, o3, none⟩) h3).trans y3⟩

set_option maxHeartbeats 4000000 in
theorem rProgram_any (m : Mem) (p : Int) (ds : List UInt8) (A Ad : Option Addr) (c cd : Nat) (w : World) (hA : RdB w w.heap.size A m.2) (hAd : RdB w w.heap.size Ad ds) (hcap : m.2.length ≤ c) (hn : m.2.length ≤ 1000000000) (hd : ds.length ≤ 1000000000) (hp0 : -9223372036854775808 ≤ p) (hp1 : p ≤ 9223372036854775807) :
    Calls Try.prog 55 #[.agg #[.int .i64 m.1, .slice A m.2.length c], .int .i64 p, .slice Ad ds.length cd] w (ListPost w (progL m p ds) (progE m p ds)) := by
  obtain ⟨tI, hi, hz0, hz1, hz2⟩ := info_parts info_flash
  obtain ⟨s, bs⟩ := m
  dsimp only at *
  have HA := Lib.hid hA
  have HD := Lib.hid hAd
  clear hA hAd
  have hB0 : Below w.heap.size w (w.alloc (.cells #[.int .i64 s, .slice A bs.length c] 24)) := (Below.refl _ w).alloc (Nat.le_refl _) _
  have k1 : Bk (w.alloc (.cells #[.int .i64 s, .slice A bs.length c] 24)) w.heap.size 24 #[.int .i64 s, .slice A bs.length c] := Bk.new _ _ _
  by_cases hv : validB s bs.length = true
  · have hv' := (valid_iff _ _).1 hv
    obtain ⟨v1, v2, v3, v4, v5⟩ := hv'
    by_cases h0 : 0 ≤ p
    · by_cases h1 : p ≤ (bs.length : Int) - (ds.length : Int)
      · obtain ⟨e1, e2⟩ := prog_in (m := (s, bs)) hv h0 h1
        rw [e1, e2]
        clear e1 e2 v5
        obtain ⟨q, rfl⟩ := Int.eq_ofNat_of_zero_le h0
        have h2 : (ds.length : Int) ≤ (bs.length : Int) - (q : Int) := by omega
        have z1 : decide (bs.length < q) = false := by simp; omega
        have z2 : decide ((q : Int) < 0) = false := by simp
        have z3 : decide ((bs.length : Int) - (q : Int) < (ds.length : Int)) = false := by simp; omega
        have qe : ((q : Int)).toNat = q := by omega
        rw [qe]
        clear qe
        go_enter Try.func55, Try.ntmps55
        go_wp2_with fail
        refine (rValid_any _ _ _ _ _).mono ?_
        rintro e W2 ⟨rfl, hb2⟩
        have k3 := k1.next hb2
        obtain ⟨c0, c1, _, _⟩ := boxFacts k3
        have hbb := bt hb2 hB0
        have RA := HA.out.next hbb
        clear k1 hb2 hB0 k3
        have hz := hbb.size
        go_wp2
        go_loopw [8, 9] (fun v i wr => ∃ (k : Nat) (its : List Elt), i = .int .i64 (k : Int) ∧ k ≤ ds.length ∧ its.length = k + 1 ∧ its.map (·.2.2) = memos (andF ds) bs q k ∧ Lst s w.heap.size its v wr ∧ Below w.heap.size w wr) (fun _ i _ => ds.length - (intOf i).toNat)
        case atStart =>
          refine ⟨0, [(A, c, bs)], rfl, Nat.zero_le _, rfl, rfl, ⟨?_, ?_, ?_⟩, hbb.alloc hz _⟩
          · exact ⟨rfl, .inr ⟨W2.heap.size, 1, _, rfl, hz, Bk.new _ _ _, Nat.le_refl _, by simp [maxLen], rfl, rfl⟩⟩
          · intro x hx
            obtain rfl : x = (A, c, bs) := by simpa using hx
            exact ⟨RA.next ((Below.refl _ _).alloc (Nat.le_refl _) _), hcap⟩
          · intro x hx hlen b o e
            obtain rfl : x = (A, c, bs) := by simpa using hx
            obtain ⟨b', o', e', hb', _⟩ := HA.out.2 hlen
            rw [show A = some ⟨b, o, none⟩ from e] at e'
            injection e' with e'; injection e' with e'
            simp [Value.ownBlock]
            omega
        case round =>
          obtain ⟨k, its, rfl, hk, hil, him, hl, hb⟩ := hrel
          have HIM := Lib.hid him
          have HIL := Lib.hid hil
          obtain ⟨g, cap, hvs⟩ := ownsRow_succ (by rw [← hil]; exact hl.1)
          rw [hvs] at hl ⊢
          have HL := Lib.hid hl
          by_cases hlt : k < ds.length
          · have hl' := hl
            rw [← hil] at hl'
            obtain ⟨A1, c1', r1, r2, r3, r4, r5⟩ := Lst.at_ hl' (k := k) (by omega)
            have hm : (its[k]'(by omega)).2.2 = memo (andF ds) bs q k := by
              have h5 := memos_get (andF ds) bs q k k (by omega)
              rw [← him] at h5
              simp only [List.getElem?_map, Option.map_eq_some_iff] at h5
              obtain ⟨y, hy, hy2⟩ := h5
              obtain ⟨hk', hy'⟩ := List.getElem?_eq_some_iff.1 hy
              rw [hy']; exact hy2
            rw [hm] at r2 r3 r4 r5
            have hml := memo_length (andF ds) bs q k
            obtain ⟨mb, hmb⟩ : ∃ mb, mb = memo (andF ds) bs q k := ⟨_, rfl⟩
            rw [← hmb] at r2 r3 r4 r5 hml
            have hqk : q + k < mb.length := by omega
            have n4 : mb.length ≤ 4096 := by omega
            have HML := Lib.hid hml
            have HMB := Lib.hid hmb
            clear hm hil him hl hl' hml hmb hvs
            have R5s := Lib.hid (r5 (by omega))
            clear r5
            go_wp2
            obtain ⟨W5, hW5⟩ : ∃ W5, wr.alloc (.cells #[.int .i64 s, .slice A1 mb.length c1'] 24) = W5 := ⟨_, rfl⟩
            rw [hW5]
            obtain ⟨nb, hnb⟩ : ∃ nb, nb = wr.heap.size := ⟨_, rfl⟩
            rw [← hnb]
            have h5 : Bk W5 nb 24 #[.int .i64 s, .slice A1 mb.length c1'] := by rw [← hW5, hnb]; exact Bk.new _ _ _
            have hb5 : Below wr.heap.size wr W5 := by rw [← hW5]; exact (Below.refl _ _).alloc (Nat.le_refl _) _
            have hbw5 : Below w.heap.size w W5 := bt hb5 hb
            have L5 := HL.out.next hb5
            have R5 := r4.next hb5
            obtain ⟨y0, y1, _, _⟩ := boxFacts h5
            obtain ⟨b2, o2, rfl, hb2', y2⟩ := R5.at_ hqk
            obtain ⟨b3, o3, rfl, hb3w, y3w⟩ := HD.out.at_ hlt
            have y3 := (hbw5.cell (p := ⟨b3, o3 + k, none⟩) hb3w).trans y3w
            have hb3' : b3 < W5.heap.size := by have := hbw5.size; omega
            clear y3w
            have hand := and_u8 mb[q + k] ds[k]
            have hmemo : memo (andF ds) bs q (k + 1) = mb.set (q + k) (mb[q + k] &&& ds[k]) := by
              simp only [memo]
              rw [← HMB.out, List.getD_eq_getElem?_getD, List.getElem?_eq_getElem hqk, Option.getD_some]
              simp [andF, hlt]
            have hwith := With_any s mb (some ⟨b2, o2, none⟩) c1' (q + k) (mb[q + k] &&& ds[k]) W5.drew R5 hqk (by omega)
            rw [Int.natCast_add] at hwith
            have HW := Lib.hid hwith
            have HMM := Lib.hid hmemo
            have HL5 := Lib.hid L5
            have hnl : nb < W5.heap.size := h5.lt
            have hgnb : g ≠ nb := by
              obtain ⟨_, _, h8, _, h9⟩ := HL.out.1.form (by have := HIL.out; omega)
              injection h8 with h8; injection h8 with h8; injection h8 with h8
              omega
            clear hW5 hnb h5 hb5 L5 R5 hwith hmemo r1 r2 r4 HL hbb RA
            have i1 : (0 : Int) ≤ (q : Int) + (k : Int) := by omega
            have i2 : (q : Int) + (k : Int) < (mb.length : Int) := by omega
            have i3 : ((q : Int) + (k : Int)).toNat = q + k := by omega
            have i0 : IntKind.i64.wrap ((q : Int) + (k : Int)) = (q : Int) + (k : Int) := IntWalk.i64_in _ (by omega)
            have hgl : g < W5.heap.size := by
              obtain ⟨_, _, h8, _, h9⟩ := HL5.out.1.form (by have := HIL.out; omega)
              injection h8 with h8; injection h8 with h8; injection h8 with h8
              omega
            have hg0 : w.heap.size ≤ g := own_ge HL5.out.1 g rfl
            have hszw := hbw5.size
            have hsb : b2 ≠ g := R5s.out b2 o2 rfl
            go_region_held3 (fun w' => w'.cell? ⟨nb, 0, none⟩ = some (.int .i64 s) ∧ w'.cell? ⟨nb, 1, none⟩ = some (.slice (some ⟨b2, o2, none⟩) mb.length c1') ∧ w'.cell? ⟨b2, o2 + (q + k), none⟩ = some (.int .u8 (mb[q + k].toNat : Int)) ∧ w'.cell? ⟨b3, o3 + k, none⟩ = some (.int .u8 (ds[k].toNat : Int)))
              (first
                | exact ⟨y0, y1, y2, y3⟩
                | exact keep4 y0 y1 y2 y3 (hb6.block nb hnl) (hb6.block b2 hb2') (hb6.block b3 hb3')
                | exact keep4 y0 y1 y2 y3 ((Below.heap_alloc W6 _ nb (by omega)).trans (hb6.block nb hnl)) ((Below.heap_alloc W6 _ b2 (by omega)).trans (hb6.block b2 hb2')) ((Below.heap_alloc W6 _ b3 (by omega)).trans (hb6.block b3 hb3'))
                | exact keep4 y0 y1 y2 y3 ((hgrow.block nb (by simp; omega) (by simp [Value.ownBlock]; omega)).trans ((Below.heap_alloc W6 _ nb (by omega)).trans (hb6.block nb hnl))) ((hgrow.block b2 (by simp; omega) (by simp [Value.ownBlock]; omega)).trans ((Below.heap_alloc W6 _ b2 (by omega)).trans (hb6.block b2 hb2'))) ((hgrow.block b3 (by simp; omega) (by simp [Value.ownBlock]; omega)).trans ((Below.heap_alloc W6 _ b3 (by omega)).trans (hb6.block b3 hb3')))
                | fail)
              (first
                | (go_at_call 57; refine HW.out.mono ?_; rintro e W6 ⟨g6, cap6, rfl, hcap6, hg6, R6, hb6⟩; have hb6 : Below W5.heap.size W5 W6 := ⟨hb6.os, hb6.tape, hb6.output, hb6.size, hb6.block⟩; have hsz6 := hb6.size; have hrow := (HL5.out.next hb6).1; rw [HIL.out] at hrow)
                | (refine step_append_lies _ (by rfl) _ _ _ (by rfl) w.heap.size 24 tI (.agg #[.int .i64 0, .slice none 0 0]) 2 32 Try.underlying35 hi hz0 hz1 hz2 rfl (by omega) (.slice (some ⟨g, 0, none⟩) (k + 1) cap) (k + 1) (cellsE s its) (by rfl) (hrow.alloc _) ⟨W6.heap.size, 0, none⟩ 1 1 [.int .i64 s, .slice (some ⟨g6, 0, none⟩) mb.length cap6] (by rfl) (by rfl) (news2 _ _ _ _) (by simp [Value.oneCell']) (by omega) (by simp only [maxLen]; omega) (by omega) (by simp; omega) _ rfl ?_; intro g' cap' w1 hown' hgrow hat hlt'))
            have HB6 := Lib.hid hb6
            have HL6 := Lib.hid (HL5.out.next hb6)
            have HX : Hid (EltOk W6 (some ⟨g6, 0, none⟩, cap6, mb.set (q + k) (mb[q + k] &&& ds[k]))) := ⟨R6, by simpa using hcap6⟩
            have HS6 : Hid (∀ b o, (some ⟨g6, 0, none⟩ : Option Addr) = some ⟨b, o, none⟩ → some b ≠ (Value.slice (some ⟨g, 0, none⟩) (k + 1) cap).ownBlock) := by
              intro b o e he
              injection e with e; injection e with e
              have h7 : b = g := by simpa [Value.ownBlock] using he
              have : W5.drew.heap.size = W5.heap.size := rfl
              omega
            have HG := Lib.hid hgrow
            have HO := Lib.hid hown'
            have HAT : Hid ((Value.slice (some ⟨g', 0, none⟩) (k + 1 + 1) cap').ownBlock = (Value.slice (some ⟨g, 0, none⟩) (k + 1) cap).ownBlock ∨ (Value.slice (some ⟨g', 0, none⟩) (k + 1 + 1) cap').ownBlock = some (W6.alloc (.cells #[.int .i64 s, .slice (some ⟨g6, 0, none⟩) mb.length cap6] 24)).heap.size) := by
              rcases hat with e | e
              · exact .inl e.symm
              · exact .inr (by rw [← e]; rfl)
            clear hgrow hown' hat R6 hb6 i0 i1 i2 i3 y0 y1 y2 y3 hrow
            go_wp2
            go_roundw
            case rel =>
              refine ⟨k + 1, its ++ [(some ⟨g6, 0, none⟩, cap6, mb.set (q + k) (mb[q + k] &&& ds[k]))], by go_num, by omega, by simp [HIL.out], ?_, ?_, ?_⟩
              · rw [List.map_append, HIM.out, memos_succ, HMM.out]; rfl
              · refine Lst.snoc HL6.out HX.out (fun _ => HS6.out) ?_ HG.out HAT.out
                rw [HIL.out]
                simpa using HO.out
              · exact ((bt HB6.out hbw5).alloc (by omega) _).grown HG.out (by simp; omega) (fun j hj => (by have : g = j := (by simpa [Value.ownBlock] using hj); omega))
            case measure => simp [intOf]; omega
          · obtain rfl : k = ds.length := by omega
            have HB := Lib.hid hb
            clear hil him hl
            go_wp2
            go_ret2
            refine ⟨some ⟨g, 0, none⟩, cap, ?_, ?_, ?_, HB.out⟩
            · simp [memos_length]
            · have := HL.out.1
              rw [HIL.out] at this
              rcases this.2 with ⟨h, _⟩ | ⟨_, _, _, h, _, _, hh, _⟩
              · cases h
              · injection h with _ _ h; simp [memos_length]; omega
            · have h9 := HL.out
              rw [← HIL.out] at h9
              have := Lst.reads h9
              rw [← HIM.out, List.map_map]
              exact this
      · obtain ⟨e1, e2⟩ := prog_far (m := (s, bs)) (ds := ds) hv h0 h1
        rw [e1, e2]
        clear e1 e2 v5
        by_cases hlt : (bs.length : Int) < p
        · obtain ⟨q, rfl⟩ := Int.eq_ofNat_of_zero_le h0
          go_enter Try.func55, Try.ntmps55
          go_wp2_with fail
          refine (rValid_any _ _ _ _ _).mono ?_
          rintro e W2 ⟨rfl, hb2⟩
          have k3 := k1.next hb2
          obtain ⟨c0, c1, _, _⟩ := boxFacts k3
          have hbb := bt hb2 hB0
          clear k1 hb2 hB0 k3
          go_wp2
          go_ret2
          exact ⟨none, 0, rfl, Nat.le_refl _, RdFs.nil, hbb⟩
        · have h2 : (bs.length : Int) - p < (ds.length : Int) := by omega
          go_enter Try.func55, Try.ntmps55
          go_wp2_with fail
          refine (rValid_any _ _ _ _ _).mono ?_
          rintro e W2 ⟨rfl, hb2⟩
          have k3 := k1.next hb2
          obtain ⟨c0, c1, _, _⟩ := boxFacts k3
          have hbb := bt hb2 hB0
          clear k1 hb2 hB0 k3
          go_wp2
          go_ret2
          exact ⟨none, 0, rfl, Nat.le_refl _, RdFs.nil, hbb⟩
    · obtain ⟨e1, e2⟩ := prog_bad (m := (s, bs)) (p := p) (ds := ds) (.inr (by omega))
      rw [e1, e2]
      clear e1 e2 v5
      go_enter Try.func55, Try.ntmps55
      go_wp2_with fail
      refine (rValid_any _ _ _ _ _).mono ?_
      rintro e W2 ⟨rfl, hb2⟩
      have k3 := k1.next hb2
      obtain ⟨c0, c1, _, _⟩ := boxFacts k3
      have hbb := bt hb2 hB0
      clear k1 hb2 hB0 k3
      go_wp2
      go_ret2
      exact ⟨none, 0, rfl, Nat.le_refl _, RdFs.nil, hbb⟩
  · have hv' : validB s bs.length = false := by simpa using hv
    obtain ⟨e1, e2⟩ := prog_bad (m := (s, bs)) (p := p) (ds := ds) (.inl hv')
    rw [e1, e2]
    clear e1 e2 hv
    go_enter Try.func55, Try.ntmps55
    go_wp2_with fail
    refine (rValid_any _ _ _ _ _).mono ?_
    rintro e W2 ⟨rfl, hb2⟩
    have k3 := k1.next hb2
    obtain ⟨c0, c1, _, _⟩ := boxFacts k3
    have hbb := bt hb2 hB0
    clear k1 hb2 hB0 k3
    go_wp2
    go_ret2
    exact ⟨none, 0, rfl, Nat.le_refl _, RdFs.nil, hbb⟩
end Go.Proofs.Ytpcklbmhblmjpaa
