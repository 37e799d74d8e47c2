/- hub: Receive: what lies between two rounds of its loop. -/
import Derived.Test.YthihhmlgpokomaaWl
import Derived.Test.YthihhmlgpokomaaWk
import Derived.Test.YthihhmlgpokomaaWq
import Derived.Maps.OwnIn
set_option maxRecDepth 100000
set_option linter.unusedVariables false
set_option linter.unusedSimpArgs false
namespace Go.Proofs.Ythihhmlgpokomaa
open Go.RowKit

theorem own_out {Pv : Nat → Prop} {w w' : World} {base n sz : Nat} {e : TypeId} {v : Value} {xs : List Value} (h : w.ownsRow base e sz v n xs) (hs : SameOut Pv w w') (hn : ∀ b, v.ownBlock = some b → ¬ Pv b) : w'.ownsRow base e sz v n xs := by
  obtain ⟨h1, h2⟩ := h
  refine ⟨h1, ?_⟩
  rcases h2 with h2 | ⟨g', cap, cur, rfl, hg', hh, r⟩
  · exact .inl h2
  · exact .inr ⟨g', cap, cur, rfl, hg', (hs.block g' (Array.getElem?_eq_some_iff.1 hh).1 (hn g' rfl)).trans hh, r⟩
theorem Bt.out {Pv : Nat → Prop} {w w' : World} {g : Nat} {t : TypeId} {xs : List Value} (h : Bt w g t xs) (hs : SameOut Pv w w') (hn : ¬ Pv g) : Bt w' g t xs := by
  obtain ⟨cur, h1, h2⟩ := h
  exact ⟨cur, (hs.block g (Array.getElem?_eq_some_iff.1 h1).1 hn).trans h1, h2⟩
/-- what lies in a row that was there -/
theorem rd_own9 {w : World} {base B : Nat} {e : TypeId} {D : Option Addr} {d : Nat} {l : List Nat} (h : w.ownsRow base e 3 (.slice D l.length d) l.length (encs msE l)) (hB : B = w.heap.size) : RdM w B D l := by
  subst hB
  obtain ⟨A9, c9, e9, _, hr9⟩ := own_read h
  injection e9 with e9
  subst e9
  exact hr9
def GB (R : World) (Bo : Nat) (k : Nat) : Prop := k = Bo ∨ R.heap.size ≤ k
/-- between two rounds: what has been handed over -/
def OvI (R : World) (Bo : Nat) (Pv : Nat → Prop) (pre : List Nat) (W : World) : Prop :=
  ∃ v, Bk W Bo 46 #[v] ∧ W.ownsRow R.heap.size 50 3 v pre.length (encs msE pre) ∧ ¬ Pv Bo ∧ (∀ b, v.ownBlock = some b → ¬ Pv b) ∧ SameOut (GB R Bo) R W ∧ (∀ k, Pv k → R.heap.size ≤ k)
theorem OvI.steady (R : World) (Bo : Nat) : Steady (OvI R Bo) := by
  rintro Pv Pv' pre W W' ⟨v, kv, hown, nBo, nv, hso, hPl⟩ hs hp
  refine ⟨v, bkS kv hs nBo, own_out hown hs nv, ?_, ?_, hso.trans (hs.more fun k h => .inr (hPl k h)), ?_⟩
  · intro h
    rcases hp _ h with h | h
    · exact nBo h
    · have := kv.lt; omega
  · intro b hb h
    rcases hp _ h with h | h
    · exact nv b hb h
    · have := (own_lt hown hb).2; omega
  · intro k h
    rcases hp k h with h | h
    · exact hPl k h
    · have := hso.size; omega
/-- ahead of a round's body -/
def MidO (R : World) (Bo : Nat) (tm : Nat → Value → Array Value) (Pv : Nat → Prop) (pre : List Nat) (x : Nat) (f : Act) (W : World) : Prop :=
  OvI R Bo Pv pre W ∧ (∀ k, Pv k → k < W.heap.size) ∧ ∃ Bx, Bk W Bx 50 #[.int .i64 7, .int .i64 ((x : Int) + 1), .int .i64 (x : Int)] ∧ ¬ Pv Bx ∧ f = { tmps := tm x (.pointer (some ⟨Bx, 0, none⟩)), defers := [] }
theorem MidO.steady (R : World) (Bo : Nat) (tm : Nat → Value → Array Value) (Pv : Nat → Prop) (pre : List Nat) (x : Nat) (f : Act) (W W' : World) (h : MidO R Bo tm Pv pre x f W) (hs : SameOut Pv W W') : MidO R Bo tm Pv pre x f W' := by
  obtain ⟨h1, h2, Bx, h4, h5, h6⟩ := h
  exact ⟨OvI.steady R Bo _ _ _ _ _ h1 hs (fun k h => .inl h), fun k h => Nat.lt_of_lt_of_le (h2 k h) hs.size, Bx, bkS h4 hs h5, h5, h6⟩
/-- behind a round: one more has been handed over -/
theorem OvI.more {R W w1 : World} {Bo : Nat} {Pv : Nat → Prop} {pre : List Nat} {x : Nat} {v v' : Value} {o : Obj}
    (kv : Bk W Bo 46 #[v]) (hown : W.ownsRow R.heap.size 50 3 v pre.length (encs msE pre)) (nBo : ¬ Pv Bo) (nv : ∀ b, v.ownBlock = some b → ¬ Pv b) (hso : SameOut (GB R Bo) R W) (hPl : ∀ k, Pv k → R.heap.size ≤ k) (hPw : ∀ k, Pv k → k < W.heap.size) (hB : Bo < R.heap.size)
    (ho : w1.ownsRow R.heap.size 50 3 v' (pre.length + 1) (encs msE pre ++ msE x)) (hg : (W.alloc o).grownBy w1 v.ownBlock) (hat : v'.ownBlock = v.ownBlock ∨ v'.ownBlock = some (W.alloc o).heap.size) :
    SameIn Pv W (w1.setCell ⟨Bo, 0, none⟩ v') ∧ SameOut (GB R Bo) W (w1.setCell ⟨Bo, 0, none⟩ v') ∧ OvI R Bo Pv (pre ++ [x]) (w1.setCell ⟨Bo, 0, none⟩ v') := by
  have hrow : ∀ b, v.ownBlock = some b → R.heap.size ≤ b := fun b hb => (own_lt hown hb).1
  have kv1 : Bk w1 Bo 46 #[v] := Bk.grown (kv.alloc o) hg (fun e => by have := hrow Bo e.symm; omega)
  have s1 : SameIn Pv W w1 := (SameIn.alloc _ _ _).trans (SameIn.grown hg nv)
  have s2 : SameOut (GB R Bo) W w1 := (SameOut.alloc _ _ _).trans ⟨hg.os, hg.tape, hg.output, hg.size, fun k hk hn => hg.block k hk (fun e => hn (.inr (hrow k e.symm)))⟩
  have t1 : SameIn Pv W (w1.setCell ⟨Bo, 0, none⟩ v') := s1.trans (SameIn.setCell _ (a := ⟨Bo, 0, none⟩) nBo _)
  have t2 : SameOut (GB R Bo) W (w1.setCell ⟨Bo, 0, none⟩ v') := s2.trans (SameOut.setCell (Pv := GB R Bo) _ (a := ⟨Bo, 0, none⟩) (.inl rfl) _)
  refine ⟨t1, t2, v', by simpa using kv1.set 0 v', ?_, nBo, ?_, hso.trans t2, hPl⟩
  · rw [List.length_append, encs_snoc]
    exact own_far ho (by decide) kv1 v'
  · intro b hb hp
    rcases hat with h | h
    · exact nv b (h ▸ hb) hp
    · rw [hb] at h
      injection h with h
      have := hPw b hp
      simp at h
      omega
theorem own_bt {w : World} {g base n sz : Nat} {e t : TypeId} {v : Value} {ys xs : List Value} (h : w.ownsRow base e sz v n ys) (hB : Bt w g t xs) (hne : e ≠ t) : ∀ b, v.ownBlock = some b → b ≠ g := by
  intro b hb hbg
  obtain ⟨cur, h1, _⟩ := hB
  obtain ⟨_, h2⟩ := h
  rcases h2 with ⟨rfl, _⟩ | ⟨g', cap, cur', rfl, _, hh, _⟩
  · simp [Value.ownBlock] at hb
  · have e1 : g' = b := by simpa [Value.ownBlock] using hb
    rw [e1, hbg, h1] at hh
    injection hh with hh
    injection hh with _ hh _
    exact hne hh.symm
/-- what is handed back, where messages are handed over -/
theorem over_post {k : Nat} {s : Ib} {w R W Z : World} {Bo g Dm cap t L co d' y : Nat} {D' Df Ao : Option Addr} {Pv : Nat → Prop}
    (hng : ¬ Gt s k) (hsk : ¬ s.1 < k) (ht : ovT s = t) (hL : L = s.2.length - t) (hDf : Df = if s.2.length = t then D' else Option.map (fun x => x.add (t * 3)) D') (hy : y = s.1 + 1 + t)
    (hb : Below w.heap.size w R) (hso : SameOut (GB R Bo) R W) (hso9 : SameOut (fun j => j = g) W Z) (hB : Bt Z g 69 [.int .i64 7, .int .i64 ((y : Int) + 1), .slice Df L L]) (hBW : Bt W g 69 [.int .i64 7, .int .i64 ((s.1 : Int) + 1), .slice D' s.2.length d'])
    (hOW : R.ownsRow w.heap.size 50 3 (.slice D' s.2.length d') s.2.length (encs msE s.2)) (hDL : ∀ b, (Value.slice D' s.2.length d').ownBlock = some b → b < Bo)
    (hOV : W.ownsRow R.heap.size 50 3 (.slice Ao (t + 1) co) (t + 1) (encs msE (s.1 :: s.2.take t))) (hnv : ∀ b, (Value.slice Ao (t + 1) co).ownBlock = some b → ¬ Pv b) (hPD : Pv Dm)
    (h1 : w.heap.size ≤ g) (h2 : g < Bo) (h3 : Bo < R.heap.size) (h4 : R.heap.size ≤ Dm) (hcap : 1 ≤ cap) (hco : t + 1 ≤ co) :
    RcvPost s k w (.returned (.tuple #[.slice (some ⟨g, 0, none⟩) 1 cap, .slice Ao (t + 1) co, .int .i64 0])) (Z.putObj Dm (.deferred none)) := by
  obtain ⟨ot1, _, _⟩ := ov_spec s
  rw [ht] at ot1
  have hov : ovL s k = s.1 :: s.2.take t := by unfold ovL; rw [if_neg hsk, ht]
  have hol : (ovL s k).length = t + 1 := by rw [hov, List.length_cons, List.length_take]; omega
  have hrc : rcv s k = (s.1 + 1 + t, s.2.drop t) := by unfold rcv; rw [if_neg hng, if_neg hsk, ht]
  have hdl : (s.2.drop t).length = L := by rw [List.length_drop, hL]
  have sX : SameOut (fun j => j = Dm) Z (Z.putObj Dm (.deferred none)) := SameOut.putObj (Pv := fun j => j = Dm) Z rfl _
  have hwr := hb.size
  have b1 : Below w.heap.size w W := hb.trans ⟨hso.os, hso.tape, hso.output, hso.size, fun j hj => hso.block j (by omega) (by rintro (e | e) <;> omega)⟩
  have b2 : Below w.heap.size w Z := b1.trans ⟨hso9.os, hso9.tape, hso9.output, hso9.size, fun j hj => hso9.block j (by have := b1.size; omega) (by omega)⟩
  have b3 : Below w.heap.size w (Z.putObj Dm (.deferred none)) := b2.trans ⟨sX.os, sX.tape, sX.output, sX.size, fun j hj => sX.block j (by have := b2.size; omega) (by omega)⟩
  have o1 := own_out hOW hso (fun b hb e => by have := hDL b hb; rcases e with e | e <;> omega)
  have o2 := own_out (own_out o1 hso9 (own_bt o1 hBW (by decide))) sX (fun b hb => by have := hDL b hb; omega)
  have rD : RdM (Z.putObj Dm (.deferred none)) (Z.putObj Dm (.deferred none)).heap.size D' s.2 := rd_own9 o2 rfl
  have rD2 := RdX.drop msE_len rD ot1 (Nat.le_refl _)
  have p2 := own_out (own_out hOV hso9 (fun b hb => by have := (own_lt hOV hb).1; omega)) sX (fun b hb e => hnv b hb (e ▸ hPD))
  have kX := hB.out sX (by omega)
  refine ⟨.slice (some ⟨g, 0, none⟩) 1 cap, Ao, co, by rw [hol], .inr ⟨g, 0, cap, Df, L, rfl, hcap, ?_⟩, by rw [hol]; exact hco, ?_, b3⟩
  · rw [hrc]
    refine ⟨kX.lt, kX.cell (i := 0) rfl, ?_, ?_, ?_, ?_⟩
    · show _ = some (Value.int .i64 (((s.1 + 1 + t : Nat) : Int) + 1))
      rw [← hy]; exact kX.cell (i := 1) rfl
    · show _ = some (Value.slice Df (s.2.drop t).length L)
      rw [hdl]; exact kX.cell (i := 2) rfl
    · show (s.2.drop t).length ≤ L
      rw [hdl]; exact Nat.le_refl _
    · rw [hDf]; exact rD2
  · have hle : (s.1 :: s.2.take t).length = t + 1 := by rw [← hov]; exact hol
    rw [hov]
    rw [← hle] at p2
    exact rd_own9 p2 rfl
end Go.Proofs.Ythihhmlgpokomaa
