/- journal.records: what the closure yields. -/
import Derived.Test.YthebojaminploaaGreatDoorKJb
import Derived.Test.YthebojaminploaaGreatDoorKJR
import Derived.Test.YthebojaminploaaGreatDoorKSQ
import Derived.Shelf.Abstract
import Derived.OwnWalkIn
import Derived.TacticsInMore
import Derived.LoopNIn
import Derived.LoopIn
import Derived.RangeFuncBox
import Derived.ControlIn
import Derived.WalkMore
set_option maxRecDepth 100000
set_option linter.unusedVariables false
set_option linter.unusedSimpArgs false
namespace Go.Proofs.YthebojaminploaaGreatDoor
open Go.RowKit Go.Sort Go.Shelf
attribute [local go_sem] Oper.semAt_some

theorem bkS {Pv : Nat → Prop} {w w' : World} {g : Nat} {t : TypeId} {cs : Array Value} (h : Bk w g t cs) (hs : SameOut Pv w w') (hn : ¬ Pv g) : Bk w' g t cs := (hs.block g h.lt hn).trans h
theorem rdB_out {G : Nat → Prop} {w w' : World} {B : Nat} {A : Option Addr} {l : List UInt8} (h : RdB w B A l) (hs : SameOut G w w') (hB : B ≤ w.heap.size) (hG : ∀ k, G k → B ≤ k) : RdB w' B A l :=
  RdS.keep h fun p hp => World.cell?_of_block (hs.block p.block (by omega) (fun e => by have := hG _ e; omega))
theorem box4 {w : World} {k : Nat} {t : TypeId} {a b c d : Value} (h : Bk w k t #[a, b, c, d]) : w.cell? ⟨k, 0, none⟩ = some a ∧ w.cell? ⟨k, 1, none⟩ = some b ∧ w.cell? ⟨k, 2, none⟩ = some c ∧ w.cell? ⟨k, 3, none⟩ = some d := ⟨h.cell 0, h.cell 1, h.cell 2, h.cell 3⟩
theorem cell_of {w : World} {B b o : Nat} {X : List UInt8} (h : RdB w B (some ⟨b, o, none⟩) X) {i : Nat} (hl : i < X.length) : w.cell? ⟨b, o + i, none⟩ = some (.int .u8 ((X.getD i 0).toNat : Int)) := by
  obtain ⟨b', o', e, _, hc⟩ := h.at_ hl
  obtain ⟨rfl, rfl⟩ : b = b' ∧ o = o' := by simpa using e
  simpa [hl] using hc
theorem SameOut.tail {G : Nat → Prop} {g : Nat} {a V X : World} (h : SameOut G a V) (hs : SameOut (fun k => k = g) V X) (hg : a.heap.size ≤ g) : SameOut G a X :=
  ⟨hs.os.trans h.os, hs.tape.trans h.tape, hs.output.trans h.output, Nat.le_trans h.size hs.size, fun k hk hn => (hs.block k (Nat.lt_of_lt_of_le hk h.size) (by omega)).trans (h.block k hk hn)⟩
theorem rd_after {w : World} {B pb po p to sz n : Nat} {b : List UInt8} (h : RdB w B (some ⟨pb, po, none⟩) b) (ht : to = p + 7 + n) (hs : sz = to - (p + 7)) (hl : to ≤ b.length) :
    RdB w B (if to = p + 7 then some ⟨pb, po, none⟩ else some ⟨pb, po + (p + 7), none⟩) (((b.drop p).drop 7).take sz) := by
  rw [List.drop_drop]
  by_cases e : to = p + 7
  · have : sz = 0 := by omega
    subst this
    rw [List.take_zero]
    exact RdS.nil
  · rw [if_neg e]
    exact RdB.part h (p + 7) sz (by omega) (by omega)
theorem getD_drop_take (b : List UInt8) (i n j : Nat) (hj : j < n) : ((b.drop i).take n).getD j 0 = b.getD (i + j) 0 := by
  rw [List.getD_eq_getElem?_getD, List.getElem?_take, if_pos hj, List.getElem?_drop, ← List.getD_eq_getElem?_getD]
theorem two_of {b : List UInt8} {i : Nat} (h : i + 2 ≤ b.length) : (b.drop i).take 2 = [b.getD i 0, b.getD (i + 1) 0] := by
  apply List.ext_getElem
  · simp; omega
  · intro j h1 h2
    have hj : j < 2 := by simpa using h2
    have e := getD_drop_take b i 2 j hj
    rw [List.getD_eq_getElem?_getD, List.getElem?_eq_getElem h1] at e
    simp only [Option.getD_some] at e
    rw [e]
    match j, hj with
    | 0, _ => rfl
    | 1, _ => rfl
theorem fourOf {b : List UInt8} {i : Nat} (h : i + 4 ≤ b.length) : (b.drop i).take 4 = [b.getD i 0, b.getD (i + 1) 0, b.getD (i + 2) 0, b.getD (i + 3) 0] := by
  apply List.ext_getElem
  · simp; omega
  · intro j h1 h2
    have hj : j < 4 := by simpa using h2
    have e := getD_drop_take b i 4 j hj
    rw [List.getD_eq_getElem?_getD, List.getElem?_eq_getElem h1] at e
    simp only [Option.getD_some] at e
    rw [e]
    match j, hj with
    | 0, _ => rfl
    | 1, _ => rfl
    | 2, _ => rfl
    | 3, _ => rfl
def cellOr (w : World) (a : Addr) : Value := (w.cell? a).getD (.bool false)
theorem cellOr_of {w : World} {a : Addr} {v : Value} (h : w.cell? a = some v) : w.cell? a = some (cellOr w a) := by rw [cellOr, h]; rfl
def OkAt (b : List UInt8) (B : Nat) (_ : Nat → Prop) (x : At) (W : World) : Prop := RdB W B x.A x.d ∧ x.d.length ≤ x.c ∧ x.to ≤ b.length ∧ x.d.length ≤ b.length ∧ (x.good = false → scanA b = none)

set_option maxHeartbeats 1500000 in
theorem records_seq (b : List UInt8) (pb po cp Bl B : Nat) (w0 : World) (G : Nat → Prop) (hl : Bk w0 Bl 22 #[.slice (some ⟨pb, po, none⟩) b.length cp]) (hcp : b.length ≤ cp) (hA : RdB w0 B (some ⟨pb, po, none⟩) b) (hB : B ≤ w0.heap.size) (hGl : ¬ G Bl) (hGA : ∀ k, G k → B ≤ k) (hn : 16 ≤ b.length) (hn' : b.length ≤ 1000000) :
    SeqG Tryz.prog 81 #[.pointer (some ⟨Bl, 0, none⟩)] encAt (OkAt b B) (fun xs => scanA b = some (xs.map (·.d), endOf xs 5) ∨ ∃ x ∈ xs, x.good = false) (fun _ => True) (b.length + 1) G w0 := by
  intro lp m J Jx W hW hJ hJx hY h0
  have HA := Lib.hid hA
  have HL := Lib.hid hl
  have b0 := box1 (bkS hl hW hGl)
  have HJ := Lib.hid hJ
  have HY := Lib.hid hY
  have H0 := Lib.hid h0
  clear hA hl hJ hY h0
  refine callsIn_of_wp Tryz.func81 rfl trivial ?_ rfl
  simp only [Tryz.ntmps81, List.size_toArray, List.length_cons, List.length_nil, Nat.reduceAdd, Nat.reduceSub, Array.replicate_succ, Array.replicate_zero, List.push_toArray, List.append_toArray, List.nil_append, List.cons_append]
  gi_wp2
  gi_loopw [3] (fun i wr => ∃ (p k : Nat) (pre : List At), i = .int .i64 (p : Int) ∧ p ≤ b.length ∧ pre.length + 5 ≤ p ∧ Along b pre k p ∧ J (fun _ => False) pre wr ∧ SameOut G w0 wr) (fun i _ => b.length - (intOf i).toNat)
  case atStart => exact ⟨5, b.length, [], rfl, by omega, by simp, along_start b, H0.out _ (fun _ h => h.elim), hW⟩
  case round =>
    obtain ⟨p, k, pre, rfl, hp, hpl, hal, hj, hb⟩ := hrel
    have HJR := Lib.hid hj
    have HB := Lib.hid hb
    have HAL := Lib.hid hal
    clear hj hb hal b0
    have tb := box1 (bkS HL.out HB.out hGl)
    by_cases hlt : p < b.length
    · obtain ⟨b', o', e, hbb, z0⟩ := (rdB_out HA.out HB.out hB hGA).at_ hlt
      obtain ⟨rfl, rfl⟩ : pb = b' ∧ po = o' := by simpa using e
      clear e
      have k1 : (0 : Int) ≤ (p : Int) := by omega
      have k2 : (p : Int) < (b.length : Int) := by omega
      by_cases h80 : b.getD p 0 = 80
      · by_cases h7 : p + 7 ≤ b.length
        · have e80 : ((b[p].toNat : Int) == 80) = true := byte80 (by rw [← getD_eq hlt]; exact h80)
          have tb2 := box1 ((bkS HL.out HB.out hGl).alloc (.cells #[.int .i64 (p : Int), .int .i64 (b.length : Int), .slice none 0 0, .bool false] 93))
          have h7' : (p : Int) + 7 ≤ (b.length : Int) := by omega
          have q1 : (p : Int) + 1 ≤ (p : Int) + 3 := by omega
          have q2 : (p : Int) + 3 ≤ (b.length : Int) := by omega
          have q3 : (0 : Int) ≤ (p : Int) + 1 := by omega
          have q4 : (b.length : Int) ≤ (cp : Int) := by omega
          gi_wp2
          obtain ⟨U, hU⟩ : ∃ Zz, Zz = wr.alloc (.cells #[.int .i64 (p : Int), .int .i64 (b.length : Int), .slice none 0 0, .bool false] 93) := ⟨_, rfl⟩
          have hbU : Below wr.heap.size wr U := by rw [hU]; exact al1 _ _
          have kU : Bk U wr.heap.size 93 #[.int .i64 (p : Int), .int .i64 (b.length : Int), .slice none 0 0, .bool false] := by rw [hU]; exact Bk.new _ _ _
          rw [← hU]
          clear hU
          rw [show p + 3 - (p + 1) = 2 by omega]
          have FU := Lib.hid ((rdB_out HA.out HB.out hB hGA).below (hbU.mono (by have := HB.out.size; omega)))
          have z1 := cell_of FU.out (i := p + 1) (by omega)
          have z2 := cell_of FU.out (i := p + 1 + 1) (by omega)
          rw [← Nat.add_assoc po (p + 1) 1] at z2
          obtain ⟨s1, hs1⟩ : ∃ x, x = b.getD (p + 1) 0 := ⟨_, rfl⟩
          obtain ⟨s2, hs2⟩ : ∃ x, x = b.getD (p + 1 + 1) 0 := ⟨_, rfl⟩
          have hsz : sizeAt b p = s1.toNat * 256 + s2.toNat := by rw [hs1, hs2]; rfl
          rw [← hs1] at z1
          rw [← hs2] at z2
          have HS1 := Lib.hid hs1
          have HS2 := Lib.hid hs2
          have HSZ := Lib.hid hsz
          clear hs1 hs2
          have g1 := s1.toNat_lt
          have g2 := s2.toNat_lt
          have tb3 := box1 ((bkS HL.out HB.out hGl).next hbU)
          have HJU := Lib.hid (HJ.out (fun _ => False) (fun k => k = wr.heap.size) pre wr U HJR.out (SameOut.of_below hbU) (fun k h => .inr (by omega)))
          have HWU := Lib.hid (HB.out.trans (SameOut.of_below (Pv := G) hbU))
          have KR := Lib.hid kU
          clear z0 tb tb2 hbU kU
          refine wpIn_wide.2 ?_
          go_quiet (fail)
          obtain ⟨V, hV⟩ : ∃ Zz, Zz = U.drewN nq := ⟨_, rfl⟩
          have hbV : Below U.heap.size U V := by rw [hV]; exact belowDrew (Below.refl _ U) _
          rw [← hV]
          clear hV
          replace HJU := Lib.hid (HJ.out (fun k => k = wr.heap.size) (fun k => k = wr.heap.size) pre U V HJU.out (SameOut.of_below hbV) (fun k h => .inl h))
          replace HWU := Lib.hid (HWU.out.trans (SameOut.of_below (Pv := G) hbV))
          replace FU := Lib.hid (FU.out.below (hbV.mono (by have := KR.out.lt; have := HB.out.size; have := hbV.size; omega)))
          replace KR := Lib.hid (KR.out.next hbV)
          replace tb3 := box1 ((bkS HL.out HWU.out hGl))
          clear z1 z2 hbV
          obtain ⟨r0, r1, r2, r3⟩ := box4 KR.out
          by_cases hfit : p + 7 + (s1.toNat * 256 + s2.toNat) ≤ b.length
          · have hl' : (p : Int) + 7 + (s1.toNat : Int) * 256 + (s2.toNat : Int) ≤ (b.length : Int) := by omega
            gi_wp2
            obtain ⟨to, hto⟩ : ∃ to : Nat, to = p + 7 + (s1.toNat * 256 + s2.toNat) := ⟨_, rfl⟩
            have htI : (p : Int) + 7 + (s1.toNat : Int) * 256 + (s2.toNat : Int) = (to : Int) := by omega
            rw [htI]
            have t1 : (p : Int) + 7 ≤ (to : Int) := by omega
            have t2 : (to : Int) ≤ (b.length : Int) := by omega
            have t3 : (to : Int) ≤ (cp : Int) := by omega
            have f1 := KR.out.frozen 1
            have f2 := KR.out.frozen 2
            have f3 := KR.out.frozen 3
            have HTO := Lib.hid hto
            have HTI := Lib.hid htI
            clear hl' htI hto g1 g2 hfit hsz
            refine wpIn_wide.2 ?_
            go_region
            obtain ⟨sz, hszd⟩ : ∃ sz : Nat, sz = to - (p + 7) := ⟨_, rfl⟩
            rw [← hszd]
            have R0 : RdB V B (if to = p + 7 then some ⟨pb, po, none⟩ else some ⟨pb, po + (p + 7), none⟩) (((b.drop p).drop 7).take sz) := rd_after FU.out HTO.out hszd (by omega)
            obtain ⟨AA, hAA⟩ : ∃ a : Option Addr, a = (if to = p + 7 then some ⟨pb, po, none⟩ else some ⟨pb, po + (p + 7), none⟩) := ⟨_, rfl⟩
            rw [← hAA] at R0 ⊢
            have LD : Hid ((((b.drop p).drop 7).take sz).length = sz) := by show _ = _; rw [List.length_take, List.length_drop, List.length_drop]; omega
            have hS : sizeAt b p = sz := by rw [HSZ.out]; have := HTO.out; omega
            have HS := Lib.hid hS
            have HD0 := Lib.hid hszd
            clear hAA hS hszd
            obtain ⟨X, hX⟩ : ∃ X, X = ((V.setCell ⟨wr.heap.size, 1, none⟩ (.int .i64 (to : Int))).setCell ⟨wr.heap.size, 2, none⟩ (.slice AA sz sz)).drew := ⟨_, rfl⟩
            have sX : SameOut (fun k => k = wr.heap.size) V X := by rw [hX]; exact ((SameOut.setCell (Pv := fun k => k = wr.heap.size) V (a := ⟨wr.heap.size, 1, none⟩) rfl _).trans (SameOut.setCell (Pv := fun k => k = wr.heap.size) _ (a := ⟨wr.heap.size, 2, none⟩) rfl _)).trans (SameOut.drew _ _)
            have kx : Bk X wr.heap.size 93 #[.int .i64 (p : Int), .int .i64 (to : Int), .slice AA sz sz, .bool false] := by rw [hX]; simpa using ((KR.out.set 1 (.int .i64 (to : Int))).set 2 (.slice AA sz sz)).drew
            rw [← hX]
            have KX := Lib.hid kx
            clear kx
            replace HJU := Lib.hid (HJ.out (fun k => k = wr.heap.size) (fun k => k = wr.heap.size) pre V X HJU.out sX (fun k h => .inl h))
            replace HWU := Lib.hid (HWU.out.tail sX HB.out.size)
            have hBw : B ≤ wr.heap.size := by have := HB.out.size; omega
            have hBV : B ≤ V.heap.size := by have := KR.out.lt; omega
            have FX := Lib.hid (rdB_out FU.out sX hBV (fun k h => by omega))
            have RX := Lib.hid (rdB_out R0 sX hBV (fun k h => by omega))
            clear hX sX R0 FU KR r0 r1 r2 r3 f1 f2 f3
            obtain ⟨r0, r1, r2, r3⟩ := box4 KX.out
            have f3 := KX.out.frozen 3
            replace tb3 := box1 ((bkS HL.out HWU.out hGl))
            gi_wp2
            obtain ⟨fF, hF⟩ : ∃ x, x = fnvN ([s1, s2] ++ ((b.drop p).drop 7).take sz) := ⟨_, rfl⟩
            obtain ⟨nN, hN⟩ : ∃ x, x = num4 (b.getD (p + 3) 0) (b.getD (p + 4) 0) (b.getD (p + 5) 0) (b.getD (p + 6) 0) := ⟨_, rfl⟩
            have hck : ∀ W, Below X.heap.size X W → Bk W X.heap.size 22 #[.slice (some ⟨pb, po + (p + 1), none⟩) 2 (cp - (p + 1)), .slice AA sz sz] → Calls Tryz.prog 68 #[.slice (some ⟨X.heap.size, 0, none⟩) 2 2] W (fun e w' => e = .returned (.int .u32 ((fF : Nat) : Int)) ∧ W = w') := fun W hW hK => by
              have h1 : RdB W W.heap.size (some ⟨pb, po + (p + 1), none⟩) [s1, s2] := by
                have := (RdB.part FX.out (p + 1) 2 (by omega) (by omega))
                rw [two_of (by omega), ← HS1.out, ← HS2.out] at this
                exact (this.below (hW.mono (by have := KX.out.lt; omega))).more (by have := KX.out.lt; have := hW.size; omega)
              have h2 : RdB W W.heap.size AA (((b.drop p).drop 7).take sz) := (RX.out.below (hW.mono (by have := KX.out.lt; omega))).more (by have := KX.out.lt; have := hW.size; omega)
              have hK' : Bk W X.heap.size 22 #[.slice (some ⟨pb, po + (p + 1), none⟩) ([s1, s2] : Rec).length (cp - (p + 1)), .slice AA (((b.drop p).drop 7).take sz).length sz] := by rw [LD.out]; exact hK
              exact (checksum_any [[s1, s2], ((b.drop p).drop 7).take sz] _ 2 W (rdBs_two hK' hK.lt h1 h2 (by simp; omega) (by rw [LD.out]; exact Nat.le_refl _)) (by simp) (by simp; omega)).mono fun e w' h => ⟨by rw [h.1, hF]; simp [fnvN], h.2⟩
            have hnm : ∀ W, Below X.heap.size X W → Calls Tryz.prog 66 #[.slice (some ⟨pb, po + (p + 3), none⟩) (p + 7 - (p + 3)) (cp - (p + 3))] W (fun e w' => e = .returned (.int .u32 ((nN : Nat) : Int)) ∧ ∃ k, w' = W.drewN k) := fun W hW => by
              have h1 := RdB.part FX.out (p + 3) 4 (by omega) (by omega)
              rw [fourOf (by omega)] at h1
              rw [show p + 7 - (p + 3) = 4 by omega, hN]
              exact number_any _ _ _ _ _ _ W ((h1.below (hW.mono (by have := KX.out.lt; omega))).more (by have := KX.out.lt; have := hW.size; omega))
            have HCK := Lib.hid hck
            have HNM := Lib.hid hnm
            have HSUM : Hid (sumOk b p ↔ fF = nN) := by show _ ↔ _; unfold sumOk; rw [HS.out, ← HS1.out, ← HS2.out, hF, hN]
            clear hck hnm hF hN
            have u1 : (p : Int) + 3 ≤ (p : Int) + 7 := by omega
            have u2 : (0 : Int) ≤ (p : Int) + 3 := by omega
            have u3 : (p : Int) + 7 ≤ (cp : Int) := by omega
            have u4 : (p : Int) + 3 ≤ (cp : Int) := by omega
            have u5 : (p : Int) + 3 ≤ (b.length : Int) := by omega
            have u6 : ¬ cp = p + 3 := by omega
            have u7 : p + 7 ≤ cp := by omega
            have u8 : ¬ cp - (p + 3) = 0 := by omega
            have v1 : IntKind.i64.wrap ((p : Int) + 3) = (p : Int) + 3 := by simp [IntKind.wrap, IntKind.bits, IntKind.signed]; omega
            have HSS : Hid (∀ W, Below X.heap.size X W → W.cell? ⟨wr.heap.size, 2, none⟩ = some (.slice AA sz sz) ∧ W.cell? ⟨wr.heap.size, 3, none⟩ = some (cellOr W ⟨wr.heap.size, 3, none⟩) ∧ W.frozen? ⟨wr.heap.size, 3, none⟩ = false ∧ W.cell? ⟨Bl, 0, none⟩ = some (.slice (some ⟨pb, po, none⟩) b.length cp)) := fun W hW => ⟨(box4 (KX.out.next hW)).2.2.1, cellOr_of (box4 (KX.out.next hW)).2.2.2, (KX.out.next hW).frozen 3, box1 ((bkS HL.out HWU.out hGl).next hW)⟩
            have hBl := (bkS HL.out HWU.out hGl).ne KX.out (by decide)
            have HST : Hid (∀ W v, Below X.heap.size X W → ((W.setCell ⟨wr.heap.size, 3, none⟩ v).cell? ⟨wr.heap.size, 2, none⟩ = some (.slice AA sz sz) ∧ (W.setCell ⟨wr.heap.size, 3, none⟩ v).cell? ⟨wr.heap.size, 3, none⟩ = some (cellOr (W.setCell ⟨wr.heap.size, 3, none⟩ v) ⟨wr.heap.size, 3, none⟩) ∧ (W.setCell ⟨wr.heap.size, 3, none⟩ v).frozen? ⟨wr.heap.size, 3, none⟩ = false ∧ (W.setCell ⟨wr.heap.size, 3, none⟩ v).cell? ⟨Bl, 0, none⟩ = some (.slice (some ⟨pb, po, none⟩) b.length cp))) := fun W v hW => by
              have k := (KX.out.next hW).set 3 v
              simp at k
              exact ⟨(box4 k).2.2.1, cellOr_of (box4 k).2.2.2, k.frozen 3, box1 (((bkS HL.out HWU.out hGl).next hW).far (p := ⟨wr.heap.size, 3, none⟩) hBl _)⟩
            refine wpIn_wide.2 ?_
            go_region_held3 (fun w' => w'.cell? ⟨wr.heap.size, 2, none⟩ = some (.slice AA sz sz) ∧ w'.cell? ⟨wr.heap.size, 3, none⟩ = some (cellOr w' ⟨wr.heap.size, 3, none⟩) ∧ w'.frozen? ⟨wr.heap.size, 3, none⟩ = false ∧ w'.cell? ⟨Bl, 0, none⟩ = some (.slice (some ⟨pb, po, none⟩) b.length cp))
              (first | exact HST.out _ _ (by repeat (first | exact Below.refl _ _ | refine belowDrew ?_ _ | refine Below.drew ?_ | refine Below.alloc ?_ (by simp) _)) | exact HSS.out _ (by repeat (first | exact Below.refl _ _ | refine belowDrew ?_ _ | refine Below.drew ?_ | refine Below.alloc ?_ (by simp) _)))
              (first | (go_at_call 68; refine (HCK.out _ (by repeat (first | exact Below.refl _ _ | refine belowDrew ?_ _ | refine Below.drew ?_ | refine Below.alloc ?_ (by simp) _)) (bkOf (by simp [at?_alloc, at?_drew, at?_drewN]))).mono ?_; rintro e _ ⟨rfl, rfl⟩) | (go_at_call 66; refine (HNM.out _ (by repeat (first | exact Below.refl _ _ | refine belowDrew ?_ _ | refine Below.drew ?_ | refine Below.alloc ?_ (by simp) _))).mono ?_; rintro e _ ⟨rfl, kq, rfl⟩))
            by_cases hg : fF = nN
            · have hgd : ((fF : Int) == (nN : Int)) = true := by simp [hg]
              rw [hgd]
              obtain ⟨Z, hZ⟩ : ∃ Z, Z = (((X.alloc (.cells #[.slice (some ⟨pb, po + (p + 1), none⟩) 2 (cp - (p + 1)), .slice AA sz sz] 22)).drewN (1 + kq)).setCell ⟨wr.heap.size, 3, none⟩ (.bool true)) := ⟨_, rfl⟩
              have sZ : SameOut (fun k => k = wr.heap.size) X Z := by rw [hZ]; exact ((SameOut.alloc _ _ _).trans (SameOut.drewN _ _ _)).trans (SameOut.setCell (Pv := fun k => k = wr.heap.size) _ (a := ⟨wr.heap.size, 3, none⟩) rfl _)
              have kz : Bk Z wr.heap.size 93 #[.int .i64 (p : Int), .int .i64 (to : Int), .slice AA sz sz, .bool true] := by rw [hZ]; simpa using ((KX.out.alloc _).drewN _).set 3 (.bool true)
              rw [← hZ]
              replace HJU := Lib.hid (HJ.out (fun k => k = wr.heap.size) (fun k => k = wr.heap.size) pre X Z HJU.out sZ (fun k h => .inl h))
              replace HWU := Lib.hid (HWU.out.tail sZ HB.out.size)
              replace RX := Lib.hid (rdB_out RX.out sZ (by have := KX.out.lt; omega) (fun k h => by omega))
              have KR := Lib.hid kz
              clear hZ sZ kz KX FX HSS HST HCK HNM r0 r1 r2 r3 f3 tb3 hgd
              obtain ⟨r0, r1, r2, r3⟩ := box4 KR.out
              have lr0 := KR.out.lt
              have HK : Hid (∃ k', Along b (pre ++ [(⟨p, to, AA, sz, ((b.drop p).drop 7).take sz, true⟩ : At)]) k' to) := by
                have e : to = p + 7 + sz := by have := HTO.out; have := HD0.out; omega
                have := along_good HAL.out hlt h80 (step_sum h7 (by rw [HS.out]; omega) (HSUM.out.2 hg)) (⟨p, to, AA, sz, ((b.drop p).drop 7).take sz, true⟩ : At) rfl (by rw [HS.out]; exact e) (by rw [HS.out])
                rw [HS.out, ← e] at this
                exact this
              clear hg
              obtain ⟨fn, tmps, assign, body, hy, hR⟩ := HY.out (fun k => k = wr.heap.size) pre (⟨p, to, AA, sz, ((b.drop p).drop 7).take sz, true⟩ : At) (Z) HJU.out (⟨RX.out, by rw [LD.out]; exact Nat.le_refl _, Int.ofNat_le.1 t2, by rw [LD.out]; have := HD0.out; omega, fun h => by cases h⟩) (by rintro k rfl; exact KR.out.lt) (by omega)
              dsimp only [encAt, List.length_nil] at hy
              rw [LD.out] at hy
              gi_wp2
              refine ⟨(fun h => by cases h), hR.mono ?_⟩
              rintro e W7 (⟨rfl, hJ7, hs7, hb7⟩ | ⟨rfl, hJx7⟩)
              · have K7 : Bk W7 wr.heap.size 93 #[.int .i64 (p : Int), .int .i64 ((to : Nat) : Int), .slice (AA) sz (sz), .bool true] := (hs7.block _ KR.out.lt rfl).trans KR.out
                obtain ⟨r0, r1, r2, r3⟩ := box4 K7
                have lr := K7.lt
                have HJ7 := Lib.hid hJ7
                have HS7 := Lib.hid (HWU.out.trans hb7)
                clear hR hy hJ7 hs7 hb7 K7
                gi_wp2
                go_roundw
                case rel => exact (by obtain ⟨k', hk'⟩ := HK.out; exact ⟨to, k', pre ++ [(⟨p, to, AA, sz, ((b.drop p).drop 7).take sz, true⟩ : At)], rfl, by omega, by rw [List.length_append]; simp; omega, hk', HJ.out _ _ _ _ _ HJ7.out (SameOut.refl _ _) (fun k h => h.elim), HS7.out⟩)
                case measure => simp [intOf]; omega
              · clear hR hy
                gi_wp2
                (try simp only [Exit.noGoto_normal, Exit.noGoto_ret, Exit.noGoto_exit, Exit.inBlock, Exit.then])
                refine bodyPost_ret (results_none rfl _ _ _) rfl ?_
                exact ⟨⟨_, rfl⟩, .inr ⟨_, _, trivial, hJx7⟩⟩
            · have hgd : ((fF : Int) == (nN : Int)) = false := by rw [beq_eq_false_iff_ne]; omega
              rw [hgd]
              obtain ⟨Z, hZ⟩ : ∃ Z, Z = (((X.alloc (.cells #[.slice (some ⟨pb, po + (p + 1), none⟩) 2 (cp - (p + 1)), .slice AA sz sz] 22)).drewN (1 + kq)).setCell ⟨wr.heap.size, 3, none⟩ (.bool false)) := ⟨_, rfl⟩
              have sZ : SameOut (fun k => k = wr.heap.size) X Z := by rw [hZ]; exact ((SameOut.alloc _ _ _).trans (SameOut.drewN _ _ _)).trans (SameOut.setCell (Pv := fun k => k = wr.heap.size) _ (a := ⟨wr.heap.size, 3, none⟩) rfl _)
              have kz : Bk Z wr.heap.size 93 #[.int .i64 (p : Int), .int .i64 (to : Int), .slice AA sz sz, .bool false] := by rw [hZ]; simpa using ((KX.out.alloc _).drewN _).set 3 (.bool false)
              rw [← hZ]
              replace HJU := Lib.hid (HJ.out (fun k => k = wr.heap.size) (fun k => k = wr.heap.size) pre X Z HJU.out sZ (fun k h => .inl h))
              replace HWU := Lib.hid (HWU.out.tail sZ HB.out.size)
              replace RX := Lib.hid (rdB_out RX.out sZ (by have := KX.out.lt; omega) (fun k h => by omega))
              have KR := Lib.hid kz
              clear hZ sZ kz KX FX HSS HST HCK HNM r0 r1 r2 r3 f3 tb3 hgd
              obtain ⟨r0, r1, r2, r3⟩ := box4 KR.out
              have lr0 := KR.out.lt
              have HBAD := Lib.hid (along_bad HAL.out hlt h80 (step_nosum h7 (by rw [HS.out]; have := HTO.out; have := HD0.out; omega) (fun h => hg (HSUM.out.1 h))))
              clear hg
              obtain ⟨fn, tmps, assign, body, hy, hR⟩ := HY.out (fun k => k = wr.heap.size) pre (⟨p, to, AA, sz, ((b.drop p).drop 7).take sz, false⟩ : At) (Z) HJU.out (⟨RX.out, by rw [LD.out]; exact Nat.le_refl _, Int.ofNat_le.1 t2, by rw [LD.out]; have := HD0.out; omega, fun _ => HBAD.out⟩) (by rintro k rfl; exact KR.out.lt) (by omega)
              dsimp only [encAt, List.length_nil] at hy
              rw [LD.out] at hy
              gi_wp2
              refine ⟨(fun h => by cases h), hR.mono ?_⟩
              rintro e W7 (⟨rfl, hJ7, hs7, hb7⟩ | ⟨rfl, hJx7⟩)
              · have K7 : Bk W7 wr.heap.size 93 #[.int .i64 (p : Int), .int .i64 ((to : Nat) : Int), .slice (AA) sz (sz), .bool false] := (hs7.block _ KR.out.lt rfl).trans KR.out
                obtain ⟨r0, r1, r2, r3⟩ := box4 K7
                have lr := K7.lt
                have HJ7 := Lib.hid hJ7
                have HS7 := Lib.hid (HWU.out.trans hb7)
                clear hR hy hJ7 hs7 hb7 K7
                gi_wp2
                (try simp only [Exit.noGoto_normal, Exit.noGoto_ret, Exit.noGoto_exit, Exit.inBlock, Exit.then])
                refine bodyPost_ret (results_none rfl _ _ _) rfl ?_
                exact ⟨⟨_, rfl⟩, .inl ⟨_, _, .inr ⟨(⟨p, to, AA, sz, ((b.drop p).drop 7).take sz, false⟩ : At), by simp, rfl⟩, HJ7.out⟩⟩
              · clear hR hy
                gi_wp2
                (try simp only [Exit.noGoto_normal, Exit.noGoto_ret, Exit.noGoto_exit, Exit.inBlock, Exit.then])
                refine bodyPost_ret (results_none rfl _ _ _) rfl ?_
                exact ⟨⟨_, rfl⟩, .inr ⟨_, _, trivial, hJx7⟩⟩
          · have hl' : ¬ ((p : Int) + 7 + (s1.toNat : Int) * 256 + (s2.toNat : Int) ≤ (b.length : Int)) := by omega
            obtain ⟨fn, tmps, assign, body, hy, hR⟩ := HY.out (fun k => k = wr.heap.size) pre (⟨p, b.length, none, 0, [], false⟩ : At) (V) HJU.out (⟨RdS.nil, Nat.le_refl _, Nat.le_refl _, Nat.zero_le _, fun _ => along_bad HAL.out hlt h80 (step_long h7 (by rw [HSZ.out]; exact hfit))⟩) (by rintro k rfl; exact KR.out.lt) (by omega)
            dsimp only [encAt, List.length_nil] at hy
            gi_wp2
            refine ⟨(fun h => by cases h), hR.mono ?_⟩
            rintro e W7 (⟨rfl, hJ7, hs7, hb7⟩ | ⟨rfl, hJx7⟩)
            · have K7 : Bk W7 wr.heap.size 93 #[.int .i64 (p : Int), .int .i64 ((b.length : Nat) : Int), .slice (none) ([] : Rec).length (0), .bool false] := (hs7.block _ KR.out.lt rfl).trans KR.out
              obtain ⟨r0, r1, r2, r3⟩ := box4 K7
              have lr := K7.lt
              have HJ7 := Lib.hid hJ7
              have HS7 := Lib.hid (HWU.out.trans hb7)
              clear hR hy hJ7 hs7 hb7 K7
              gi_wp2
              (try simp only [Exit.noGoto_normal, Exit.noGoto_ret, Exit.noGoto_exit, Exit.inBlock, Exit.then])
              refine bodyPost_ret (results_none rfl _ _ _) rfl ?_
              exact ⟨⟨_, rfl⟩, .inl ⟨_, _, .inr ⟨(⟨p, b.length, none, 0, [], false⟩ : At), by simp, rfl⟩, HJ7.out⟩⟩
            · clear hR hy
              gi_wp2
              (try simp only [Exit.noGoto_normal, Exit.noGoto_ret, Exit.noGoto_exit, Exit.inBlock, Exit.then])
              refine bodyPost_ret (results_none rfl _ _ _) rfl ?_
              exact ⟨⟨_, rfl⟩, .inr ⟨_, _, trivial, hJx7⟩⟩
        · have tb2 := box1 ((bkS HL.out HB.out hGl).alloc (.cells #[.int .i64 (p : Int), .int .i64 (b.length : Int), .slice none 0 0, .bool false] 93))
          have e80 : ((b[p].toNat : Int) == 80) = true := byte80 (by rw [← getD_eq hlt]; exact h80)
          have HJU := Lib.hid (HJ.out (fun _ => False) (fun k => k = wr.heap.size) pre wr (wr.alloc (.cells #[.int .i64 (p : Int), .int .i64 (b.length : Int), .slice none 0 0, .bool false] 93)) HJR.out (SameOut.alloc _ _ _) (fun k h => .inr (by omega)))
          have KR := Lib.hid (Bk.new wr 93 #[.int .i64 (p : Int), .int .i64 (b.length : Int), .slice none 0 0, .bool false])
          have HWU := Lib.hid (HB.out.trans (SameOut.alloc G wr (.cells #[.int .i64 (p : Int), .int .i64 (b.length : Int), .slice none 0 0, .bool false] 93)))
          have h7' : ¬ ((p : Int) + 7 ≤ (b.length : Int)) := by omega
          obtain ⟨fn, tmps, assign, body, hy, hR⟩ := HY.out (fun k => k = wr.heap.size) pre (⟨p, b.length, none, 0, [], false⟩ : At) (wr.alloc (.cells #[.int .i64 (p : Int), .int .i64 (b.length : Int), .slice none 0 0, .bool false] 93)) HJU.out (⟨RdS.nil, Nat.le_refl _, Nat.le_refl _, Nat.zero_le _, fun _ => along_bad HAL.out hlt h80 (step_short h7)⟩) (by rintro k rfl; exact KR.out.lt) (by omega)
          dsimp only [encAt, List.length_nil] at hy
          gi_wp2
          refine ⟨(fun h => by cases h), hR.mono ?_⟩
          rintro e W7 (⟨rfl, hJ7, hs7, hb7⟩ | ⟨rfl, hJx7⟩)
          · have K7 : Bk W7 wr.heap.size 93 #[.int .i64 (p : Int), .int .i64 ((b.length : Nat) : Int), .slice (none) ([] : Rec).length (0), .bool false] := (hs7.block _ KR.out.lt rfl).trans KR.out
            obtain ⟨r0, r1, r2, r3⟩ := box4 K7
            have lr := K7.lt
            have HJ7 := Lib.hid hJ7
            have HS7 := Lib.hid (HWU.out.trans hb7)
            clear hR hy hJ7 hs7 hb7 K7
            gi_wp2
            (try simp only [Exit.noGoto_normal, Exit.noGoto_ret, Exit.noGoto_exit, Exit.inBlock, Exit.then])
            refine bodyPost_ret (results_none rfl _ _ _) rfl ?_
            exact ⟨⟨_, rfl⟩, .inl ⟨_, _, .inr ⟨(⟨p, b.length, none, 0, [], false⟩ : At), by simp, rfl⟩, HJ7.out⟩⟩
          · clear hR hy
            gi_wp2
            (try simp only [Exit.noGoto_normal, Exit.noGoto_ret, Exit.noGoto_exit, Exit.inBlock, Exit.then])
            refine bodyPost_ret (results_none rfl _ _ _) rfl ?_
            exact ⟨⟨_, rfl⟩, .inr ⟨_, _, trivial, hJx7⟩⟩
      · have e80 : ((b[p].toNat : Int) == 80) = false := byte80' (by rw [← getD_eq hlt]; exact h80)
        gi_wp2
        (try simp only [Exit.noGoto_normal, Exit.noGoto_ret, Exit.noGoto_exit, Exit.inBlock, Exit.then])
        go_end0
        exact ⟨⟨_, rfl⟩, .inl ⟨fun _ => False, pre, .inl (along_end HAL.out (fun h => h80 h.2)), HJR.out⟩⟩
    · gi_wp2
      (try simp only [Exit.noGoto_normal, Exit.noGoto_ret, Exit.noGoto_exit, Exit.inBlock, Exit.then])
      go_end0
      exact ⟨⟨_, rfl⟩, .inl ⟨fun _ => False, pre, .inl (along_end HAL.out (by omega)), HJR.out⟩⟩
end Go.Proofs.YthebojaminploaaGreatDoor
