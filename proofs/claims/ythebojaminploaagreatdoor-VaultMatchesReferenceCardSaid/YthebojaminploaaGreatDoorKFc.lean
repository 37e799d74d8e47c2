/- flash.memories and its iterator: what the closure yields, one memory after the other. -/
import Derived.Test.YthebojaminploaaGreatDoorKFY
import Derived.Test.YthebojaminploaaGreatDoorKSQ
import Derived.Test.YthebojaminploaaGreatDoorKCO
import Derived.Shelf.Abstract
import Derived.OwnWalkIn
import Derived.TacticsInMore
import Derived.LoopNIn
import Derived.LoopIn
import Derived.Laws.BitsAllLaws
import Derived.IntWalk
set_option maxRecDepth 100000
set_option linter.unusedVariables false
namespace Go.Proofs.YthebojaminploaaGreatDoor
open Go.RowKit Go.Shelf
attribute [local go_sem] Oper.semAt_some

theorem ret_int {k : IntKind} {a b : Int} (h : a = b) : Ending.returned (.int k a) = .returned (.int k b) := by rw [h]
theorem and_u8 (a b : UInt8) : bits .and .u8 (a.toNat : Int) (b.toNat : Int) = ((a &&& b).toNat : Int) := by
  show IntKind.u8.wrap ((BitVec.ofInt 8 (a.toNat : Int) &&& BitVec.ofInt 8 (b.toNat : Int)).toNat : Int) = _
  have e : ∀ x : UInt8, (BitVec.ofInt 8 (x.toNat : Int)).toNat = x.toNat := fun x => by
    rw [BitVec.ofInt_natCast, BitVec.toNat_ofNat]; exact Nat.mod_eq_of_lt x.toNat_lt
  rw [BitVec.toNat_and, e, e, UInt8.toNat_and]
  have hx : a.toNat &&& b.toNat < 256 := Nat.lt_of_le_of_lt Nat.and_le_left a.toNat_lt
  simp [IntKind.wrap, IntKind.bits, IntKind.signed]
  omega

/-- the change that Program makes -/
theorem both_any (i : Nat) (old : UInt8) (ds : List UInt8) (A : Option Addr) (c Bd : Nat) (w : World) (hi : i < ds.length) (hn : ds.length ≤ 1000000000) (hc : w.cell? ⟨Bd, 0, none⟩ = some (.slice A ds.length c)) (hA : RdB w w.heap.size A ds) :
    Calls Tryz.prog 82 #[.int .i64 (i : Int), .int .u8 (old.toNat : Int), .pointer (some ⟨Bd, 0, none⟩)] w fun e w' => e = .returned (.int .u8 ((andF ds i old).toNat : Int)) ∧ w = w' := by
  obtain ⟨b, o, rfl, hb, hcell⟩ := hA.at_ hi
  have hx := old.toNat_lt
  have hy := ds[i].toNat_lt
  go_enter Tryz.func82, Tryz.ntmps82
  go_wp2
  go_ret
  refine ⟨ret_int ?_, rfl⟩
  show bits .and .u8 (old.toNat : Int) (ds[i].toNat : Int) = _
  rw [and_u8]
  simp [andF, hi]
theorem erase_any (i : Nat) (old : UInt8) (w : World) :
    Calls Tryz.prog 88 #[.int .i64 (i : Int), .int .u8 (old.toNat : Int)] w fun e w' => e = .returned (.int .u8 ((eraF i old).toNat : Int)) ∧ w = w' := by
  go_enter Tryz.func88, Tryz.ntmps88
  go_wp2
  go_ret
  exact ⟨rfl, rfl⟩

/-- memories: the four parameters are boxed; the closure takes the boxes -/
theorem memories_any (s : Int) (A : Option Addr) (len c : Nat) (p n : Int) (ch : Value) (hch : ∃ f cs, ch = .func (.func f) #[] cs) (w : World) :
    Calls Tryz.prog 84 #[.agg #[.int .i64 s, .slice A len c], .int .i64 p, .int .i64 n, ch] w fun e w' =>
      e = .returned (.func (.func 90) #[] #[.pointer (some ⟨w.heap.size, 0, none⟩), .pointer (some ⟨w.heap.size + 2, 0, none⟩), .pointer (some ⟨w.heap.size + 3, 0, none⟩), .pointer (some ⟨w.heap.size + 1, 0, none⟩)]) ∧
      w' = (((w.alloc (.cells #[.int .i64 s, .slice A len c] 24)).alloc (.cells #[.int .i64 p] 3)).alloc (.cells #[.int .i64 n] 3)).alloc (.cells #[ch] 104) := by
  obtain ⟨f, cs, rfl⟩ := hch
  go_enter Tryz.func84, Tryz.ntmps84
  go_wp2
  go_ret
  exact ⟨rfl, rfl⟩

theorem u8s_set (l : List UInt8) (i : Nat) (b : UInt8) : (u8s l).toArray.setIfInBounds i (.int .u8 (b.toNat : Int)) = (u8s (l.set i b)).toArray := by
  apply Array.ext'
  simp [u8s, u8, List.map_set]

/-- what is yielded: the block of its bytes, and the bytes -/
abbrev Item := Nat × List UInt8
def encF (s : Int) (x : Item) : Array Value := #[.agg #[.int .i64 s, .slice (some ⟨x.1, 0, none⟩) x.2.length x.2.length]]
def OkF (B : Nat) (Pv : Nat → Prop) (x : Item) (W : World) : Prop := Bk W x.1 5 (u8s x.2).toArray ∧ ¬ Pv x.1 ∧ B ≤ x.1

/-- between two rounds: k changes have been made, k + 1 memories yielded -/
def IterRel (s : Int) (bs : List UInt8) (p : Nat) (f : Nat → UInt8 → UInt8) (g0 nb : Nat) (w0 W : World) (J : (Nat → Prop) → List Item → World → Prop) (Pv : Nat → Prop) (k : Nat) (pre : List Item) (wr : World) : Prop :=
  pre.length = k + 1 ∧ pre.map (·.2) = memos f bs p k ∧ J Pv pre wr ∧ Bk wr nb 24 #[.int .i64 s, .slice (some ⟨g0, 0, none⟩) bs.length bs.length] ∧ Bk wr g0 5 (u8s (memo f bs p k)).toArray ∧ Below w0.heap.size w0 wr ∧ W.heap.size ≤ wr.heap.size

set_option maxHeartbeats 4000000 in
set_option maxRecDepth 100000 in
theorem memories_prog (s : Int) (bs : List UInt8) (p : Nat) (ds : List UInt8) (Ad : Option Addr) (cd Bd : Nat) (Bf Bn Bc Bp : Nat) (A : Option Addr) (c : Nat) (w0 : World)
    (hf : Bk w0 Bf 24 #[.int .i64 s, .slice A bs.length c]) (hA : RdB w0 w0.heap.size A bs) (hn : Bk w0 Bn 3 #[.int .i64 (ds.length : Int)]) (hp : Bk w0 Bp 3 #[.int .i64 (p : Int)]) (hc : Bk w0 Bc 104 #[.func (.func 82) #[] #[.pointer (some ⟨Bd, 0, none⟩)]])
    (hd : Bk w0 Bd 22 #[.slice Ad ds.length cd]) (hAd : RdB w0 w0.heap.size Ad ds) (hin : p + ds.length ≤ bs.length) (hlen : bs.length ≤ 1000000) :
    SeqSep Tryz.prog 90 #[.pointer (some ⟨Bf, 0, none⟩), .pointer (some ⟨Bn, 0, none⟩), .pointer (some ⟨Bc, 0, none⟩), .pointer (some ⟨Bp, 0, none⟩)] (encF s) (OkF w0.heap.size)
      (fun xs => xs.map (·.2) = memos (andF ds) bs p ds.length) (fun _ => True) (ds.length + 1) w0 := by
  intro l m J Jx W hW hJ hJx hY h0
  have hf0 := (hf.below hW hf.lt).cell 0
  have hf1 := (hf.below hW hf.lt).cell 1
  simp only [List.getElem?_toArray, List.getElem?_cons_zero, List.getElem?_cons_succ] at hf0 hf1
  have HA := Lib.hid (hA.below hW)
  refine callsIn_of_wp Tryz.func90 rfl trivial ?_ rfl
  simp only [Tryz.ntmps90, List.size_toArray, List.length_cons, List.length_nil, Nat.reduceAdd, Nat.reduceSub, Array.replicate_succ, Array.replicate_zero, List.push_toArray, List.append_toArray, List.nil_append, List.cons_append]
  gi_wp2_with fail
  refine ⟨trivial, (fun h => by cases h), ?_⟩
  refine (callsIn_wide.2 (duplicate_any s bs A c _ (HA.out.more hW.size) (by omega))).mono ?_
  rintro e W1 ⟨g0, rfl, hg0, hk0, hb1⟩
  clear hf0 hf1 HA
  gi_wp2_with fail
  obtain ⟨W2, hW2⟩ : ∃ W2, W1.alloc (.cells #[.int .i64 s, .slice (some ⟨g0, 0, none⟩) bs.length bs.length] 24) = W2 := ⟨_, rfl⟩
  have kn2 : Bk W2 W1.heap.size 24 #[.int .i64 s, .slice (some ⟨g0, 0, none⟩) bs.length bs.length] := by rw [← hW2]; exact Bk.new _ _ _
  have kg2 : Bk W2 g0 5 (u8s bs).toArray := by rw [← hW2]; exact hk0.alloc _
  have hb2 : Below W.heap.size W W2 := by rw [← hW2]; exact hb1.alloc hb1.size _
  have hl0 : g0 < W1.heap.size := hk0.lt
  rw [hW2]
  clear hW2 hk0
  obtain ⟨nb, hnb⟩ : ∃ nb, nb = W1.heap.size := ⟨_, rfl⟩
  rw [← hnb] at kn2 hl0 ⊢
  have hnbW : W.heap.size ≤ nb := by have := hb1.size; omega
  clear hnb hb1
  refine ⟨trivial, (fun h => by cases h), ?_⟩
  refine (callsIn_wide.2 (duplicate_any s bs (some ⟨g0, 0, none⟩) bs.length W2 (RdB.of_bk kg2 kg2.lt) (by omega))).mono ?_
  rintro e W3 ⟨g1, rfl, hg1, kg1, hb3⟩
  have kn3 := kn2.next hb3
  have kg3 := kg2.next hb3
  have hlt2 := kn2.lt
  -- the iterator's own blocks
  obtain ⟨Pv, hPv⟩ : ∃ Pv : Nat → Prop, ∀ k, Pv k ↔ k = g0 ∨ k = nb := ⟨fun k => k = g0 ∨ k = nb, fun _ => Iff.rfl⟩
  have hJ3 : J Pv [] W3 := by
    refine hJ (fun k => W.heap.size ≤ k) Pv [] W W3 (h0 _ (fun k h => h)) ?_ (fun k h => .inr ?_)
    · exact SameOut.of_below (bt hb3 hb2)
    · rcases (hPv k).1 h with rfl | rfl <;> omega
  have hok3 : OkF w0.heap.size Pv (g1, bs) W3 := ⟨kg1, fun h => by rcases (hPv _).1 h with h | h <;> omega, by have := hW.size; have := hb2.size; omega⟩
  obtain ⟨fn, tmps, assign, body, hy, hR⟩ := hY Pv [] (g1, bs) W3 hJ3 hok3 (fun k h => by rcases (hPv k).1 h with rfl | rfl; exact kg3.lt; exact kn3.lt) (by simp)
  dsimp only [encF] at hy
  clear kn2 kg2 hok3
  gi_wp2
  refine ⟨(fun h => by cases h), hR.mono ?_⟩
  have hbw3 : Below w0.heap.size w0 W3 := hW.trans ((bt hb3 hb2).mono hW.size)
  rintro e W4 (⟨rfl, hJ4, hs4, hb4⟩ | ⟨rfl, hJx4⟩)
  · have hbw4 := hbw3.trans hb4
    have hn4 := (hn.below hbw4 hn.lt).cell 0
    simp only [List.getElem?_toArray, List.getElem?_cons_zero] at hn4
    have kn4 : Bk W4 nb 24 #[.int .i64 s, .slice (some ⟨g0, 0, none⟩) bs.length bs.length] := (hs4.block nb kn3.lt ((hPv _).2 (.inr rfl))).trans kn3
    have kg4 : Bk W4 g0 5 (u8s bs).toArray := (hs4.block g0 kg3.lt ((hPv _).2 (.inl rfl))).trans kg3
    clear hR hy hJ3 kn3 kg3 kg1 hs4
    gi_wp2
    gi_loopw [16] (fun i wr => ∃ (k : Nat) (pre : List Item), i = .int .i64 (k : Int) ∧ k ≤ ds.length ∧ IterRel s bs p (andF ds) g0 nb w0 W J Pv k pre wr) (fun i _ => ds.length - (intOf i).toNat)
    case atStart => exact ⟨0, [(g1, bs)], rfl, Nat.zero_le _, rfl, rfl, hJ4, kn4, kg4, hbw4, by have := hb2.size; have := hb3.size; have := hb4.size; omega⟩
    case round =>
      obtain ⟨k, pre, rfl, hk, hpl, hpm, hJr, knr, kgr, hbr, hsr⟩ := hrel
      have HPM := Lib.hid hpm
      have HPL := Lib.hid hpl
      have HJ := Lib.hid hJr
      have KN := Lib.hid knr
      have KG := Lib.hid kgr
      have HB := Lib.hid hbr
      by_cases hlt : k < ds.length
      · have hml := memo_length (andF ds) bs p k
        have hpk : p + k < (memo (andF ds) bs p k).length := by omega
        have HML := Lib.hid hml
        have a0 := knr.cell 0
        have a1 := knr.cell 1
        have a2 := (hp.below hbr hp.lt).cell 0
        have a3 := (hc.below hbr hc.lt).cell 0
        have a4 := kgr.cell (p + k)
        have a5 := kgr.frozen (p + k)
        rw [show (u8s (memo (andF ds) bs p k)).toArray[p + k]? = some (.int .u8 ((memo (andF ds) bs p k)[p + k].toNat : Int)) from by simpa using u8s_get _ _ hpk] at a4
        simp only [List.getElem?_toArray, List.getElem?_cons_zero, List.getElem?_cons_succ] at a0 a1 a2 a3
        have i1 : (0 : Int) ≤ (p : Int) + (k : Int) := by omega
        have i2 : (p : Int) + (k : Int) < (bs.length : Int) := by omega
        have i3 : ((p : Int) + (k : Int)).toNat = p + k := by omega
        have HC := Lib.hid ((both_any k (memo (andF ds) bs p k)[p + k] ds Ad cd Bd wr.drew hlt (by omega) (by simpa using (hd.below hbr hd.lt).cell 0) ((hAd.below hbr).more hbr.size)).mono (fun _ _ h => (⟨h.1, h.2.symm⟩ : _ ∧ _ = wr.drew)))
        clear hpl hpm hJr knr kgr hml
        have i0 : IntKind.i64.wrap ((p : Int) + (k : Int)) = (p : Int) + (k : Int) := IntWalk.i64_in _ (by omega)
        gi_wp2
        refine wpIn_wide.2 (region_tail 16 (by kernel_rfl) (by kernel_rfl) ?_)
        simp only [List.take_succ_cons, List.take_zero, List.drop_succ_cons, List.drop_zero]
        iterate 14 still_step
        still_call HC.out
        iterate 1 still_step
        refine wpStill_nil ?_
        go_wp2
        clear i0 i1 i2 i3 a0 a1 a2 a3 a4 a5 HC
        obtain ⟨W5, hW5⟩ : ∃ W5, (wr.setCell ⟨g0, p + k, none⟩ (.int .u8 (((andF ds) k (memo (andF ds) bs p k)[p + k]).toNat : Int))).drew = W5 := ⟨_, rfl⟩
        rw [hW5]
        have hms : memo (andF ds) bs p (k + 1) = (memo (andF ds) bs p k).set (p + k) ((andF ds) k (memo (andF ds) bs p k)[p + k]) := by
          simp only [memo]
          rw [List.getD_eq_getElem?_getD, List.getElem?_eq_getElem hpk, Option.getD_some]
        have kn5 : Bk W5 nb 24 #[.int .i64 s, .slice (some ⟨g0, 0, none⟩) bs.length bs.length] := by
          rw [← hW5]; exact (KN.out.far (p := ⟨g0, p + k, none⟩) (by show nb ≠ g0; omega) _).drew
        have kg5 : Bk W5 g0 5 (u8s (memo (andF ds) bs p (k + 1))).toArray := by
          rw [← hW5, hms, ← u8s_set]; exact (KG.out.set (p + k) _).drew
        have hlen5 : (memo (andF ds) bs p (k + 1)).length = bs.length := memo_length _ _ _ _
        have hJ5 : J Pv pre W5 := by
          rw [← hW5]
          exact hJ _ _ _ _ _ HJ.out ((SameOut.setCell wr (a := ⟨g0, p + k, none⟩) ((hPv _).2 (.inl rfl)) _).trans (SameOut.drew _ _)) (fun k h => .inl h)
        have hbw5 : Below w0.heap.size w0 W5 := by
          rw [← hW5]; exact (HB.out.setCell (p := ⟨g0, p + k, none⟩) (by show _ ≤ g0; have := hW.size; omega) _).drew
        have hsz5 : W5.heap.size = wr.heap.size := by rw [← hW5]; simp [World.drew, World.setCell]
        have HMS := Lib.hid hms
        have HL5 := Lib.hid hlen5
        have HS5 := Lib.hid hsz5
        clear hW5 hms hsz5
        have b0 := kn5.cell 0
        have b1 := kn5.cell 1
        simp only [List.getElem?_toArray, List.getElem?_cons_zero, List.getElem?_cons_succ] at b0 b1
        have hdup := duplicate_any s (memo (andF ds) bs p (k + 1)) (some ⟨g0, 0, none⟩) bs.length W5 (RdB.of_bk kg5 kg5.lt) (by omega)
        rw [hlen5] at hdup
        have HD := Lib.hid hdup
        clear hdup hlen5
        gi_wp2_with fail
        refine ⟨trivial, (fun h => by cases h), ?_⟩
        refine (callsIn_wide.2 HD.out).mono ?_
        rintro e W6 ⟨g6, rfl, hg6, kg6, hb6⟩
        have kn6 := kn5.next hb6
        have kk6 := kg5.next hb6
        have lt1 := kn5.lt
        have lt2 := kg5.lt
        have hJ6 : J Pv pre W6 := hJ _ _ _ _ _ hJ5 (SameOut.of_below hb6) (fun k h => .inl h)
        have hbw6 : Below w0.heap.size w0 W6 := hbw5.trans (hb6.mono hbw5.size)
        have hok6 : OkF w0.heap.size Pv (g6, memo (andF ds) bs p (k + 1)) W6 := ⟨kg6, fun h => by rcases (hPv _).1 h with h | h <;> omega, by have := hbw5.size; omega⟩
        obtain ⟨fn, tmps, assign, body, hy, hR⟩ := hY Pv pre (g6, memo (andF ds) bs p (k + 1)) W6 hJ6 hok6 (fun k h => by rcases (hPv k).1 h with rfl | rfl; exact kk6.lt; exact kn6.lt) (by have := HPL.out; omega)
        simp only [encF, HL5.out] at hy
        clear b0 b1 kg6 hok6 hJ5 hJ6 kn5 kg5
        gi_wp2
        refine ⟨(fun h => by cases h), hR.mono ?_⟩
        rintro e W7 (⟨rfl, hJ7, hs7, hb7⟩ | ⟨rfl, hJx7⟩)
        · have r1 : Bk W7 nb 24 #[.int .i64 s, .slice (some ⟨g0, 0, none⟩) bs.length bs.length] := (hs7.block nb kn6.lt ((hPv _).2 (.inr rfl))).trans kn6
          have r2 : Bk W7 g0 5 (u8s (memo (andF ds) bs p (k + 1))).toArray := (hs7.block g0 kk6.lt ((hPv _).2 (.inl rfl))).trans kk6
          have r3 := hbw6.trans hb7
          have R : IterRel s bs p (andF ds) g0 nb w0 W J Pv (k + 1) (pre ++ [(g6, memo (andF ds) bs p (k + 1))]) W7 :=
            ⟨by simp [HPL.out], by rw [List.map_append, HPM.out, memos_succ]; rfl, hJ7, r1, r2, r3, by have := HS5.out; have := hb6.size; have := hs7.size; omega⟩
          clear hR hy r1 r2 r3 hJ7 hs7 hb7 kn6 kk6 hbw6 hbw5
          gi_wp2
          go_roundw
          case rel => exact ⟨k + 1, _, by go_num, by omega, R⟩
          case measure => simp [intOf]; omega
        · gi_wp2
          refine bodyPost_ret (results_none rfl _ _ _) rfl ?_
          exact ⟨⟨_, rfl⟩, .inr ⟨Pv, _, trivial, hJx7⟩⟩
      · obtain rfl : k = ds.length := by omega
        clear hpl hpm hJr knr kgr
        gi_wp2
        go_end0
        exact ⟨⟨_, rfl⟩, .inl ⟨Pv, pre, HPM.out, HJ.out⟩⟩
  · gi_wp2
    refine bodyPost_ret (results_none rfl _ _ _) rfl ?_
    exact ⟨⟨_, rfl⟩, .inr ⟨Pv, _, trivial, hJx4⟩⟩

set_option maxHeartbeats 4000000 in
set_option maxRecDepth 100000 in
theorem memories_erase (s : Int) (bs : List UInt8) (p : Nat) (n : Nat) (Bf Bn Bc Bp : Nat) (A : Option Addr) (c : Nat) (w0 : World)
    (hf : Bk w0 Bf 24 #[.int .i64 s, .slice A bs.length c]) (hA : RdB w0 w0.heap.size A bs) (hn : Bk w0 Bn 3 #[.int .i64 (n : Int)]) (hp : Bk w0 Bp 3 #[.int .i64 (p : Int)]) (hc : Bk w0 Bc 104 #[.func (.func 88) #[] #[]])
     (hin : p + n ≤ bs.length) (hlen : bs.length ≤ 1000000) :
    SeqSep Tryz.prog 90 #[.pointer (some ⟨Bf, 0, none⟩), .pointer (some ⟨Bn, 0, none⟩), .pointer (some ⟨Bc, 0, none⟩), .pointer (some ⟨Bp, 0, none⟩)] (encF s) (OkF w0.heap.size)
      (fun xs => xs.map (·.2) = memos eraF bs p n) (fun _ => True) (n + 1) w0 := by
  intro l m J Jx W hW hJ hJx hY h0
  have hf0 := (hf.below hW hf.lt).cell 0
  have hf1 := (hf.below hW hf.lt).cell 1
  simp only [List.getElem?_toArray, List.getElem?_cons_zero, List.getElem?_cons_succ] at hf0 hf1
  have HA := Lib.hid (hA.below hW)
  refine callsIn_of_wp Tryz.func90 rfl trivial ?_ rfl
  simp only [Tryz.ntmps90, List.size_toArray, List.length_cons, List.length_nil, Nat.reduceAdd, Nat.reduceSub, Array.replicate_succ, Array.replicate_zero, List.push_toArray, List.append_toArray, List.nil_append, List.cons_append]
  gi_wp2_with fail
  refine ⟨trivial, (fun h => by cases h), ?_⟩
  refine (callsIn_wide.2 (duplicate_any s bs A c _ (HA.out.more hW.size) (by omega))).mono ?_
  rintro e W1 ⟨g0, rfl, hg0, hk0, hb1⟩
  clear hf0 hf1 HA
  gi_wp2_with fail
  obtain ⟨W2, hW2⟩ : ∃ W2, W1.alloc (.cells #[.int .i64 s, .slice (some ⟨g0, 0, none⟩) bs.length bs.length] 24) = W2 := ⟨_, rfl⟩
  have kn2 : Bk W2 W1.heap.size 24 #[.int .i64 s, .slice (some ⟨g0, 0, none⟩) bs.length bs.length] := by rw [← hW2]; exact Bk.new _ _ _
  have kg2 : Bk W2 g0 5 (u8s bs).toArray := by rw [← hW2]; exact hk0.alloc _
  have hb2 : Below W.heap.size W W2 := by rw [← hW2]; exact hb1.alloc hb1.size _
  have hl0 : g0 < W1.heap.size := hk0.lt
  rw [hW2]
  clear hW2 hk0
  obtain ⟨nb, hnb⟩ : ∃ nb, nb = W1.heap.size := ⟨_, rfl⟩
  rw [← hnb] at kn2 hl0 ⊢
  have hnbW : W.heap.size ≤ nb := by have := hb1.size; omega
  clear hnb hb1
  refine ⟨trivial, (fun h => by cases h), ?_⟩
  refine (callsIn_wide.2 (duplicate_any s bs (some ⟨g0, 0, none⟩) bs.length W2 (RdB.of_bk kg2 kg2.lt) (by omega))).mono ?_
  rintro e W3 ⟨g1, rfl, hg1, kg1, hb3⟩
  have kn3 := kn2.next hb3
  have kg3 := kg2.next hb3
  have hlt2 := kn2.lt
  -- the iterator's own blocks
  obtain ⟨Pv, hPv⟩ : ∃ Pv : Nat → Prop, ∀ k, Pv k ↔ k = g0 ∨ k = nb := ⟨fun k => k = g0 ∨ k = nb, fun _ => Iff.rfl⟩
  have hJ3 : J Pv [] W3 := by
    refine hJ (fun k => W.heap.size ≤ k) Pv [] W W3 (h0 _ (fun k h => h)) ?_ (fun k h => .inr ?_)
    · exact SameOut.of_below (bt hb3 hb2)
    · rcases (hPv k).1 h with rfl | rfl <;> omega
  have hok3 : OkF w0.heap.size Pv (g1, bs) W3 := ⟨kg1, fun h => by rcases (hPv _).1 h with h | h <;> omega, by have := hW.size; have := hb2.size; omega⟩
  obtain ⟨fn, tmps, assign, body, hy, hR⟩ := hY Pv [] (g1, bs) W3 hJ3 hok3 (fun k h => by rcases (hPv k).1 h with rfl | rfl; exact kg3.lt; exact kn3.lt) (by simp)
  dsimp only [encF] at hy
  clear kn2 kg2 hok3
  gi_wp2
  refine ⟨(fun h => by cases h), hR.mono ?_⟩
  have hbw3 : Below w0.heap.size w0 W3 := hW.trans ((bt hb3 hb2).mono hW.size)
  rintro e W4 (⟨rfl, hJ4, hs4, hb4⟩ | ⟨rfl, hJx4⟩)
  · have hbw4 := hbw3.trans hb4
    have hn4 := (hn.below hbw4 hn.lt).cell 0
    simp only [List.getElem?_toArray, List.getElem?_cons_zero] at hn4
    have kn4 : Bk W4 nb 24 #[.int .i64 s, .slice (some ⟨g0, 0, none⟩) bs.length bs.length] := (hs4.block nb kn3.lt ((hPv _).2 (.inr rfl))).trans kn3
    have kg4 : Bk W4 g0 5 (u8s bs).toArray := (hs4.block g0 kg3.lt ((hPv _).2 (.inl rfl))).trans kg3
    clear hR hy hJ3 kn3 kg3 kg1 hs4
    gi_wp2
    gi_loopw [16] (fun i wr => ∃ (k : Nat) (pre : List Item), i = .int .i64 (k : Int) ∧ k ≤ n ∧ IterRel s bs p eraF g0 nb w0 W J Pv k pre wr) (fun i _ => n - (intOf i).toNat)
    case atStart => exact ⟨0, [(g1, bs)], rfl, Nat.zero_le _, rfl, rfl, hJ4, kn4, kg4, hbw4, by have := hb2.size; have := hb3.size; have := hb4.size; omega⟩
    case round =>
      obtain ⟨k, pre, rfl, hk, hpl, hpm, hJr, knr, kgr, hbr, hsr⟩ := hrel
      have HPM := Lib.hid hpm
      have HPL := Lib.hid hpl
      have HJ := Lib.hid hJr
      have KN := Lib.hid knr
      have KG := Lib.hid kgr
      have HB := Lib.hid hbr
      by_cases hlt : k < n
      · have hml := memo_length eraF bs p k
        have hpk : p + k < (memo eraF bs p k).length := by omega
        have HML := Lib.hid hml
        have a0 := knr.cell 0
        have a1 := knr.cell 1
        have a2 := (hp.below hbr hp.lt).cell 0
        have a3 := (hc.below hbr hc.lt).cell 0
        have a4 := kgr.cell (p + k)
        have a5 := kgr.frozen (p + k)
        rw [show (u8s (memo eraF bs p k)).toArray[p + k]? = some (.int .u8 ((memo eraF bs p k)[p + k].toNat : Int)) from by simpa using u8s_get _ _ hpk] at a4
        simp only [List.getElem?_toArray, List.getElem?_cons_zero, List.getElem?_cons_succ] at a0 a1 a2 a3
        have i1 : (0 : Int) ≤ (p : Int) + (k : Int) := by omega
        have i2 : (p : Int) + (k : Int) < (bs.length : Int) := by omega
        have i3 : ((p : Int) + (k : Int)).toNat = p + k := by omega
        have HC := Lib.hid ((erase_any k (memo eraF bs p k)[p + k] wr.drew).mono (fun _ _ h => (⟨h.1, h.2.symm⟩ : _ ∧ _ = wr.drew)))
        clear hpl hpm hJr knr kgr hml
        have i0 : IntKind.i64.wrap ((p : Int) + (k : Int)) = (p : Int) + (k : Int) := IntWalk.i64_in _ (by omega)
        gi_wp2
        refine wpIn_wide.2 (region_tail 16 (by kernel_rfl) (by kernel_rfl) ?_)
        simp only [List.take_succ_cons, List.take_zero, List.drop_succ_cons, List.drop_zero]
        iterate 14 still_step
        still_call HC.out
        iterate 1 still_step
        refine wpStill_nil ?_
        go_wp2
        clear i0 i1 i2 i3 a0 a1 a2 a3 a4 a5 HC
        obtain ⟨W5, hW5⟩ : ∃ W5, (wr.setCell ⟨g0, p + k, none⟩ (.int .u8 ((eraF k (memo eraF bs p k)[p + k]).toNat : Int))).drew = W5 := ⟨_, rfl⟩
        rw [hW5]
        have hms : memo eraF bs p (k + 1) = (memo eraF bs p k).set (p + k) (eraF k (memo eraF bs p k)[p + k]) := by
          simp only [memo]
          rw [List.getD_eq_getElem?_getD, List.getElem?_eq_getElem hpk, Option.getD_some]
        have kn5 : Bk W5 nb 24 #[.int .i64 s, .slice (some ⟨g0, 0, none⟩) bs.length bs.length] := by
          rw [← hW5]; exact (KN.out.far (p := ⟨g0, p + k, none⟩) (by show nb ≠ g0; omega) _).drew
        have kg5 : Bk W5 g0 5 (u8s (memo eraF bs p (k + 1))).toArray := by
          rw [← hW5, hms, ← u8s_set]; exact (KG.out.set (p + k) _).drew
        have hlen5 : (memo eraF bs p (k + 1)).length = bs.length := memo_length _ _ _ _
        have hJ5 : J Pv pre W5 := by
          rw [← hW5]
          exact hJ _ _ _ _ _ HJ.out ((SameOut.setCell wr (a := ⟨g0, p + k, none⟩) ((hPv _).2 (.inl rfl)) _).trans (SameOut.drew _ _)) (fun k h => .inl h)
        have hbw5 : Below w0.heap.size w0 W5 := by
          rw [← hW5]; exact (HB.out.setCell (p := ⟨g0, p + k, none⟩) (by show _ ≤ g0; have := hW.size; omega) _).drew
        have hsz5 : W5.heap.size = wr.heap.size := by rw [← hW5]; simp [World.drew, World.setCell]
        have HMS := Lib.hid hms
        have HL5 := Lib.hid hlen5
        have HS5 := Lib.hid hsz5
        clear hW5 hms hsz5
        have b0 := kn5.cell 0
        have b1 := kn5.cell 1
        simp only [List.getElem?_toArray, List.getElem?_cons_zero, List.getElem?_cons_succ] at b0 b1
        have hdup := duplicate_any s (memo eraF bs p (k + 1)) (some ⟨g0, 0, none⟩) bs.length W5 (RdB.of_bk kg5 kg5.lt) (by omega)
        rw [hlen5] at hdup
        have HD := Lib.hid hdup
        clear hdup hlen5
        gi_wp2_with fail
        refine ⟨trivial, (fun h => by cases h), ?_⟩
        refine (callsIn_wide.2 HD.out).mono ?_
        rintro e W6 ⟨g6, rfl, hg6, kg6, hb6⟩
        have kn6 := kn5.next hb6
        have kk6 := kg5.next hb6
        have lt1 := kn5.lt
        have lt2 := kg5.lt
        have hJ6 : J Pv pre W6 := hJ _ _ _ _ _ hJ5 (SameOut.of_below hb6) (fun k h => .inl h)
        have hbw6 : Below w0.heap.size w0 W6 := hbw5.trans (hb6.mono hbw5.size)
        have hok6 : OkF w0.heap.size Pv (g6, memo eraF bs p (k + 1)) W6 := ⟨kg6, fun h => by rcases (hPv _).1 h with h | h <;> omega, by have := hbw5.size; omega⟩
        obtain ⟨fn, tmps, assign, body, hy, hR⟩ := hY Pv pre (g6, memo eraF bs p (k + 1)) W6 hJ6 hok6 (fun k h => by rcases (hPv k).1 h with rfl | rfl; exact kk6.lt; exact kn6.lt) (by have := HPL.out; omega)
        simp only [encF, HL5.out] at hy
        clear b0 b1 kg6 hok6 hJ5 hJ6 kn5 kg5
        gi_wp2
        refine ⟨(fun h => by cases h), hR.mono ?_⟩
        rintro e W7 (⟨rfl, hJ7, hs7, hb7⟩ | ⟨rfl, hJx7⟩)
        · have r1 : Bk W7 nb 24 #[.int .i64 s, .slice (some ⟨g0, 0, none⟩) bs.length bs.length] := (hs7.block nb kn6.lt ((hPv _).2 (.inr rfl))).trans kn6
          have r2 : Bk W7 g0 5 (u8s (memo eraF bs p (k + 1))).toArray := (hs7.block g0 kk6.lt ((hPv _).2 (.inl rfl))).trans kk6
          have r3 := hbw6.trans hb7
          have R : IterRel s bs p eraF g0 nb w0 W J Pv (k + 1) (pre ++ [(g6, memo eraF bs p (k + 1))]) W7 :=
            ⟨by simp [HPL.out], by rw [List.map_append, HPM.out, memos_succ]; rfl, hJ7, r1, r2, r3, by have := HS5.out; have := hb6.size; have := hs7.size; omega⟩
          clear hR hy r1 r2 r3 hJ7 hs7 hb7 kn6 kk6 hbw6 hbw5
          gi_wp2
          go_roundw
          case rel => exact ⟨k + 1, _, by go_num, by omega, R⟩
          case measure => simp [intOf]; omega
        · gi_wp2
          refine bodyPost_ret (results_none rfl _ _ _) rfl ?_
          exact ⟨⟨_, rfl⟩, .inr ⟨Pv, _, trivial, hJx7⟩⟩
      · obtain rfl : k = n := by omega
        clear hpl hpm hJr knr kgr
        gi_wp2
        go_end0
        exact ⟨⟨_, rfl⟩, .inl ⟨Pv, pre, HPM.out, HJ.out⟩⟩
  · gi_wp2
    refine bodyPost_ret (results_none rfl _ _ _) rfl ?_
    exact ⟨⟨_, rfl⟩, .inr ⟨Pv, _, trivial, hJx4⟩⟩

end Go.Proofs.YthebojaminploaaGreatDoor
