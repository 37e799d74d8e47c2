/- journal.look: what a journal holds. -/
import Derived.Test.YthebojaminploaaGreatDoorKJc
import Derived.Test.YthebojaminploaaGreatDoorKJS
import Derived.Laws.EntriesVeiled
import Derived.Test.YthebojaminploaaGreatDoorKRound
set_option maxRecDepth 100000
set_option linter.unusedVariables false
set_option linter.unusedSimpArgs false
namespace Go.Proofs.YthebojaminploaaGreatDoor
open Go.RowKit Go.Sort Go.Shelf
attribute [local go_sem] Oper.semAt_some

theorem records_any (A : Option Addr) (len c : Nat) (w : World) :
    Calls Tryz.prog 67 #[.slice A len c] w fun e w' => e = .returned (.func (.func 81) #[] #[.pointer (some ⟨w.heap.size, 0, none⟩)]) ∧
      w' = w.alloc (.cells #[.slice A len c] 22) := by
  go_enter Tryz.func67, Tryz.ntmps67
  go_wp2
  go_ret
  exact ⟨rfl, rfl⟩

def lookPost (m : Mem) (w : World) (e : Ending) (w' : World) : Prop :=
  ∃ v its, e = .returned (.tuple #[.agg #[.int .i64 ((lookC m).area : Int), .int .u32 ((lookC m).gen : Int), v, .int .i64 ((lookC m).fin : Int), .bool (lookC m).clean], .int .i64 (lookE m)]) ∧ Rw w.heap.size its v w' ∧ its.map (·.2.2) = (lookC m).recs ∧ Below w.heap.size w w'
theorem lookBad {m : Mem} {w w' : World} {er : Int} (h : lookE m = er ∧ lookC m = ⟨0, 0, [], 0, false⟩) (hb : Below w.heap.size w w') : lookPost m w (.returned (.tuple #[.agg #[.int .i64 0, .int .u32 0, .slice none 0 0, .int .i64 0, .bool false], .int .i64 er])) w' :=
  ⟨.slice none 0 0, [], by rw [h.1, h.2]; rfl, Rw.nil _ _, by rw [h.2]; rfl, hb⟩

theorem box5 {w : World} {k : Nat} {t : TypeId} {a b c d e : Value} (h : Bk w k t #[a, b, c, d, e]) : w.cell? ⟨k, 0, none⟩ = some a ∧ w.cell? ⟨k, 1, none⟩ = some b ∧ w.cell? ⟨k, 2, none⟩ = some c ∧ w.cell? ⟨k, 3, none⟩ = some d ∧ w.cell? ⟨k, 4, none⟩ = some e := ⟨h.cell 0, h.cell 1, h.cell 2, h.cell 3, h.cell 4⟩
theorem valid_lit (b : Bool) (s : Int) (A : Option Addr) (n c : Nat) (w : World) (h : jvB s n = b) :
    Calls Tryz.prog 61 #[.agg #[.int .i64 s, .slice A n c]] w fun e w' => e = .returned (.bool b) ∧ Below w.heap.size w w' := by
  have := valid_any s A n c w
  rwa [h] at this
theorem current_none (m : Mem) (n b o c : Nat) (w : World) (hn : m.2.length = n) (h32 : 32 ≤ n) (hn' : n ≤ 1000000) (hc : n ≤ c) (hA : RdB w w.heap.size (some ⟨b, o, none⟩) m.2) (h : curO m = none) :
    Calls Tryz.prog 64 #[.agg #[.int .i64 m.1, .slice (some ⟨b, o, none⟩) n c]] w fun e w' => e = .returned (.tuple #[.int .i64 0, .int .i64 4]) ∧ Below w.heap.size w w' := by
  have := current_any m n b o c w hn h32 hn' hc hA
  simpa [h] using this
theorem current_some (m : Mem) (n b o c a : Nat) (w : World) (hn : m.2.length = n) (h32 : 32 ≤ n) (hn' : n ≤ 1000000) (hc : n ≤ c) (hA : RdB w w.heap.size (some ⟨b, o, none⟩) m.2) (h : curO m = some a) :
    Calls Tryz.prog 64 #[.agg #[.int .i64 m.1, .slice (some ⟨b, o, none⟩) n c]] w fun e w' => e = .returned (.tuple #[.int .i64 (a : Int), .int .i64 0]) ∧ Below w.heap.size w w' := by
  have := current_any m n b o c w hn h32 hn' hc hA
  simpa [h] using this
/-- what the results' variables hold behind the stores -/
theorem set6 {V X : World} {k k3 : Nat} {o0 o1 o2 o3 o4 x a b c d e f : Value} (h2 : Bk V k 61 #[o0, o1, o2, o3, o4]) (h3 : Bk V k3 29 #[x])
    (hX : X = ((((((V.setCell ⟨k, 0, none⟩ a).setCell ⟨k, 1, none⟩ b).setCell ⟨k, 2, none⟩ c).setCell ⟨k, 3, none⟩ d).setCell ⟨k, 4, none⟩ e).setCell ⟨k3, 0, none⟩ f)) :
    Bk X k 61 #[a, b, c, d, e] ∧ Bk X k3 29 #[f] ∧ SameOut (fun i => i = k ∨ i = k3) V X ∧ (∀ B, B ≤ k → B ≤ k3 → Below B V X) := by
  have hne : k ≠ k3 := Bk.ne h2 h3 (by decide)
  subst hX
  refine ⟨?_, ?_, ?_, ?_⟩
  · have := (((((h2.set 0 a).set 1 b).set 2 c).set 3 d).set 4 e).far (p := ⟨k3, 0, none⟩) hne f
    simpa using this
  · have := (((((h3.far (p := ⟨k, 0, none⟩) hne.symm a).far (p := ⟨k, 1, none⟩) hne.symm b).far (p := ⟨k, 2, none⟩) hne.symm c).far (p := ⟨k, 3, none⟩) hne.symm d).far (p := ⟨k, 4, none⟩) hne.symm e).set 0 f
    simpa using this
  · exact (((((SameOut.setCell V (a := ⟨k, 0, none⟩) (.inl rfl) a).trans (SameOut.setCell _ (a := ⟨k, 1, none⟩) (.inl rfl) b)).trans (SameOut.setCell _ (a := ⟨k, 2, none⟩) (.inl rfl) c)).trans (SameOut.setCell _ (a := ⟨k, 3, none⟩) (.inl rfl) d)).trans (SameOut.setCell _ (a := ⟨k, 4, none⟩) (.inl rfl) e)).trans (SameOut.setCell _ (a := ⟨k3, 0, none⟩) (.inr rfl) f)
  · intro B b1 b2
    exact ((((((Below.refl B V).setCell (p := ⟨k, 0, none⟩) b1 a).setCell (p := ⟨k, 1, none⟩) b1 b).setCell (p := ⟨k, 2, none⟩) b1 c).setCell (p := ⟨k, 3, none⟩) b1 d).setCell (p := ⟨k, 4, none⟩) b1 e).setCell (p := ⟨k3, 0, none⟩) b2 f
theorem jv_max {s : Int} {n : Nat} (h : jvB s n = true) : n ≤ 4096 := by
  unfold jvB at h
  simp only [Bool.and_eq_true] at h
  exact ((valid_iff s n).1 h.1.1).2.2.2.1

theorem info_bs : (Tryz.prog.info? 22).map (fun i => (i.zero, i.size, i.bytes)) = some (some (.slice none 0 0), 1, 24) := by kernel_rfl
/-- between two rounds -/
def LkI (w : World) (b : List UInt8) (base Bc r2 r3 a gen : Nat) (Pv : Nat → Prop) (pre : List At) (W : World) : Prop :=
  ∃ v its, Bk W Bc 61 #[.int .i64 (a : Int), .int .u32 (gen : Int), v, .int .i64 (endOf pre 5 : Int), .bool true] ∧ Rw base its v W ∧ its.map (·.2.2) = pre.map (·.d) ∧ (∀ x ∈ pre, x.good = true) ∧ endOf pre 5 ≤ b.length ∧ (∀ x ∈ pre, x.d.length ≤ b.length) ∧
    Bk W r2 61 #[.int .i64 0, .int .u32 0, .slice none 0 0, .int .i64 0, .bool false] ∧ Bk W r3 29 #[.int .i64 0] ∧ (¬ Pv Bc ∧ ¬ Pv r2 ∧ ¬ Pv r3 ∧ (∀ g, v.ownBlock = some g → ¬ Pv g) ∧ ∀ x ∈ its, ∀ g, (cellB x).ownBlock = some g → ¬ Pv g) ∧ Below w.heap.size w W ∧ (∀ k, Pv k → w.heap.size ≤ k) ∧ base ≤ W.heap.size
theorem below_out {w W W' : World} {Pv : Nat → Prop} (hb : Below w.heap.size w W) (hs : SameOut Pv W W') (hl : ∀ k, Pv k → w.heap.size ≤ k) : Below w.heap.size w W' :=
  hb.trans ⟨hs.os, hs.tape, hs.output, hs.size, fun k hk => hs.block k (by have := hb.size; omega) (fun h => by have := hl _ h; omega)⟩
theorem LkI.steady (w : World) (b : List UInt8) (base Bc r2 r3 a gen : Nat) : Steady (LkI w b base Bc r2 r3 a gen) := by
  rintro Pv Pv' pre W W' ⟨v, its, h1, h2, h3, h4, h5, h5', h6, h7, ⟨n1, n2, n3, n4, n5⟩, hb, hl, hz⟩ hs hp
  have lift : ∀ k, k < W.heap.size → ¬ Pv k → ¬ Pv' k := fun k hk hn h => by
    rcases hp k h with h | h
    · exact hn h
    · omega
  refine ⟨v, its, bkS h1 hs n1, h2.keep (fun g hg => hs.block g (own_lt h2.1 hg).2 (n4 g hg)) (fun x hx g hg => hs.block g (own_lt (h2.2 x hx) hg).2 (n5 x hx g hg)), h3, h4, h5, h5', bkS h6 hs n2, bkS h7 hs n3, ⟨lift _ h1.lt n1, lift _ h6.lt n2, lift _ h7.lt n3, fun g hg => lift _ (own_lt h2.1 hg).2 (n4 g hg), fun x hx g hg => lift _ (own_lt (h2.2 x hx) hg).2 (n5 x hx g hg)⟩, below_out hb hs hl, ?_, Nat.le_trans hz hs.size⟩
  intro k h
  rcases hp k h with h | h
  · exact hl k h
  · have := hb.size; omega
/-- behind a record that is wrong -/
def LkX (w : World) (b : List UInt8) (r2 r3 : Nat) (c : Code) (Pv : Nat → Prop) (_ : List At) (W : World) : Prop :=
  c = .ret ∧ scanA b = none ∧ Bk W r2 61 #[.int .i64 0, .int .u32 0, .slice none 0 0, .int .i64 0, .bool false] ∧ Bk W r3 29 #[.int .i64 11] ∧ (¬ Pv r2 ∧ ¬ Pv r3) ∧ Below w.heap.size w W ∧ (∀ k, Pv k → w.heap.size ≤ k)
theorem LkX.steady (w : World) (b : List UInt8) (r2 r3 : Nat) (c : Code) : Steady (LkX w b r2 r3 c) := by
  rintro Pv Pv' pre W W' ⟨h0, h1, h6, h7, ⟨n2, n3⟩, hb, hl⟩ hs hp
  have lift : ∀ k, k < W.heap.size → ¬ Pv k → ¬ Pv' k := fun k hk hn h => by
    rcases hp k h with h | h
    · exact hn h
    · omega
  refine ⟨h0, h1, bkS h6 hs n2, bkS h7 hs n3, ⟨lift _ h6.lt n2, lift _ h7.lt n3⟩, below_out hb hs hl, ?_⟩
  intro k h
  rcases hp k h with h | h
  · exact hl k h
  · have := hb.size; omega
/-- ahead of a round's body -/
def MidJ (w : World) (b : List UInt8) (base Bc r2 r3 a gen : Nat) (tm : At → Value → Array Value) (Pv : Nat → Prop) (pre : List At) (x : At) (f : Act) (W : World) : Prop :=
  LkI w b base Bc r2 r3 a gen Pv pre W ∧ OkAt b w.heap.size Pv x W ∧ (∀ k, Pv k → k < W.heap.size) ∧ ∃ Bx, Bk W Bx 93 #[.int .i64 (x.fr : Int), .int .i64 (x.to : Int), .slice x.A x.d.length x.c, .bool x.good] ∧ ¬ Pv Bx ∧ f = { tmps := tm x (.pointer (some ⟨Bx, 0, none⟩)), defers := [] }
theorem MidJ.steady (w : World) (b : List UInt8) (base Bc r2 r3 a gen : Nat) (tm : At → Value → Array Value) (Pv : Nat → Prop) (pre : List At) (x : At) (f : Act) (W W' : World) (h : MidJ w b base Bc r2 r3 a gen tm Pv pre x f W) (hs : SameOut Pv W W') : MidJ w b base Bc r2 r3 a gen tm Pv pre x f W' := by
  obtain ⟨h1, h2, h3, Bx, h4, h5, h6⟩ := h
  have hb := h1
  obtain ⟨v, its, _, _, _, _, _, _, _, _, _, hb, hl, hz⟩ := hb
  exact ⟨LkI.steady w b base Bc r2 r3 a gen _ _ _ _ _ h1 hs (fun k h => .inl h), ⟨rdB_out h2.1 hs hb.size hl, h2.2⟩, fun k h => Nat.lt_of_lt_of_le (h3 k h) hs.size, Bx, bkS h4 hs h5, h5, h6⟩

set_option maxHeartbeats 1500000 in
theorem look_any (m : Mem) (A : Option Addr) (c : Nat) (w : World) (hA : RdB w w.heap.size A m.2) (hc : m.2.length ≤ c) :
    Calls Tryz.prog 36 #[.agg #[.int .i64 m.1, .slice A m.2.length c]] w (lookPost m w) := by
  have HA := Lib.hid hA
  clear hA
  by_cases hv : jvB m.1 m.2.length = true
  · have h32 := jv_len hv
    have h4k := jv_max hv
    obtain ⟨b, o, rfl, hbb, _⟩ := HA.out.addr (by omega)
    cases hq : curO m with
    | none =>
      have HI := Lib.hid (look_none hv hq)
      have HV := Lib.hid hv
      have HQ := Lib.hid hq
      clear hv hq
      go_enter Tryz.func36, Tryz.ntmps36
      go_wp2_with fail
      obtain ⟨U, hU⟩ : ∃ Zz, Zz = (((w.alloc (.cells #[.int .i64 m.1, .slice (some ⟨b, o, none⟩) m.2.length c] 24)).alloc (.cells #[.int .i64 0, .int .u32 0, .slice none 0 0, .int .i64 0, .bool false] 61)).alloc (.cells #[.int .i64 0] 29)) := ⟨_, rfl⟩
      have hbU : Below w.heap.size w U := by rw [hU]; exact al3 _ _ _ _
      have k1 : Bk U w.heap.size 24 #[.int .i64 m.1, .slice (some ⟨b, o, none⟩) m.2.length c] := by rw [hU]; exact ((Bk.new _ _ _).alloc _).alloc _
      have k2 : Bk U (w.heap.size + 1) 61 #[.int .i64 0, .int .u32 0, .slice none 0 0, .int .i64 0, .bool false] := by rw [hU]; exact bkOf (by simp [at?_alloc])
      have k3 : Bk U (w.heap.size + 1 + 1) 29 #[.int .i64 0] := by rw [hU]; exact bkOf (by simp [at?_alloc])
      rw [← hU]
      clear hU
      refine (valid_lit true m.1 (some ⟨b, o, none⟩) m.2.length c U HV.out).mono ?_
      rintro e V ⟨rfl, hbV⟩
      replace k1 := k1.next hbV
      replace k2 := k2.next hbV
      replace k3 := k3.next hbV
      have HB := Lib.hid (bt hbV hbU)
      clear hbU hbV
      obtain ⟨c10, c11⟩ := box2 k1
      go_wp2_with fail
      refine (current_none m m.2.length b o c _ rfl h32 (by omega) hc (HA.out.next HB.out) HQ.out).mono ?_
      rintro e V2 ⟨rfl, hbV⟩
      clear c10 c11
      replace k1 := k1.next hbV
      replace k2 := k2.next hbV
      replace k3 := k3.next hbV
      replace HB := Lib.hid (bt hbV HB.out)
      clear hbV
      obtain ⟨c10, c11⟩ := box2 k1
      obtain ⟨c20, c21, c22, c23, c24⟩ := box5 k2
      have c3 := box1 k3
      have f20 := k2.frozen 0
      have f21 := k2.frozen 1
      have f22 := k2.frozen 2
      have f23 := k2.frozen 3
      have f24 := k2.frozen 4
      have f3 := k3.frozen 0
      clear k1
      go_wp2
      obtain ⟨X, hX⟩ : ∃ Zz, Zz = ((((((V2.setCell ⟨w.heap.size + 1, 0, none⟩ (.int .i64 0)).setCell ⟨w.heap.size + 1, 1, none⟩ (.int .u32 0)).setCell ⟨w.heap.size + 1, 2, none⟩ (.slice none 0 0)).setCell ⟨w.heap.size + 1, 3, none⟩ (.int .i64 0)).setCell ⟨w.heap.size + 1, 4, none⟩ (.bool false)).setCell ⟨w.heap.size + 1 + 1, 0, none⟩ (.int .i64 4)) := ⟨_, rfl⟩
      rw [← hX]
      obtain ⟨z2, z3, _, zb⟩ := set6 k2 k3 hX
      obtain ⟨q20, q21, q22, q23, q24⟩ := box5 z2
      have q3 := box1 z3
      clear hX
      refine bodyPost_ret (v := .tuple #[.agg #[.int .i64 0, .int .u32 0, .slice none 0 0, .int .i64 0, .bool false], .int .i64 4]) (by simp [results, Tryz.results36, go_sem, q20, q21, q22, q23, q24, q3]) rfl ?_
      exact lookBad HI.out (HB.out.trans (zb _ (by omega) (by omega)))
    | some a =>
      have ha := curO_le hq
      have HV := Lib.hid hv
      have HQ := Lib.hid hq
      clear hv hq
      refine (callsIn_wide (n := 9)).1 ?_
      refine callsIn_of_wp_marks Tryz.func36 rfl trivial ?_ rfl
      simp only [Tryz.ntmps36, List.size_toArray, List.length_cons, List.length_nil, Nat.reduceAdd, Nat.reduceSub, Array.replicate_succ, Array.replicate_zero, List.push_toArray, List.append_toArray, List.nil_append, List.cons_append]
      gi_wp2_with fail
      refine ⟨trivial, ?_⟩
      obtain ⟨U, hU⟩ : ∃ Zz, Zz = (((w.alloc (.cells #[.int .i64 m.1, .slice (some ⟨b, o, none⟩) m.2.length c] 24)).alloc (.cells #[.int .i64 0, .int .u32 0, .slice none 0 0, .int .i64 0, .bool false] 61)).alloc (.cells #[.int .i64 0] 29)) := ⟨_, rfl⟩
      have hbU : Below w.heap.size w U := by rw [hU]; exact al3 _ _ _ _
      have k1 : Bk U w.heap.size 24 #[.int .i64 m.1, .slice (some ⟨b, o, none⟩) m.2.length c] := by rw [hU]; exact ((Bk.new _ _ _).alloc _).alloc _
      have k2 : Bk U (w.heap.size + 1) 61 #[.int .i64 0, .int .u32 0, .slice none 0 0, .int .i64 0, .bool false] := by rw [hU]; exact bkOf (by simp [at?_alloc])
      have k3 : Bk U (w.heap.size + 1 + 1) 29 #[.int .i64 0] := by rw [hU]; exact bkOf (by simp [at?_alloc])
      rw [← hU]
      clear hU
      refine (callsIn_wide.2 (valid_lit true m.1 (some ⟨b, o, none⟩) m.2.length c U HV.out)).mono ?_
      rintro e V ⟨rfl, hbV⟩
      replace k1 := k1.next hbV
      replace k2 := k2.next hbV
      replace k3 := k3.next hbV
      have HB := Lib.hid (bt hbV hbU)
      clear hbU hbV
      obtain ⟨c10, c11⟩ := box2 k1
      gi_wp2_with fail
      refine ⟨trivial, ?_⟩
      refine (callsIn_wide.2 (current_some m m.2.length b o c a _ rfl h32 (by omega) hc (HA.out.next HB.out) HQ.out)).mono ?_
      rintro e V2 ⟨rfl, hbV⟩
      clear c10 c11
      replace k1 := k1.next hbV
      replace k2 := k2.next hbV
      replace k3 := k3.next hbV
      replace HB := Lib.hid (bt hbV HB.out)
      clear hbV
      obtain ⟨c10, c11⟩ := box2 k1
      gi_wp2_with fail
      refine ⟨trivial, ?_⟩
      refine (callsIn_wide.2 (area_any m.1 b o m.2.length c a ha _ h32 (by omega) hc)).mono ?_
      rintro e V3 ⟨rfl, hbV⟩
      clear c10 c11
      replace k1 := k1.next hbV
      replace k2 := k2.next hbV
      replace k3 := k3.next hbV
      replace HB := Lib.hid (bt hbV HB.out)
      clear hbV
      obtain ⟨B, hB⟩ : ∃ B, B = areaB m a := ⟨_, rfl⟩
      obtain ⟨n2, hn2⟩ : ∃ n2, n2 = m.2.length / 2 := ⟨_, rfl⟩
      rw [← hn2]
      have hBl : B.length = n2 := by rw [hB, areaB_length m ha, hn2]; rfl
      have h16 : 16 ≤ n2 := by omega
      have h2k : n2 ≤ 2048 := by omega
      have hRB : RdB w w.heap.size (some ⟨b, o + a * n2, none⟩) B := by
        rw [hB]; unfold areaB hf; rw [← hn2]
        exact RdB.part HA.out (a * n2) n2 (by omega) (by have : a * n2 ≤ 1 * n2 := Nat.mul_le_mul_right _ ha; omega)
      obtain ⟨ob, hob⟩ : ∃ ob, ob = o + a * n2 := ⟨_, rfl⟩
      rw [← hob] at hRB ⊢
      have HRB := Lib.hid hRB
      have HBE := Lib.hid hB
      subst hBl
      clear hRB hB hob hn2
      have i1 : (5 : Int) ≤ (B.length : Int) := by omega
      have j1 : ¬ B.length = 1 := by omega
      have gl : num4 (B.getD 1 0) (B.getD 2 0) (B.getD 3 0) (B.getD 4 0) < 4294967296 := num4_lt _ _ _ _
      have HNB := Lib.hid (number_b (B.getD 1 0) (B.getD 2 0) (B.getD 3 0) (B.getD 4 0) (some ⟨b, ob + 1, none⟩) (B.length - 1) V3 (four_of (HRB.out.next HB.out) (by omega)))
      gi_wp2_with fail
      refine ⟨trivial, ?_⟩
      refine (callsIn_wide.2 HNB.out).mono ?_
      rintro e V4 ⟨rfl, hbV⟩
      clear HNB
      replace k1 := k1.next hbV
      replace k2 := k2.next hbV
      replace k3 := k3.next hbV
      replace HB := Lib.hid (bt hbV HB.out)
      clear hbV
      obtain ⟨gen, hgen⟩ : ∃ g, g = genB B := ⟨_, rfl⟩
      rw [show num4 (B.getD 1 0) (B.getD 2 0) (B.getD 3 0) (B.getD 4 0) = gen from hgen.symm]
      rw [show num4 (B.getD 1 0) (B.getD 2 0) (B.getD 3 0) (B.getD 4 0) = gen from hgen.symm] at gl
      have HGEN := Lib.hid hgen
      clear hgen
      gi_wp2_with fail
      refine ⟨trivial, ?_⟩
      obtain ⟨U5, hU5⟩ : ∃ Zz, Zz = V4.alloc (.cells #[.int .i64 (a : Int), .int .u32 (gen : Int), .slice none 0 0, .int .i64 5, .bool true] 61) := ⟨_, rfl⟩
      have hbU5 : Below V4.heap.size V4 U5 := by rw [hU5]; exact al1 _ _
      have k4 : Bk U5 V4.heap.size 61 #[.int .i64 (a : Int), .int .u32 (gen : Int), .slice none 0 0, .int .i64 5, .bool true] := by rw [hU5]; exact Bk.new _ _ _
      rw [← hU5]
      clear hU5
      refine (callsIn_wide.2 (records_any (some ⟨b, ob, none⟩) B.length B.length U5)).mono ?_
      rintro e R ⟨rfl, hR⟩
      have kl : Bk R U5.heap.size 22 #[.slice (some ⟨b, ob, none⟩) B.length B.length] := by rw [hR]; exact Bk.new _ _ _
      have hbR : Below U5.heap.size U5 R := by rw [hR]; exact al1 _ _
      have hRs : R.heap.size = U5.heap.size + 1 := by rw [hR]; simp
      clear hR
      have hU5 : V4.heap.size < U5.heap.size := k4.lt
      have hs4 : w.heap.size + 1 + 1 < V4.heap.size := k3.lt
      replace k2 := (k2.next hbU5).next hbR
      replace k3 := (k3.next hbU5).next hbR
      replace k4 := k4.next hbR
      replace HB := Lib.hid (bt hbR (bt hbU5 HB.out))
      obtain ⟨Bc, hBc⟩ : ∃ Bc, Bc = V4.heap.size := ⟨_, rfl⟩
      rw [← hBc] at k4 hU5 hs4 ⊢
      have HSEQ := Lib.hid (records_seq B b ob B.length U5.heap.size w.heap.size R (fun k => k = Bc ∨ k = w.heap.size + 1 ∨ k = w.heap.size + 1 + 1 ∨ R.heap.size ≤ k) kl (Nat.le_refl _) (HRB.out.below HB.out) HB.out.size (by omega) (by intro k h; omega) (by omega) (by omega))
      have HK := Lib.hid (⟨k2, k3, k4⟩ : _ ∧ _ ∧ _)
      have HRS := Lib.hid hRs
      clear hbU5 hbR kl k1 k2 k3 k4 hBc hRs
      gi_wp2_with fail
      refine wpIn_rangeFunc_G (gf := 81) (lb := #[.pointer (some ⟨U5.heap.size, 0, none⟩)]) rfl (enters_of Tryz.func81 (by kernel_rfl) rfl) HSEQ.out
        (SameOut.refl _ _) (fun k h => .inr (.inr (.inr h))) (fun _ => rfl) (fun _ _ _ _ h _ _ _ => h) (LkI w B R.heap.size Bc (w.heap.size + 1) (w.heap.size + 1 + 1) a gen) (LkX w B (w.heap.size + 1) (w.heap.size + 1 + 1)) (LkI.steady _ _ _ _ _ _ _ _) (LkX.steady _ _ _ _) ?h0
        (MidJ w B R.heap.size Bc (w.heap.size + 1) (w.heap.size + 1 + 1) a gen (fun x q => #[.agg #[.int .i64 m.1, .slice (some ⟨b, o, none⟩) m.2.length c], .pointer (some ⟨w.heap.size, 0, none⟩), .pointer (some ⟨w.heap.size + 1, 0, none⟩), .pointer (some ⟨w.heap.size + 1 + 1, 0, none⟩), .int .i64 (a : Int), .int .i64 0, .slice (some ⟨b, ob, none⟩) B.length B.length, .pointer (some ⟨Bc, 0, none⟩), q, undef, undef, .agg #[.int .i64 m.1, .slice (some ⟨b, o, none⟩) m.2.length c], .bool true, .bool false, undef, .tuple #[.int .i64 (a : Int), .int .i64 0], .agg #[.int .i64 m.1, .slice (some ⟨b, o, none⟩) m.2.length c], .tuple #[.int .i64 (a : Int), .int .i64 0], .int .i64 (a : Int), .int .i64 0, .int .i64 0, .bool false, undef, undef, .agg #[.int .i64 m.1, .slice (some ⟨b, o, none⟩) m.2.length c], .int .i64 (a : Int), .slice (some ⟨b, ob, none⟩) B.length B.length, .int .i64 (a : Int), .slice (some ⟨b, ob, none⟩) B.length B.length, .slice (some ⟨b, ob + 1, none⟩) 4 (B.length - 1), .int .u32 (gen : Int), .agg #[.int .i64 (a : Int), .int .u32 (gen : Int), .slice none 0 0, .int .i64 5, .bool true], .slice (some ⟨b, ob, none⟩) B.length B.length, .func (.func 81) #[] #[.pointer (some ⟨U5.heap.size, 0, none⟩)], .agg #[.int .i64 (x.fr : Int), .int .i64 (x.to : Int), .slice x.A x.d.length x.c, .bool x.good], undef, undef, undef, undef, undef, undef, undef, undef, undef, undef, undef, undef, undef, undef, undef, undef, undef, undef, undef, undef, undef, undef, undef, undef, undef, undef, undef, undef, undef, undef, undef, undef, undef, undef])) (MidJ.steady _ _ _ _ _ _ _ _ _) ?assign ?body ?done ?stop
      case h0 =>
        intro Pv hP
        obtain ⟨k2, k3, k4⟩ := HK.out
        have := HRS.out
        exact ⟨.slice none 0 0, [], k4, Rw.nil _ _, rfl, by simp, by show 5 ≤ _; omega, by simp, k2, k3, ⟨fun h => by have := hP _ h; omega, fun h => by have := hP _ h; omega, fun h => by have := hP _ h; omega, fun g h => by simp [Value.ownBlock] at h, by simp⟩, HB.out, fun k h => by have := hP k h; omega, Nat.le_refl _⟩
      case assign =>
        intro lp Pv pre x W hi hok hPw hlen hsz
        have HC := Lib.hid hi
        have HO := Lib.hid hok
        have HP := Lib.hid hPw
        have hBW : w.heap.size ≤ W.heap.size := by obtain ⟨v, its, _, _, _, _, _, _, _, _, _, hb, _⟩ := hi; exact hb.size
        clear hi hok hPw
        dsimp only [encAt]
        gi_wp2
        exact ⟨SameIn.alloc _ _ _, SameOut.alloc _ _ _, LkI.steady _ _ _ _ _ _ _ _ _ _ _ _ _ HC.out (SameOut.alloc _ _ _) (fun k h => .inl h), ⟨HO.out.1.below ((Below.refl _ W).alloc hBW _), HO.out.2⟩, fun k h => by have := HP.out k h; simp; omega, W.heap.size, Bk.new _ _ _, fun h => by have := HP.out _ h; omega, rfl⟩
      case body =>
        rintro lp Pv pre x a₁ W ⟨⟨v, its, kc, hrw, hmap, hall, hend, hlens, k2, k3, ⟨n1, n2, n3, n4, n5⟩, hbw, hPl, hbase⟩, ⟨ok1, ok2, ok3, ok4, ok5⟩, hPw, Bx, kx, npx, rfl⟩ hlen hsz
        obtain ⟨x0, x1, x2, x3⟩ := box4 kx
        cases hg : x.good with
        | false =>
          obtain ⟨f20, f21, f22, f23, f24⟩ : W.frozen? ⟨w.heap.size + 1, 0, none⟩ = false ∧ W.frozen? ⟨w.heap.size + 1, 1, none⟩ = false ∧ W.frozen? ⟨w.heap.size + 1, 2, none⟩ = false ∧ W.frozen? ⟨w.heap.size + 1, 3, none⟩ = false ∧ W.frozen? ⟨w.heap.size + 1, 4, none⟩ = false := ⟨k2.frozen 0, k2.frozen 1, k2.frozen 2, k2.frozen 3, k2.frozen 4⟩
          obtain ⟨c20, c21, c22, c23, c24⟩ := box5 k2
          have c3 := box1 k3
          have f3 := k3.frozen 0
          rw [hg] at x3
          have HX := Lib.hid (⟨hbw, hPl, n2, n3, ok5 hg⟩ : _ ∧ _ ∧ _ ∧ _ ∧ _)
          clear hbw hPl n1 n2 n3 n4 n5 ok1 ok5 hall hlens hmap
          gi_wp2
          obtain ⟨X, hX⟩ : ∃ Zz, Zz = ((((((W.setCell ⟨w.heap.size + 1, 0, none⟩ (.int .i64 0)).setCell ⟨w.heap.size + 1, 1, none⟩ (.int .u32 0)).setCell ⟨w.heap.size + 1, 2, none⟩ (.slice none 0 0)).setCell ⟨w.heap.size + 1, 3, none⟩ (.int .i64 0)).setCell ⟨w.heap.size + 1, 4, none⟩ (.bool false)).setCell ⟨w.heap.size + 1 + 1, 0, none⟩ (.int .i64 11)) := ⟨_, rfl⟩
          rw [← hX]
          obtain ⟨z2, z3, zs, zb⟩ := set6 k2 k3 hX
          clear hX
          obtain ⟨hbw, hPl, n2, n3, hsc⟩ := HX.out
          exact ⟨⟨zs.size, fun i hi hp => zs.block i hi (by rintro (rfl | rfl); exact n2 hp; exact n3 hp)⟩, zs.more (by rintro i (rfl | rfl); exact .inr (.inl rfl); exact .inr (.inr (.inl rfl))), rfl, hsc, z2, z3, ⟨n2, n3⟩, hbw.trans (zb _ (by omega) (by omega)), hPl⟩
        | true =>
          rw [hg] at x3
          obtain ⟨c0, c1, c2, c3, c4⟩ := box5 kc
          have f2 := kc.frozen 2
          obtain ⟨i0, hi, hz0, hz1, hz2⟩ := info_parts info_u8
          obtain ⟨i1, hj, hw0, hw1, hw2⟩ := info_parts info_bs
          have hil : its.length ≤ 3000 := by have : its.length = pre.length := by simpa using congrArg List.length hmap
                                             omega
          have KX := Lib.hid kx
          have HF := Lib.hid (⟨kc, hrw, hmap, hall, hend, hlens, k2, k3, (⟨n1, n2, n3, n4, n5⟩ : _ ∧ _ ∧ _ ∧ _ ∧ _), hbw, hPl, hbase⟩ : _ ∧ _ ∧ _ ∧ _ ∧ _ ∧ _ ∧ _ ∧ _ ∧ _ ∧ _ ∧ _ ∧ _)
          have OK1 := Lib.hid ok1
          have HPW := Lib.hid hPw
          have hcW := kc.lt
          have hbS := hbw.size
          clear hrw hmap hall hend hlens k2 k3 n1 n2 n3 n4 n5 hbw hPl ok1 ok5 hPw kc kx
          gi_wp2
          have HS0 : W.drew.cell? ⟨Bc, 2, none⟩ = some v ∧ W.drew.cell? ⟨Bx, 2, none⟩ = some (.slice x.A x.d.length x.c) := ⟨c2, x2⟩
          refine region_round (fun w' => w'.cell? ⟨Bc, 2, none⟩ = some v ∧ w'.cell? ⟨Bx, 2, none⟩ = some (.slice x.A x.d.length x.c)) 9 (by kernel_rfl) (by kernel_rfl) ?_
          refine anyS_take (i := 0) rfl (by kernel_rfl) (by kernel_rfl) (by kernel_rfl) (by kernel_rfl) (fun _ _ _ h => h) (Or.inl ⟨by rfl, fun w' hS' => (by obtain ⟨s1, s2⟩ := hS'; go_simp; try with_reducible rfl)⟩) HS0 ?_
          refine anyS_take (i := 1) rfl (by kernel_rfl) (by kernel_rfl) (by kernel_rfl) (by kernel_rfl) (fun _ _ _ h => h) (Or.inl ⟨by rfl, fun w' hS' => (by obtain ⟨s1, s2⟩ := hS'; go_simp; try with_reducible rfl)⟩) HS0 ?_
          refine anyS_take (i := 3) rfl (by kernel_rfl) (by kernel_rfl) (by kernel_rfl) (by kernel_rfl) (fun _ _ _ h => h) (Or.inl ⟨by rfl, fun w' hS' => (by obtain ⟨s1, s2⟩ := hS'; go_simp; try with_reducible rfl)⟩) HS0 ?_
          refine anyS_take (i := 4) rfl (by kernel_rfl) (by kernel_rfl) (by kernel_rfl) (by kernel_rfl) (fun _ _ _ h => h) (Or.inl ⟨by rfl, fun w' hS' => (by obtain ⟨s1, s2⟩ := hS'; go_simp; try with_reducible rfl)⟩) HS0 ?_
          clear HS0
          refine anyS_one (i := 2) (by kernel_rfl) rfl rfl (fun K hK => ?_)
          go_simp
          obtain ⟨U6, hU6⟩ : ∃ Zz, Zz = (W.alloc (.cells #[] 5)).drew := ⟨_, rfl⟩
          have hb6 : Below W.heap.size W U6 := by rw [hU6]; exact (al1 _ _).drew
          have k6 : Bk U6 W.heap.size 5 #[] := by rw [hU6]; exact (Bk.new _ _ _).drew
          have h6s : U6.heap.size = W.heap.size + 1 := by rw [hU6]; exact (by simp)
          rw [← hU6]
          clear hU6
          have OWN6 : Hid (U6.ownsRow R.heap.size 5 1 (.slice (some ⟨W.heap.size, 0, none⟩) 0 0) 0 []) := own_block k6 hbase (by simp)
          have OK6 := Lib.hid (OK1.out.below (hb6.mono hbS))
          refine hK _ _ (fun _ => ⟨(box5 (HF.out.1.next hb6)).2.2.1, (box4 (KX.out.next hb6)).2.2.1⟩) ?_
          clear hK K k6
          refine anyS_one (i := 5) (by kernel_rfl) rfl rfl (fun K hK => ?_)
          refine wp_append_rd _ (.tmp 41) (.tmp 43) _ (by rfl) R.heap.size 5 i0 _ 1 1 Tryz.underlying22 hi hz0 hz1 hz2 rfl (by omega) (.slice (some ⟨W.heap.size, 0, none⟩) 0 0) 0 [] (by rfl) OWN6.out w.heap.size x.A x.d.length x.c (u8s x.d) (by rfl) OK6.out (u8s_one _) (by simp only [maxLen]; omega) (by omega) (by omega) ?_
          intro v1 w1 hown1 hg1 hat1
          have hb1 : Below W.heap.size W w1 := hb6.grown hg1 (by omega) (by intro k hk; simp [Value.ownBlock] at hk; omega)
          have ho1 : w1.ownsRow R.heap.size 5 1 v1 x.d.length (u8s x.d) := by simpa using hown1
          obtain ⟨A1, q1, rfl, hq1, _⟩ := own_read ho1
          have HO1 := Lib.hid ho1
          have HA1 : Hid (∀ g, Value.ownBlock (.slice A1 x.d.length q1) = some g → W.heap.size ≤ g) := fun g hg => by
            rcases hat1 with h | h
            · have h' : Value.ownBlock (.slice A1 x.d.length q1) = some W.heap.size := by simpa [Value.ownBlock] using h
              rw [hg] at h'; injection h' with h'; omega
            · have h' : Value.ownBlock (.slice A1 x.d.length q1) = some U6.heap.size := by simpa [Value.ownBlock] using h
              rw [hg] at h'; injection h' with h'; omega
          refine hK _ _ (fun _ => ⟨(box5 (HF.out.1.next hb1)).2.2.1, (box4 (KX.out.next hb1)).2.2.1⟩) ?_
          clear hK K hown1 hg1 hat1 OWN6 OK6 hb6 ho1
          refine anyS_one (i := 6) (by kernel_rfl) rfl rfl (fun K hK => ?_)
          go_simp
          obtain ⟨w2, hw2⟩ : ∃ Zz, Zz = w1.alloc (.cells #[.slice A1 x.d.length q1] 22) := ⟨_, rfl⟩
          have hb2 : Below w1.heap.size w1 w2 := by rw [hw2]; exact al1 _ _
          have k7 : Bk w2 w1.heap.size 22 #[.slice A1 x.d.length q1] := by rw [hw2]; exact Bk.new _ _ _
          rw [← hw2]
          clear hw2
          have hb12 := bt hb2 hb1
          refine hK _ _ (fun _ => ⟨(box5 (HF.out.1.next hb12)).2.2.1, (box4 (KX.out.next hb12)).2.2.1⟩) ?_
          clear hK K
          have HR2 := Lib.hid (HF.out.2.1.next hb12)
          have HO2 := Lib.hid (own_on HO1.out hb2)
          have h2s := k7.lt
          have h12s := hb12.size
          refine anyS_one (i := 7) (by kernel_rfl) rfl rfl (fun K hK => ?_)
          refine wp_append_rd _ (.tmp 40) (.tmp 45) _ (by rfl) R.heap.size 22 i1 _ 1 24 Tryz.underlying47 hj hw0 hw1 hw2 rfl (by omega) v its.length (its.map cellB) (by rfl) HR2.out.1 w2.heap.size (some ⟨w1.heap.size, 0, none⟩) 1 1 [.slice A1 x.d.length q1] (by rfl) (rd_cells (t := 22) k7 h2s) (by simp [Value.oneCell']) (by simp only [maxLen]; omega) (by omega) (by omega) ?_
          intro v2 w3 hown2 hg2 hat2
          obtain ⟨A2, q2, rfl, hq2, _⟩ := own_read hown2
          have hwn : ∀ g, v.ownBlock = some g → R.heap.size ≤ g := fun g hg => (own_lt HR2.out.1 hg).1
          have hcn := own_ne HR2.out.1 (HF.out.1.next hb12) (by decide)
          have kc3 := Bk.grown (HF.out.1.next hb12) hg2 hcn
          obtain ⟨kcF, _, hmap, hall, hend, hlens, k2, k3, ⟨n1, n2, n3, n4, n5⟩, hbw, hPl, hbase⟩ := HF.out
          have k23 := Bk.grown (k2.next hb12) hg2 (own_ne HR2.out.1 (k2.next hb12) (by decide))
          have k33 := Bk.grown (k3.next hb12) hg2 (own_ne HR2.out.1 (k3.next hb12) (by decide))
          have hrw3 : Rw R.heap.size (its ++ [(A1, q1, x.d)]) (.slice A2 (its.length + 1) q2) w3 := Rw.snoc HR2.out HO2.out hown2 hg2
          have hx3 : Bk w3 Bx 93 _ := Bk.grown (KX.out.next hb12) hg2 (own_ne HR2.out.1 (KX.out.next hb12) (by decide))
          have hb3 : Below w.heap.size w w3 := (hbw.trans (hb12.mono hbS)).grown hg2 (by omega) (fun k hk => by have := hwn k hk; have := HRS.out; omega)
          have s1 : SameIn Pv W w3 := (SameIn.of_below hb12).trans (SameIn.grown hg2 n4)
          have s2 : SameOut (fun k => k = Bc ∨ k = w.heap.size + 1 ∨ k = w.heap.size + 1 + 1 ∨ R.heap.size ≤ k) W w3 := (SameOut.of_below hb12).trans ⟨hg2.os, hg2.tape, hg2.output, hg2.size, fun k hk hn => hg2.block k hk (fun e => hn (.inr (.inr (.inr (hwn k e.symm)))))⟩
          have n6 : ∀ g, Value.ownBlock (.slice A2 (its.length + 1) q2) = some g → ¬ Pv g := fun g hg hp => by
            rcases hat2 with h | h
            · exact n4 g (h ▸ hg) hp
            · rw [hg] at h; injection h with h; have := HPW.out g hp; omega
          have n7 : ∀ y ∈ its ++ [((A1, q1, x.d) : Itm)], ∀ g, (cellB y).ownBlock = some g → ¬ Pv g := fun y hy g hg hp => by
            rcases List.mem_append.1 hy with h | h
            · exact n5 y h g hg hp
            · obtain rfl : y = (A1, q1, x.d) := by simpa using h
              have := HA1.out g hg; have := HPW.out g hp; omega
          have G9 := Lib.hid (⟨hrw3, hmap, hall, hend, hlens, k23, k33, (⟨n1, n2, n3, n6, n7⟩ : _ ∧ _ ∧ _ ∧ _ ∧ _), hb3, hPl, s1, s2⟩ : _ ∧ _ ∧ _ ∧ _ ∧ _ ∧ _ ∧ _ ∧ _ ∧ _ ∧ _ ∧ _ ∧ _)
          have KC3 := Lib.hid kc3
          have h3s : R.heap.size ≤ w3.heap.size := by have := s1.size; omega
          refine hK _ _ (fun _ => ⟨(box5 kc3).2.2.1, (box4 hx3).2.2.1⟩) ?_
          clear hK K hown2 hg2 hat2 hwn hcn kc3 kcF hmap hall hend hlens k2 k3 n1 n2 n3 n4 n5 n6 n7 hbw hPl hbase k23 k33 hrw3 hb3 s1 s2 HF HR2 HO1 HO2 HA1 hb12 hb1 hb2 k7 OK1 c0 c1 c2 c3 c4 f2 x0 x1 x2 x3
          obtain ⟨c0, c1, c2, c3, c4⟩ := box5 KC3.out
          obtain ⟨x0, x1, x2, x3⟩ := box4 hx3
          have f2 := KC3.out.frozen 2
          refine anyS_one (i := 8) (by kernel_rfl) rfl rfl (fun K hK => ?_)
          go_simp
          refine hK _ _ (fun _ => ⟨c2, x2⟩) ?_
          clear hK K
          refine anyS_one (i := 9) (by kernel_rfl) rfl rfl (fun K hK => ?_)
          go_simp
          refine hK _ _ (fun h => absurd rfl h) ?_
          clear hK K
          refine anyS_done (by kernel_rfl) ?_ _
          simp only [normPost]
          have hxn : Bx ≠ Bc := Bk.ne hx3 KC3.out (by decide)
          obtain ⟨w4, hw4⟩ : ∃ Zz, Zz = w3.setCell ⟨Bc, 2, none⟩ (.slice A2 (its.length + 1) q2) := ⟨_, rfl⟩
          have kc4 : Bk w4 Bc 61 #[.int .i64 (a : Int), .int .u32 (gen : Int), .slice A2 (its.length + 1) q2, .int .i64 (endOf pre 5 : Int), .bool true] := by rw [hw4]; simpa using KC3.out.set 2 (.slice A2 (its.length + 1) q2)
          have kx4 : Bk w4 Bx 93 #[.int .i64 (x.fr : Int), .int .i64 (x.to : Int), .slice x.A x.d.length x.c, .bool x.good] := by rw [hw4]; exact hx3.far (p := ⟨Bc, 2, none⟩) hxn _
          rw [← hw4]
          have HW4 := Lib.hid hw4
          clear hw4 c0 c1 c2 c3 c4 f2 x0 x1 x2 x3
          obtain ⟨c0, c1, c2, c3, c4⟩ := box5 kc4
          obtain ⟨x0, x1, x2, x3⟩ := box4 kx4
          have f3 := kc4.frozen 3
          gi_wp2
          have hkc5 := kc4.set 3 (.int .i64 (x.to : Int))
          obtain ⟨w5, hw5⟩ : ∃ Zz, Zz = w4.setCell ⟨Bc, 3, none⟩ (.int .i64 (x.to : Int)) := ⟨_, rfl⟩
          rw [← hw5] at hkc5 ⊢
          obtain ⟨hrw3, hmap, hall, hend, hlens, k23, k33, ⟨n1, n2, n3, n6, n7⟩, hb3, hPl, s1, s2⟩ := G9.out
          have e35 : ∀ g, g ≠ Bc → w5.heap[g]? = w3.heap[g]? := fun g hg => by
            rw [hw5, HW4.out]
            exact (Below.heap_setCell _ ⟨Bc, 3, none⟩ _ g hg).trans (Below.heap_setCell _ ⟨Bc, 2, none⟩ _ g hg)
          have t1 : SameOut (fun k => k = Bc) w3 w5 := by rw [hw5, HW4.out]; exact (SameOut.setCell (Pv := fun k => k = Bc) w3 (a := ⟨Bc, 2, none⟩) rfl _).trans (SameOut.setCell (Pv := fun k => k = Bc) _ (a := ⟨Bc, 3, none⟩) rfl _)
          refine ⟨s1.trans ⟨t1.size, fun i hi hp => t1.block i hi (fun e => n1 (e ▸ hp))⟩, s2.trans (t1.more fun k h => .inl h), .slice A2 (its.length + 1) q2, its ++ [(A1, q1, x.d)], ?_, hrw3.keep (fun g hg => e35 g (fun e => own_ne hrw3.1 KC3.out (by decide) (by rw [hg, e]))) (fun y hy g hg => e35 g (fun e => own_ne (hrw3.2 y hy) KC3.out (by decide) (by rw [hg, e]))), by simp [hmap], ?_, ?_, ?_, bkS k23 t1 (by omega), bkS k33 t1 (by omega), ⟨n1, n2, n3, n6, n7⟩, ?_, hPl, by have := t1.size; omega⟩
          · rw [endOf_snoc]; simpa using hkc5
          · intro y hy
            rcases List.mem_append.1 hy with h | h
            · exact hall y h
            · obtain rfl : y = x := by simpa using h
              exact hg
          · rw [endOf_snoc]; exact ok3
          · intro y hy
            rcases List.mem_append.1 hy with h | h
            · exact hlens y h
            · obtain rfl : y = x := by simpa using h
              exact ok4
          · exact hb3.trans ⟨t1.os, t1.tape, t1.output, t1.size, fun k hk => t1.block k (by have := hb3.size; omega) (by omega)⟩
      case done =>
        rintro D Pv xs W hD hS hPD ⟨v, its, kc, hrw, hmap, hall, hend, hlens, k2, k3, ⟨n1, n2, n3, n4, n5⟩, hbw, hPl, hbase⟩ hK
        have hsc : scanA B = some (xs.map (·.d), endOf xs 5) := hS.resolve_right (by rintro ⟨x, hx, he⟩; rw [hall x hx] at he; cases he)
        obtain ⟨A9, q9, rfl, hq9, _⟩ := own_read hrw.1
        obtain ⟨en, hen⟩ : ∃ en, en = endOf xs 5 := ⟨_, rfl⟩
        rw [← hen] at hend kc hsc
        have HL := Lib.hid (look_ok HV.out HQ.out (by rw [← HBE.out]; exact hsc))
        have HF := Lib.hid (⟨kc, hrw, hmap, k2, k3, (⟨n1, n2, n3, n4, n5⟩ : _ ∧ _ ∧ _ ∧ _ ∧ _), hbw, hPl, hbase⟩ : _ ∧ _ ∧ _ ∧ _ ∧ _ ∧ _ ∧ _ ∧ _ ∧ _)
        obtain ⟨c0, c1, c2, c3, c4⟩ := box5 kc
        have HK9 := Lib.hid hK
        have e1 : (en : Int) ≤ (B.length : Int) := by omega
        have e2 : (0 : Int) ≤ (en : Int) := by omega
        have hcW := kc.lt
        clear kc hrw hmap hall hlens k2 k3 n1 n2 n3 n4 n5 hbw hPl hen hK hS hsc
        by_cases hz : B.length = en
        · gi_wp2
          gi_loopw [56] (fun i wr => ∃ k : Nat, i = .int .i64 (k : Int) ∧ k ≤ B.length - en ∧ Bk wr Bc 61 #[.int .i64 (a : Int), .int .u32 (gen : Int), .slice A9 its.length q9, .int .i64 (en : Int), .bool (((B.drop en).take k).all (· == 255))] ∧ SameOut (fun k => k = Bc) W wr) (fun i _ => B.length - en - (intOf i).toNat)
          case atStart => exact ⟨0, rfl, Nat.zero_le _, HF.out.1, SameOut.refl _ _⟩
          case round =>
            obtain ⟨k, rfl, hk, kc, hs⟩ := hrel
            have hnl : ¬ ((k : Int) < 0) := by omega
            obtain rfl : k = B.length - en := by omega
            have hcl : (((B.drop en).take (B.length - en)).all (· == 255)) = restB B en := by rw [List.take_of_length_le (by simp)]; rfl
            rw [hcl] at kc
            clear hcl
            obtain ⟨c0, c1, c2, c3, c4⟩ := box5 kc
            obtain ⟨cl, hcl⟩ : ∃ cl, cl = restB B en := ⟨_, rfl⟩
            rw [← hcl] at c4 kc
            have HCL := Lib.hid hcl
            clear hcl
            obtain ⟨_, hrw, hmap, k2, k3, ⟨n1, n2, n3, n4, n5⟩, hbw, hPl, hbase⟩ := HF.out
            have k2w := bkS k2 hs (by omega)
            have k3w := bkS k3 hs (by omega)
            have hrw2 := hrw.keep (W' := wr) (fun g hg => hs.block g (own_lt hrw.1 hg).2 (fun e => own_ne hrw.1 HF.out.1 (by decide) (by rw [hg, e]))) (fun y hy g hg => hs.block g (own_lt (hrw.2 y hy) hg).2 (fun e => own_ne (hrw.2 y hy) HF.out.1 (by decide) (by rw [hg, e])))
            have hK2 : wr.heap[D]? = some (.deferred (some [])) := (hs.block D (Array.getElem?_eq_some_iff.1 HK9.out).1 (by have := HRS.out; omega)).trans HK9.out
            have hbw2 : Below w.heap.size w wr := below_out hbw hs (by rintro k rfl; omega)
            have HQ9 := Lib.hid (⟨hrw2, hmap, hbw2, hK2⟩ : _ ∧ _ ∧ _ ∧ _)
            clear HF HK9 hrw hmap k2 k3 n1 n2 n3 n4 n5 hbw hPl hrw2 hK2 hbw2 hs
            obtain ⟨d20, d21, d22, d23, d24⟩ := box5 k2w
            have d3 := box1 k3w
            have f20 := k2w.frozen 0
            have f21 := k2w.frozen 1
            have f22 := k2w.frozen 2
            have f23 := k2w.frozen 3
            have f24 := k2w.frozen 4
            have f3 := k3w.frozen 0
            gi_wp2
            obtain ⟨X, hX⟩ : ∃ Zz, Zz = ((((((wr.setCell ⟨w.heap.size + 1, 0, none⟩ (.int .i64 (a : Int))).setCell ⟨w.heap.size + 1, 1, none⟩ (.int .u32 (gen : Int))).setCell ⟨w.heap.size + 1, 2, none⟩ (.slice A9 its.length q9)).setCell ⟨w.heap.size + 1, 3, none⟩ (.int .i64 (en : Int))).setCell ⟨w.heap.size + 1, 4, none⟩ (.bool cl)).setCell ⟨w.heap.size + 1 + 1, 0, none⟩ (.int .i64 0)) := ⟨_, rfl⟩
            rw [← hX]
            obtain ⟨z2, z3, zs, zb⟩ := set6 k2w k3w hX
            clear hX
            obtain ⟨hrw2, hmap, hbw2, hK2⟩ := HQ9.out
            have hK3 : X.heap[D]? = some (.deferred (some [])) := (zs.block D (Array.getElem?_eq_some_iff.1 hK2).1 (by have := HRS.out; omega)).trans hK2
            have hrw3 := hrw2.keep (W' := X) (fun g hg => zs.block g (own_lt hrw2.1 hg).2 (by rintro (e | e); exact own_ne hrw2.1 k2w (by decide) (by rw [hg, e]); exact own_ne hrw2.1 k3w (by decide) (by rw [hg, e]))) (fun y hy g hg => zs.block g (own_lt (hrw2.2 y hy) hg).2 (by rintro (e | e); exact own_ne (hrw2.2 y hy) k2w (by decide) (by rw [hg, e]); exact own_ne (hrw2.2 y hy) k3w (by decide) (by rw [hg, e])))
            have hbX : Below w.heap.size w X := hbw2.trans (zb _ (by omega) (by omega))
            have p2 : Bk (X.putObj D (.deferred none)) (w.heap.size + 1) 61 #[.int .i64 (a : Int), .int .u32 (gen : Int), .slice A9 its.length q9, .int .i64 (en : Int), .bool cl] := (World.putObj_heap_other (fun e => by rw [← e, show X.heap[w.heap.size + 1]? = _ from z2] at hK3; cases hK3)).trans z2
            have p3 : Bk (X.putObj D (.deferred none)) (w.heap.size + 1 + 1) 29 #[.int .i64 0] := (World.putObj_heap_other (fun e => by rw [← e, show X.heap[w.heap.size + 1 + 1]? = _ from z3] at hK3; cases hK3)).trans z3
            have hbY : Below w.heap.size w (X.putObj D (.deferred none)) := hbX.trans (belowK_b (w := w) (Nat.le_refl _) X D _ _ (by have := HB.out.size; omega) hK3 rfl rfl)
            have hrw4 : Rw R.heap.size its (.slice A9 its.length q9) (X.putObj D (.deferred none)) := ⟨ownsRow_putObj hrw3.1 (.deferred none) hK3 rfl, fun y hy => ownsRow_putObj (hrw3.2 y hy) (.deferred none) hK3 rfl⟩
            obtain ⟨q20, q21, q22, q23, q24⟩ := box5 p2
            have q3 := box1 p3
            refine ⟨by simp, .inl ⟨_, _, rfl, run_takeDeferred hK3, ?_⟩⟩
            refine ⟨.tuple #[.agg #[.int .i64 (a : Int), .int .u32 (gen : Int), .slice A9 its.length q9, .int .i64 (en : Int), .bool cl], .int .i64 0], by simp [results, Tryz.results36, go_sem, q20, q21, q22, q23, q24, q3], ?_⟩
            refine ⟨.slice A9 its.length q9, its, ?_, hrw4.mono HB.out.size, ?_, hbY⟩
            · rw [HL.out.1, HL.out.2, HCL.out, HGEN.out, HBE.out]
            · rw [HL.out.2]; exact hmap
        · have HLL : Hid (∀ W', SameOut (fun k => k = Bc) W W' → RdB W' w.heap.size (some ⟨b, ob + en, none⟩) (B.drop en)) := fun W' hs => by
            have h1 : RdB W w.heap.size (some ⟨b, ob, none⟩) B := HRB.out.below HF.out.2.2.2.2.2.2.1
            have h2 := RdB.part h1 en (B.length - en) (by omega) (by omega)
            rw [List.take_of_length_le (by simp)] at h2
            exact rdB_out h2 hs HF.out.2.2.2.2.2.2.1.size (by rintro k rfl; omega)
          gi_wp2
          gi_loopw [56] (fun i wr => ∃ k : Nat, i = .int .i64 (k : Int) ∧ k ≤ B.length - en ∧ Bk wr Bc 61 #[.int .i64 (a : Int), .int .u32 (gen : Int), .slice A9 its.length q9, .int .i64 (en : Int), .bool (((B.drop en).take k).all (· == 255))] ∧ SameOut (fun k => k = Bc) W wr) (fun i _ => B.length - en - (intOf i).toNat)
          case atStart => exact ⟨0, rfl, Nat.zero_le _, HF.out.1, SameOut.refl _ _⟩
          case round =>
            obtain ⟨k, rfl, hk, kc, hs⟩ := hrel
            by_cases hlt : k < B.length - en
            · obtain ⟨c0, c1, c2, c3, c4⟩ := box5 kc
              have f4 := kc.frozen 4
              obtain ⟨cl, hcl⟩ : ∃ cl, cl = (((B.drop en).take k).all (· == 255)) := ⟨_, rfl⟩
              rw [← hcl] at c4
              have hkl : k < (B.drop en).length := by simp; omega
              obtain ⟨b', o', e, hbb', z0⟩ := (HLL.out _ hs).at_ hkl
              obtain ⟨rfl, rfl⟩ : b = b' ∧ ob + en = o' := by simpa using e
              clear e
              obtain ⟨y, hy⟩ : ∃ y, y = (B.drop en)[k] := ⟨_, rfl⟩
              rw [← hy] at z0
              have HC1 : Hid (((B.drop en).take (k + 1)).all (· == 255) = (cl && (y == 255))) := by
                show _ = _
                rw [List.take_succ_eq_append_getElem hkl, List.all_append, ← hcl, ← hy]; simp
              have k1 : (0 : Int) ≤ (k : Int) := by omega
              have k2 : (k : Int) < (B.length : Int) - (en : Int) := by omega
              have HKC := Lib.hid kc
              have HSS := Lib.hid hs
              clear hcl hy kc hs
              have fin : ∀ bb : Bool, bb = (cl && (y == 255)) → Bk (wr.setCell ⟨Bc, 4, none⟩ (.bool bb)) Bc 61 #[.int .i64 (a : Int), .int .u32 (gen : Int), .slice A9 its.length q9, .int .i64 (en : Int), .bool (((B.drop en).take (k + 1)).all (· == 255))] ∧ SameOut (fun k => k = Bc) W (wr.setCell ⟨Bc, 4, none⟩ (.bool bb)) := fun bb hbb => ⟨by rw [HC1.out, ← hbb]; simpa using HKC.out.set 4 (.bool bb), HSS.out.trans (SameOut.setCell (Pv := fun k => k = Bc) _ (a := ⟨Bc, 4, none⟩) rfl _)⟩
              have HFIN := Lib.hid fin
              clear fin
              cases cl with
              | false =>
                gi_wp2
                go_roundw
                case rel => exact ⟨k + 1, by go_num, by omega, HFIN.out _ (by simp)⟩
                case measure => simp [intOf]; omega
              | true =>
                by_cases h255 : y = 255
                · have e255 : ((y.toNat : Int) == 255) = true := by rw [h255]; rfl
                  gi_wp2
                  go_roundw
                  case rel => exact ⟨k + 1, by go_num, by omega, HFIN.out _ (by simp [h255])⟩
                  case measure => simp [intOf]; omega
                · have e255 : ((y.toNat : Int) == 255) = false := by
                    rw [beq_eq_false_iff_ne]
                    intro e
                    exact h255 (UInt8.toNat_inj.1 (by have : y.toNat = 255 := by omega
                                                      exact this))
                  gi_wp2
                  go_roundw
                  case rel => exact ⟨k + 1, by go_num, by omega, HFIN.out _ (by simp [h255])⟩
                  case measure => simp [intOf]; omega
            · have hnl : ¬ ((k : Int) < (B.length : Int) - (en : Int)) := by omega
              obtain rfl : k = B.length - en := by omega
              have hcl : (((B.drop en).take (B.length - en)).all (· == 255)) = restB B en := by rw [List.take_of_length_le (by simp)]; rfl
              rw [hcl] at kc
              clear hcl
              obtain ⟨c0, c1, c2, c3, c4⟩ := box5 kc
              obtain ⟨cl, hcl⟩ : ∃ cl, cl = restB B en := ⟨_, rfl⟩
              rw [← hcl] at c4 kc
              have HCL := Lib.hid hcl
              clear hcl
              obtain ⟨_, hrw, hmap, k2, k3, ⟨n1, n2, n3, n4, n5⟩, hbw, hPl, hbase⟩ := HF.out
              have k2w := bkS k2 hs (by omega)
              have k3w := bkS k3 hs (by omega)
              have hrw2 := hrw.keep (W' := wr) (fun g hg => hs.block g (own_lt hrw.1 hg).2 (fun e => own_ne hrw.1 HF.out.1 (by decide) (by rw [hg, e]))) (fun y hy g hg => hs.block g (own_lt (hrw.2 y hy) hg).2 (fun e => own_ne (hrw.2 y hy) HF.out.1 (by decide) (by rw [hg, e])))
              have hK2 : wr.heap[D]? = some (.deferred (some [])) := (hs.block D (Array.getElem?_eq_some_iff.1 HK9.out).1 (by have := HRS.out; omega)).trans HK9.out
              have hbw2 : Below w.heap.size w wr := below_out hbw hs (by rintro k rfl; omega)
              have HQ9 := Lib.hid (⟨hrw2, hmap, hbw2, hK2⟩ : _ ∧ _ ∧ _ ∧ _)
              clear HF HK9 hrw hmap k2 k3 n1 n2 n3 n4 n5 hbw hPl hrw2 hK2 hbw2 hs
              obtain ⟨d20, d21, d22, d23, d24⟩ := box5 k2w
              have d3 := box1 k3w
              have f20 := k2w.frozen 0
              have f21 := k2w.frozen 1
              have f22 := k2w.frozen 2
              have f23 := k2w.frozen 3
              have f24 := k2w.frozen 4
              have f3 := k3w.frozen 0
              gi_wp2
              obtain ⟨X, hX⟩ : ∃ Zz, Zz = ((((((wr.setCell ⟨w.heap.size + 1, 0, none⟩ (.int .i64 (a : Int))).setCell ⟨w.heap.size + 1, 1, none⟩ (.int .u32 (gen : Int))).setCell ⟨w.heap.size + 1, 2, none⟩ (.slice A9 its.length q9)).setCell ⟨w.heap.size + 1, 3, none⟩ (.int .i64 (en : Int))).setCell ⟨w.heap.size + 1, 4, none⟩ (.bool cl)).setCell ⟨w.heap.size + 1 + 1, 0, none⟩ (.int .i64 0)) := ⟨_, rfl⟩
              rw [← hX]
              obtain ⟨z2, z3, zs, zb⟩ := set6 k2w k3w hX
              clear hX
              obtain ⟨hrw2, hmap, hbw2, hK2⟩ := HQ9.out
              have hK3 : X.heap[D]? = some (.deferred (some [])) := (zs.block D (Array.getElem?_eq_some_iff.1 hK2).1 (by have := HRS.out; omega)).trans hK2
              have hrw3 := hrw2.keep (W' := X) (fun g hg => zs.block g (own_lt hrw2.1 hg).2 (by rintro (e | e); exact own_ne hrw2.1 k2w (by decide) (by rw [hg, e]); exact own_ne hrw2.1 k3w (by decide) (by rw [hg, e]))) (fun y hy g hg => zs.block g (own_lt (hrw2.2 y hy) hg).2 (by rintro (e | e); exact own_ne (hrw2.2 y hy) k2w (by decide) (by rw [hg, e]); exact own_ne (hrw2.2 y hy) k3w (by decide) (by rw [hg, e])))
              have hbX : Below w.heap.size w X := hbw2.trans (zb _ (by omega) (by omega))
              have p2 : Bk (X.putObj D (.deferred none)) (w.heap.size + 1) 61 #[.int .i64 (a : Int), .int .u32 (gen : Int), .slice A9 its.length q9, .int .i64 (en : Int), .bool cl] := (World.putObj_heap_other (fun e => by rw [← e, show X.heap[w.heap.size + 1]? = _ from z2] at hK3; cases hK3)).trans z2
              have p3 : Bk (X.putObj D (.deferred none)) (w.heap.size + 1 + 1) 29 #[.int .i64 0] := (World.putObj_heap_other (fun e => by rw [← e, show X.heap[w.heap.size + 1 + 1]? = _ from z3] at hK3; cases hK3)).trans z3
              have hbY : Below w.heap.size w (X.putObj D (.deferred none)) := hbX.trans (belowK_b (w := w) (Nat.le_refl _) X D _ _ (by have := HB.out.size; omega) hK3 rfl rfl)
              have hrw4 : Rw R.heap.size its (.slice A9 its.length q9) (X.putObj D (.deferred none)) := ⟨ownsRow_putObj hrw3.1 (.deferred none) hK3 rfl, fun y hy => ownsRow_putObj (hrw3.2 y hy) (.deferred none) hK3 rfl⟩
              obtain ⟨q20, q21, q22, q23, q24⟩ := box5 p2
              have q3 := box1 p3
              refine ⟨by simp, .inl ⟨_, _, rfl, run_takeDeferred hK3, ?_⟩⟩
              refine ⟨.tuple #[.agg #[.int .i64 (a : Int), .int .u32 (gen : Int), .slice A9 its.length q9, .int .i64 (en : Int), .bool cl], .int .i64 0], by simp [results, Tryz.results36, go_sem, q20, q21, q22, q23, q24, q3], ?_⟩
              refine ⟨.slice A9 its.length q9, its, ?_, hrw4.mono HB.out.size, ?_, hbY⟩
              · rw [HL.out.1, HL.out.2, HCL.out, HGEN.out, HBE.out]
              · rw [HL.out.2]; exact hmap
      case stop =>
        rintro D Pv cc pre W hD hSx hPD ⟨rfl, hsc, k2, k3, ⟨n2, n3⟩, hbw, hPl⟩ hK
        have HI := Lib.hid (look_sum HV.out HQ.out (by rw [← HBE.out]; exact hsc))
        have HBW : Hid (Below w.heap.size w (W.putObj D (.deferred none))) := hbw.trans (belowK_b (w := w) (Nat.le_refl _) W D _ _ (by have := HB.out.size; omega) hK rfl rfl)
        have p2 : Bk (W.putObj D (.deferred none)) (w.heap.size + 1) 61 #[.int .i64 0, .int .u32 0, .slice none 0 0, .int .i64 0, .bool false] := (World.putObj_heap_other (fun e => by rw [← e, show W.heap[w.heap.size + 1]? = _ from k2] at hK; cases hK)).trans k2
        have p3 : Bk (W.putObj D (.deferred none)) (w.heap.size + 1 + 1) 29 #[.int .i64 11] := (World.putObj_heap_other (fun e => by rw [← e, show W.heap[w.heap.size + 1 + 1]? = _ from k3] at hK; cases hK)).trans k3
        obtain ⟨q20, q21, q22, q23, q24⟩ := box5 p2
        have q3 := box1 p3
        clear k2 k3 hbw
        gi_wp2
        refine ⟨by simp, .inl ⟨_, _, rfl, run_takeDeferred hK, ?_⟩⟩
        refine ⟨.tuple #[.agg #[.int .i64 0, .int .u32 0, .slice none 0 0, .int .i64 0, .bool false], .int .i64 11], by simp [results, Tryz.results36, go_sem, q20, q21, q22, q23, q24, q3], ?_⟩
        exact lookBad HI.out HBW.out
  · have hv : jvB m.1 m.2.length = false := by simpa using hv
    have HI := Lib.hid (look_inv hv)
    have HV := Lib.hid hv
    clear hv
    go_enter Tryz.func36, Tryz.ntmps36
    go_wp2_with fail
    obtain ⟨U, hU⟩ : ∃ Zz, Zz = (((w.alloc (.cells #[.int .i64 m.1, .slice A m.2.length c] 24)).alloc (.cells #[.int .i64 0, .int .u32 0, .slice none 0 0, .int .i64 0, .bool false] 61)).alloc (.cells #[.int .i64 0] 29)) := ⟨_, rfl⟩
    have hbU : Below w.heap.size w U := by rw [hU]; exact al3 _ _ _ _
    have k1 : Bk U w.heap.size 24 #[.int .i64 m.1, .slice A m.2.length c] := by rw [hU]; exact ((Bk.new _ _ _).alloc _).alloc _
    have k2 : Bk U (w.heap.size + 1) 61 #[.int .i64 0, .int .u32 0, .slice none 0 0, .int .i64 0, .bool false] := by rw [hU]; exact bkOf (by simp [at?_alloc])
    have k3 : Bk U (w.heap.size + 1 + 1) 29 #[.int .i64 0] := by rw [hU]; exact bkOf (by simp [at?_alloc])
    rw [← hU]
    clear hU
    refine (valid_lit false m.1 A m.2.length c U HV.out).mono ?_
    rintro e V ⟨rfl, hbV⟩
    replace k1 := k1.next hbV
    replace k2 := k2.next hbV
    replace k3 := k3.next hbV
    have HB := Lib.hid (bt hbV hbU)
    clear hbU hbV
    obtain ⟨c10, c11⟩ := box2 k1
    obtain ⟨c20, c21, c22, c23, c24⟩ := box5 k2
    have c3 := box1 k3
    have f20 := k2.frozen 0
    have f21 := k2.frozen 1
    have f22 := k2.frozen 2
    have f23 := k2.frozen 3
    have f24 := k2.frozen 4
    have f3 := k3.frozen 0
    clear k1
    go_wp2
    obtain ⟨X, hX⟩ : ∃ Zz, Zz = ((((((V.setCell ⟨w.heap.size + 1, 0, none⟩ (.int .i64 0)).setCell ⟨w.heap.size + 1, 1, none⟩ (.int .u32 0)).setCell ⟨w.heap.size + 1, 2, none⟩ (.slice none 0 0)).setCell ⟨w.heap.size + 1, 3, none⟩ (.int .i64 0)).setCell ⟨w.heap.size + 1, 4, none⟩ (.bool false)).setCell ⟨w.heap.size + 1 + 1, 0, none⟩ (.int .i64 1)) := ⟨_, rfl⟩
    rw [← hX]
    obtain ⟨z2, z3, _, zb⟩ := set6 k2 k3 hX
    obtain ⟨q20, q21, q22, q23, q24⟩ := box5 z2
    have q3 := box1 z3
    clear hX
    refine bodyPost_ret (v := .tuple #[.agg #[.int .i64 0, .int .u32 0, .slice none 0 0, .int .i64 0, .bool false], .int .i64 1]) (by simp [results, Tryz.results36, go_sem, q20, q21, q22, q23, q24, q3]) rfl ?_
    exact lookBad HI.out (HB.out.trans (zb _ (by omega) (by omega)))
end Go.Proofs.YthebojaminploaaGreatDoor
