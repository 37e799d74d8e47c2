/- hub: inserted, duplicate. -/
import Derived.Test.YthihhmlgpokomaaWi
import Derived.Test.YthihhmlgpokomaaWe
import Derived.Test.YthihhmlgpokomaaApp
import Derived.Test.YthihhmlgpokomaaRound
import Derived.Deep.RegionLawGrows
import Derived.Outline
set_option maxRecDepth 100000
set_option linter.unusedVariables false
set_option linter.unusedSimpArgs false
namespace Go.Proofs.Ythihhmlgpokomaa
open Go.RowKit

theorem wp_append_grows {P : Program} {o : Oper} {a : Act} {w : World} {K : Act → World → Prop} {Q : Exit → Act → World → Prop}
    (hg : o.guard = none) (s x : Operand) (t : TypeId) (hop : o.op = Op.call { callee := Callee.builtin Builtin.append, args := #[s, x], argTypes := #[t, t] })
    (e : TypeId) (i : TypeInfo) (z : Value) (size bytes : Nat) (h1 : P.underlying t = some (.slice e)) (h2 : P.info? e = some i) (h3 : i.zero = some z) (h4 : i.size = size) (h5 : i.bytes = bytes) (h6 : z.cells.size = size) (h7 : 0 < size)
    (ao : Option Addr) (n cap : Nat) (olds : List Value) (hs : a.eval s = .slice ao n cap) (hnone : ao = none → n = 0 ∧ cap = 0) (hlo : olds.length = n * size) (holds : ∀ b, ao = some b → ∀ j u, olds[j]? = some u → w.cell? (b.add j) = some u)
    (ad : Addr) (m c : Nat) (news : List Value) (hx : a.eval x = .slice (some ad) m c) (hn : news.length = m * size) (hc : ∀ j u, news[j]? = some u → w.cell? (ad.add j) = some u) (h1c : ∀ u ∈ news, u.oneCell' = true)
    (hfull : cap < n + m) (b1 : n + m ≤ maxLen) (b2 : (n + m) * bytes ≤ 140737488355328)
    (hK : ∀ v' w', w'.ownsRow w.heap.size e size v' (n + m) (olds ++ news) → w.grownBy w' none → K (a.put o.dst v') w') : o.wp P a w K Q := by
  have h := step_append_grows (ops := #[]) (E := True) (K := K) (Q := Q) hg s x t hop e i z size bytes h1 h2 h3 h4 h5 h6 h7 ao n cap olds hs hnone hlo holds ad m c news hx hn hc h1c hfull b1 b2 hK
  rwa [if_pos (by simp [Region.wanted, hg])] at h
/-- what a slice that is full reads from -/
theorem rd_olds {w : World} {B sz n : Nat} {A : Option Addr} {xs : List Value} (h : RdS w B sz A n xs) : ∀ b, A = some b → ∀ j u, xs[j]? = some u → w.cell? (b.add j) = some u := by
  intro b e j u hu
  by_cases h0 : 0 < n
  · obtain ⟨b', o', e', _, hc⟩ := h.2 h0
    rw [e] at e'
    injection e' with e'
    subst e'
    rw [add_mk]; exact hc j u hu
  · have : xs = [] := List.eq_nil_of_length_eq_zero (by rw [h.1, show n = 0 by omega, Nat.zero_mul])
    rw [this] at hu; cases hu
theorem rd_none {w : World} {B sz n : Nat} {A : Option Addr} {xs : List Value} (h : RdS w B sz A n xs) : A = none → n = 0 ∧ n = 0 := by
  intro e
  by_cases h0 : 0 < n
  · obtain ⟨b', o', e', _, hc⟩ := h.2 h0
    rw [e] at e'; cases e'
  · omega
theorem rd_block {w : World} {B g n sz : Nat} {t : TypeId} {cs : List Value} (h : Bk w g t cs.toArray) (hg : g < B) (hl : cs.length = n * sz) : RdS w B sz (some ⟨g, 0, none⟩) n cs :=
  ⟨hl, fun _ => ⟨g, 0, rfl, hg, fun j u hu => by rw [Nat.zero_add, h.cell j, ← hu]; simp⟩⟩
theorem grown_none {w w' : World} (h : w.grownBy w' none) : Below w.heap.size w w' := grownBy_below h (Nat.le_refl _) (fun k e => by cases e)
/-- a block whose first cells are known -/
def Bt (w : World) (g : Nat) (t : TypeId) (xs : List Value) : Prop := ∃ cur : Array Value, w.heap[g]? = some (.cells cur t (0, 0)) ∧ cur.toList.take xs.length = xs
section
variable {w w' : World} {g : Nat} {t : TypeId} {xs : List Value}
theorem Bt.lt (h : Bt w g t xs) : g < w.heap.size := by obtain ⟨cur, h1, _⟩ := h; exact (Array.getElem?_eq_some_iff.1 h1).1
theorem Bt.cell (h : Bt w g t xs) {i : Nat} {u : Value} (hu : xs[i]? = some u) : w.cell? ⟨g, i, none⟩ = some u := by
  obtain ⟨cur, h1, h2⟩ := h
  rw [cell_of_row w g i cur t (0, 0) h1, ← hu]
  have hi : i < xs.length := (List.getElem?_eq_some_iff.1 hu).1
  conv => rhs; rw [← h2]
  rw [List.getElem?_take, if_pos hi]; simp
theorem Bt.frozen (h : Bt w g t xs) (i : Nat) : w.frozen? ⟨g, i, none⟩ = false := by
  obtain ⟨cur, h1, h2⟩ := h
  simp [World.frozen?, h1]
theorem Bt.below {B : Nat} (h : Bt w g t xs) (hb : Below B w w') (hg : g < B) : Bt w' g t xs := by
  obtain ⟨cur, h1, h2⟩ := h
  exact ⟨cur, (hb.block g hg).trans h1, h2⟩
theorem Bt.next (h : Bt w g t xs) (hb : Below w.heap.size w w') : Bt w' g t xs := h.below hb h.lt
theorem Bt.set (h : Bt w g t xs) (i : Nat) (u : Value) : Bt (w.setCell ⟨g, i, none⟩ u) g t (xs.set i u) := by
  obtain ⟨cur, h1, h2⟩ := h
  refine ⟨cur.setIfInBounds i u, ?_, ?_⟩
  · have : Bk w g t cur := h1
    exact this.set i u
  · rw [List.length_set, Array.toList_setIfInBounds]
    conv => rhs; rw [← h2]
    rw [List.take_set]
theorem Bt.of_own {base : Nat} {c : Nat} (h : w.ownsRow base t xs.length (.slice (some ⟨g, 0, none⟩) 1 c) 1 xs) : Bt w g t xs := by
  obtain ⟨_, h2⟩ := h
  rcases h2 with ⟨h2, _⟩ | ⟨g', cap, cur, e, _, h3, _, _, _, h4⟩
  · cases h2
  · injection e with e1 e2 e3
    injection e1 with e1
    injection e1 with e1
    subst e1
    exact ⟨cur, h3, by simpa using h4⟩
/-- a row of another type lies elsewhere -/
theorem own_set {base base' n sz : Nat} {e : TypeId} {v : Value} {ys : List Value} (h : w.ownsRow base e sz v n ys) (hB : Bt w g t xs) (hne : e ≠ t) (i : Nat) (u : Value) : (w.setCell ⟨g, i, none⟩ u).ownsRow base e sz v n ys := by
  obtain ⟨h1, h2⟩ := h
  refine ⟨h1, ?_⟩
  rcases h2 with h2 | ⟨g', cap, cur, rfl, hg, hh, r⟩
  · exact .inl h2
  · refine .inr ⟨g', cap, cur, rfl, hg, ?_, r⟩
    have hgg : g' ≠ g := by
      rintro rfl
      obtain ⟨cur', h3, _⟩ := hB
      rw [h3] at hh
      injection hh with hh
      injection hh with _ ht
      exact hne ht.symm
    exact (Below.heap_setCell w _ u g' hgg).trans hh
end
theorem info_ms : (Try.prog.info? 50).map (fun i => (i.zero, i.size, i.bytes)) = some (some (.agg #[.int .i64 0, .int .i64 0, .int .i64 0]), 3, 24) := by kernel_rfl
theorem info_ib : (Try.prog.info? 69).map (fun i => (i.zero, i.size, i.bytes)) = some (some (.agg #[.int .i64 0, .int .i64 0, .slice none 0 0]), 3, 40) := by kernel_rfl
theorem encs_one_cell (l : List Nat) : ∀ u ∈ encs msE l, u.oneCell' = true := by
  intro u hu
  unfold encs at hu
  obtain ⟨x, _, hx⟩ := List.mem_flatMap.1 hu
  simp only [msE, List.mem_cons, List.not_mem_nil, or_false] at hx
  rcases hx with rfl | rfl | rfl <;> rfl
set_option maxHeartbeats 1000000 in
theorem insertedM_any (ws : List Nat) (k p : Nat) (A : Option Addr) (c : Nat) (w : World) (hp : p ≤ ws.length) (hc : ws.length ≤ c) (hl : ws.length ≤ 64) (hA : RdM w w.heap.size A ws) :
    Calls Try.prog 34 #[.slice A ws.length c, .int .i64 (p : Int), .agg #[.int .i64 7, .int .i64 ((k : Int) + 1), .int .i64 (k : Int)]] w fun e w' => ∃ v, e = .returned v ∧ w'.ownsRow w.heap.size 50 3 v (ws.length + 1) (encs msE (ws.take p ++ k :: ws.drop p)) ∧ Below w.heap.size w w' := by
  obtain ⟨i0, hi, hz0, hz1, hz2⟩ := info_parts info_ms
  have HA := Lib.hid hA
  have q1 : (0 : Int) ≤ (p : Int) := by omega
  have q2 : (p : Int) ≤ (ws.length : Int) := by omega
  have q3 : (ws.length : Int) ≤ (c : Int) := by omega
  have q4 : (p : Int) ≤ (c : Int) := by omega
  have q5 : p ≤ c := by omega
  have hpt : (ws.take p).length = p := by rw [List.length_take]; omega
  have hpd : (ws.drop p).length = ws.length - p := List.length_drop ..
  have HRT : Hid (RdS w w.heap.size 3 A p (encs msE (ws.take p))) := Lib.hid (by have h := RdX.take msE_len hA hp; unfold RdX at h; rwa [hpt] at h)
  have HRD : Hid (RdS w w.heap.size 3 (if c = p then A else A.map (·.add (p * 3))) (ws.length - p) (encs msE (ws.drop p))) := Lib.hid (by have h := RdX.drop msE_len (k := p) (c := c) hA hp hc; unfold RdX at h; rwa [hpd] at h)
  have HPT := Lib.hid hpt
  clear hA hpt hpd
  go_enter Try.func34, Try.ntmps34
  go_wp2
  refine region_S (fun w' => w'.cell? ⟨w.heap.size, 0, none⟩ = some (.int .i64 7) ∧ w'.cell? ⟨w.heap.size, 1, none⟩ = some (.int .i64 ((k : Int) + 1)) ∧ w'.cell? ⟨w.heap.size, 2, none⟩ = some (.int .i64 (k : Int))) 11 (by kernel_rfl) ?_
  obtain ⟨W0, hW0⟩ : ∃ Zz, Zz = (w.alloc (.cells #[.int .i64 7, .int .i64 ((k : Int) + 1), .int .i64 (k : Int)] 50)).drew := ⟨_, rfl⟩
  have hb0 : Below w.heap.size w W0 := by rw [hW0]; exact (al1 _ _).drew
  have kx : Bk W0 w.heap.size 50 #[.int .i64 7, .int .i64 ((k : Int) + 1), .int .i64 (k : Int)] := by rw [hW0]; exact (Bk.new _ _ _).drew
  rw [← hW0]
  clear hW0
  have HKX := Lib.hid kx
  have HKS : Hid (∀ w', Below W0.heap.size W0 w' → (w'.cell? ⟨w.heap.size, 0, none⟩ = some (.int .i64 7) ∧ w'.cell? ⟨w.heap.size, 1, none⟩ = some (.int .i64 ((k : Int) + 1)) ∧ w'.cell? ⟨w.heap.size, 2, none⟩ = some (.int .i64 (k : Int)))) := Lib.hid (fun w' hW => box3 (HKX.out.next hW))
  have HS0 := HKS.out _ (Below.refl _ _)
  clear kx
  refine anyS_take (i := 0) rfl (by kernel_rfl) (by kernel_rfl) (by kernel_rfl) (by kernel_rfl) (fun _ _ _ h => h) (Or.inl ⟨by rfl, fun w' hS' => (by obtain ⟨s1, s2, s3⟩ := hS'; go_simp; try with_reducible rfl)⟩) HS0 ?_
  refine anyS_take (i := 1) rfl (by kernel_rfl) (by kernel_rfl) (by kernel_rfl) (by kernel_rfl) (fun _ _ _ h => h) (Or.inl ⟨by rfl, fun w' hS' => (by obtain ⟨s1, s2, s3⟩ := hS'; go_simp; try with_reducible rfl)⟩) HS0 ?_
  refine anyS_take (i := 2) rfl (by kernel_rfl) (by kernel_rfl) (by kernel_rfl) (by kernel_rfl) (fun _ _ _ h => h) (Or.inl ⟨by rfl, fun w' hS' => (by obtain ⟨s1, s2, s3⟩ := hS'; go_simp; try with_reducible rfl)⟩) HS0 ?_
  refine anyS_take (i := 3) rfl (by kernel_rfl) (by kernel_rfl) (by kernel_rfl) (by kernel_rfl) (fun _ _ _ h => h) (Or.inl ⟨by rfl, fun w' hS' => (by obtain ⟨s1, s2, s3⟩ := hS'; go_simp; try with_reducible rfl)⟩) HS0 ?_
  refine anyS_take (i := 4) rfl (by kernel_rfl) (by kernel_rfl) (by kernel_rfl) (by kernel_rfl) (fun _ _ _ h => h) (Or.inl ⟨by rfl, fun w' hS' => (by obtain ⟨s1, s2, s3⟩ := hS'; go_simp; try with_reducible rfl)⟩) HS0 ?_
  refine anyS_take (i := 7) rfl (by kernel_rfl) (by kernel_rfl) (by kernel_rfl) (by kernel_rfl) (fun _ _ _ h => h) (Or.inl ⟨by rfl, fun w' hS' => (by obtain ⟨s1, s2, s3⟩ := hS'; go_simp; try with_reducible rfl)⟩) HS0 ?_
  refine anyS_take (i := 8) rfl (by kernel_rfl) (by kernel_rfl) (by kernel_rfl) (by kernel_rfl) (fun _ _ _ h => h) (Or.inl ⟨by rfl, fun w' hS' => (by obtain ⟨s1, s2, s3⟩ := hS'; go_simp; try with_reducible rfl)⟩) HS0 ?_
  refine anyS_take (i := 9) rfl (by kernel_rfl) (by kernel_rfl) (by kernel_rfl) (by kernel_rfl) (fun _ _ _ h => h) (Or.inl ⟨by rfl, fun w' hS' => (by obtain ⟨s1, s2, s3⟩ := hS'; go_simp; try with_reducible rfl)⟩) HS0 ?_
  refine anyS_one (i := 5) (by kernel_rfl) rfl rfl (fun K_ hK => ?_)
  go_simp
  obtain ⟨W1, hW1⟩ : ∃ Zz, Zz = W0.alloc (.cells #[.int .i64 7, .int .i64 ((k : Int) + 1), .int .i64 (k : Int)] 50) := ⟨_, rfl⟩
  have hb1 : Below W0.heap.size W0 W1 := by rw [hW1]; exact al1 _ _
  have k1 : Bk W1 W0.heap.size 50 #[.int .i64 7, .int .i64 ((k : Int) + 1), .int .i64 (k : Int)] := by rw [hW1]; exact Bk.new _ _ _
  rw [← hW1]
  clear hW1
  refine hK _ _ (fun _ => HKS.out _ hb1) ?_
  clear hK K_ HS0
  have lk1 := k1.lt
  have HB1 := Lib.hid (bt hb1 hb0)
  have HN1 := Lib.hid (fun (j : Nat) (u : Value) (hu : ([.int .i64 7, .int .i64 ((k : Int) + 1), .int .i64 (k : Int)]  : List Value)[j]? = some u) => show W1.cell? ((⟨W0.heap.size, 0, none⟩ : Addr).add j) = some u by rw [add_mk, Nat.zero_add, k1.cell j, ← hu]; simp)
  refine anyS_one (i := 6) (by kernel_rfl) rfl rfl (fun K_ hK => ?_)
  refine wp_append_grows (by rfl) (.tmp 10) (.tmp 12) _ (by rfl) 50 i0 _ 3 24 Try.underlying46 hi hz0 hz1 hz2 rfl (by omega) A p p (encs msE (ws.take p)) (by rfl) (rd_none (RdS.next HRT.out HB1.out)) (by rw [encs_length msE_len, HPT.out]) (rd_olds (RdS.next HRT.out HB1.out)) ⟨W0.heap.size, 0, none⟩ 1 1 [.int .i64 7, .int .i64 ((k : Int) + 1), .int .i64 (k : Int)] (by rfl) (by rfl) HN1.out (by simp [Value.oneCell']) (by omega) (by simp only [maxLen]; omega) (by omega) ?_
  intro v2 w2 hown2 hg2
  have hb2 := grown_none hg2
  have HB2 := Lib.hid (bt hb2 HB1.out)
  have hb02 := bt hb2 hb1
  have hs2 := hb2.size
  refine hK _ _ (fun _ => HKS.out _ hb02) ?_
  clear hK K_
  refine anyS_one (i := 10) (by kernel_rfl) rfl rfl (fun K_ hK => ?_)
  refine wp_append_rd _ (.tmp 13) (.tmp 16) _ (by rfl) W1.heap.size 50 i0 _ 3 24 Try.underlying46 hi hz0 hz1 hz2 rfl (by omega) v2 (p + 1) _ (by rfl) hown2 w2.heap.size _ (ws.length - p) (c - p) (encs msE (ws.drop p)) (by rfl) (RdS.next HRD.out HB2.out) (encs_one_cell _) (by simp only [maxLen]; omega) (by omega) (by omega) ?_
  intro v3 w3 hown3 hg3 hat3
  have hb3 : Below W1.heap.size W1 w3 := own_grow hb2 hown2 hg3 hs2 (Nat.le_refl _)
  have hb03 := bt hb3 hb1
  have HB3 := Lib.hid (bt hb3 HB1.out)
  have HO3 := Lib.hid (own_mono hown3 HB1.out.size)
  refine hK _ _ (fun _ => HKS.out _ hb03) ?_
  clear hK K_
  refine anyS_one (i := 11) (by kernel_rfl) rfl rfl (fun K_ hK => ?_)
  go_simp
  refine hK _ _ (fun h => absurd rfl h) ?_
  clear hK K_
  refine anyS_done (by kernel_rfl) ?_ _
  simp only [normPost]
  clear hb0 hb1 k1 hown2 hg2 hb2 hb02 hs2 hown3 hg3 hat3 hb3 hb03 HKS
  have HO4 : Hid (w3.ownsRow w.heap.size 50 3 v3 (ws.length + 1) (encs msE (ws.take p ++ k :: ws.drop p))) := by
    have ho := HO3.out
    rw [show p + 1 + (ws.length - p) = ws.length + 1 by omega] at ho
    exact Lib.hid (by simpa [encs_append, encs, msE, List.append_assoc] using ho)
  go_wp2
  all_goals
    go_ret
    exact ⟨v3, rfl, HO4.out, HB3.out⟩
set_option maxHeartbeats 1000000 in
theorem insertedB_new (A : Option Addr) (w : World) :
    Calls Try.prog 33 #[.slice A 0 0, .int .i64 0, .agg #[.int .i64 7, .int .i64 1, .slice none 0 0]] w fun e w' => ∃ g cap, e = .returned (.slice (some ⟨g, 0, none⟩) 1 cap) ∧ w.heap.size ≤ g ∧ Bt w' g 69 [.int .i64 7, .int .i64 1, .slice none 0 0] ∧ 1 ≤ cap ∧ Below w.heap.size w w' := by
  obtain ⟨i0, hi, hz0, hz1, hz2⟩ := info_parts info_ib
  go_enter Try.func33, Try.ntmps33
  go_wp2
  refine region_S (fun w' => w'.cell? ⟨w.heap.size, 0, none⟩ = some (.int .i64 7) ∧ w'.cell? ⟨w.heap.size, 1, none⟩ = some (.int .i64 1) ∧ w'.cell? ⟨w.heap.size, 2, none⟩ = some (.slice none 0 0)) 11 (by kernel_rfl) ?_
  obtain ⟨W0, hW0⟩ : ∃ Zz, Zz = (w.alloc (.cells #[.int .i64 7, .int .i64 1, .slice none 0 0] 69)).drew := ⟨_, rfl⟩
  have hb0 : Below w.heap.size w W0 := by rw [hW0]; exact (al1 _ _).drew
  have kx : Bk W0 w.heap.size 69 #[.int .i64 7, .int .i64 1, .slice none 0 0] := by rw [hW0]; exact (Bk.new _ _ _).drew
  rw [← hW0]
  clear hW0
  have HKX := Lib.hid kx
  have HKS : Hid (∀ w', Below W0.heap.size W0 w' → (w'.cell? ⟨w.heap.size, 0, none⟩ = some (.int .i64 7) ∧ w'.cell? ⟨w.heap.size, 1, none⟩ = some (.int .i64 1) ∧ w'.cell? ⟨w.heap.size, 2, none⟩ = some (.slice none 0 0))) := Lib.hid (fun w' hW => box3 (HKX.out.next hW))
  have HS0 := HKS.out _ (Below.refl _ _)
  clear kx
  refine anyS_take (i := 0) rfl (by kernel_rfl) (by kernel_rfl) (by kernel_rfl) (by kernel_rfl) (fun _ _ _ h => h) (Or.inl ⟨by rfl, fun w' hS' => (by obtain ⟨s1, s2, s3⟩ := hS'; go_simp; try with_reducible rfl)⟩) HS0 ?_
  refine anyS_take (i := 1) rfl (by kernel_rfl) (by kernel_rfl) (by kernel_rfl) (by kernel_rfl) (fun _ _ _ h => h) (Or.inl ⟨by rfl, fun w' hS' => (by obtain ⟨s1, s2, s3⟩ := hS'; go_simp; try with_reducible rfl)⟩) HS0 ?_
  refine anyS_take (i := 2) rfl (by kernel_rfl) (by kernel_rfl) (by kernel_rfl) (by kernel_rfl) (fun _ _ _ h => h) (Or.inl ⟨by rfl, fun w' hS' => (by obtain ⟨s1, s2, s3⟩ := hS'; go_simp; try with_reducible rfl)⟩) HS0 ?_
  refine anyS_take (i := 3) rfl (by kernel_rfl) (by kernel_rfl) (by kernel_rfl) (by kernel_rfl) (fun _ _ _ h => h) (Or.inl ⟨by rfl, fun w' hS' => (by obtain ⟨s1, s2, s3⟩ := hS'; go_simp; try with_reducible rfl)⟩) HS0 ?_
  refine anyS_take (i := 4) rfl (by kernel_rfl) (by kernel_rfl) (by kernel_rfl) (by kernel_rfl) (fun _ _ _ h => h) (Or.inl ⟨by rfl, fun w' hS' => (by obtain ⟨s1, s2, s3⟩ := hS'; go_simp; try with_reducible rfl)⟩) HS0 ?_
  refine anyS_take (i := 7) rfl (by kernel_rfl) (by kernel_rfl) (by kernel_rfl) (by kernel_rfl) (fun _ _ _ h => h) (Or.inl ⟨by rfl, fun w' hS' => (by obtain ⟨s1, s2, s3⟩ := hS'; go_simp; try with_reducible rfl)⟩) HS0 ?_
  refine anyS_take (i := 8) rfl (by kernel_rfl) (by kernel_rfl) (by kernel_rfl) (by kernel_rfl) (fun _ _ _ h => h) (Or.inl ⟨by rfl, fun w' hS' => (by obtain ⟨s1, s2, s3⟩ := hS'; go_simp; try with_reducible rfl)⟩) HS0 ?_
  refine anyS_take (i := 9) rfl (by kernel_rfl) (by kernel_rfl) (by kernel_rfl) (by kernel_rfl) (fun _ _ _ h => h) (Or.inl ⟨by rfl, fun w' hS' => (by obtain ⟨s1, s2, s3⟩ := hS'; go_simp; try with_reducible rfl)⟩) HS0 ?_
  refine anyS_one (i := 5) (by kernel_rfl) rfl rfl (fun K_ hK => ?_)
  go_simp
  obtain ⟨W1, hW1⟩ : ∃ Zz, Zz = W0.alloc (.cells #[.int .i64 7, .int .i64 1, .slice none 0 0] 69) := ⟨_, rfl⟩
  have hb1 : Below W0.heap.size W0 W1 := by rw [hW1]; exact al1 _ _
  have k1 : Bk W1 W0.heap.size 69 #[.int .i64 7, .int .i64 1, .slice none 0 0] := by rw [hW1]; exact Bk.new _ _ _
  rw [← hW1]
  clear hW1
  refine hK _ _ (fun _ => HKS.out _ hb1) ?_
  clear hK K_ HS0
  have lk1 := k1.lt
  have HB1 := Lib.hid (bt hb1 hb0)
  have HN1 := Lib.hid (fun (j : Nat) (u : Value) (hu : ([.int .i64 7, .int .i64 1, .slice none 0 0]  : List Value)[j]? = some u) => show W1.cell? ((⟨W0.heap.size, 0, none⟩ : Addr).add j) = some u by rw [add_mk, Nat.zero_add, k1.cell j, ← hu]; simp)
  refine anyS_one (i := 6) (by kernel_rfl) rfl rfl (fun K_ hK => ?_)
  refine wp_append_grows (by rfl) (.tmp 10) (.tmp 12) _ (by rfl) 69 i0 _ 3 40 Try.underlying45 hi hz0 hz1 hz2 rfl (by omega) A 0 0 [] (by rfl) (fun _ => ⟨rfl, rfl⟩) rfl (fun b e j u hu => by simp at hu) ⟨W0.heap.size, 0, none⟩ 1 1 [.int .i64 7, .int .i64 1, .slice none 0 0] (by rfl) (by rfl) HN1.out (by simp [Value.oneCell']) (by omega) (by simp only [maxLen]; omega) (by omega) ?_
  intro v2 w2 hown2 hg2
  have hb2 := grown_none hg2
  have HB2 := Lib.hid (bt hb2 HB1.out)
  have hb02 := bt hb2 hb1
  have hs2 := hb2.size
  refine hK _ _ (fun _ => HKS.out _ hb02) ?_
  clear hK K_
  refine anyS_one (i := 10) (by kernel_rfl) rfl rfl (fun K_ hK => ?_)
  refine wp_append_rd _ (.tmp 13) (.tmp 16) _ (by rfl) W1.heap.size 69 i0 _ 3 40 Try.underlying45 hi hz0 hz1 hz2 rfl (by omega) v2 1 _ (by rfl) hown2 w2.heap.size _ 0 0 [] (by rfl) RdS.nil (by simp) (by simp only [maxLen]; omega) (by omega) (by omega) ?_
  intro v3 w3 hown3 hg3 hat3
  have hb3 : Below W1.heap.size W1 w3 := own_grow hb2 hown2 hg3 hs2 (Nat.le_refl _)
  have hb03 := bt hb3 hb1
  have HB3 := Lib.hid (bt hb3 HB1.out)
  have HO3 := Lib.hid (own_mono hown3 HB1.out.size)
  refine hK _ _ (fun _ => HKS.out _ hb03) ?_
  clear hK K_
  refine anyS_one (i := 11) (by kernel_rfl) rfl rfl (fun K_ hK => ?_)
  go_simp
  refine hK _ _ (fun h => absurd rfl h) ?_
  clear hK K_
  refine anyS_done (by kernel_rfl) ?_ _
  simp only [normPost]
  clear hb0 hb1 k1 hown2 hg2 hb2 hb02 hs2 hown3 hg3 hat3 hb3 hb03 HKS
  go_wp2
  go_ret
  have ho := HO3.out
  obtain ⟨g, cap, rfl, hg, _⟩ := ho.form (by omega)
  refine ⟨g, cap, rfl, hg, Bt.of_own (xs := [.int .i64 7, .int .i64 1, .slice none 0 0]) (by simpa using ho), ?_, HB3.out⟩
  obtain ⟨A9, c9, e9, h9, _⟩ := own_read ho
  injection e9 with _ _ e9
  omega
end Go.Proofs.Ythihhmlgpokomaa
