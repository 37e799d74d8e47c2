/- The law's helpers with and torn. -/
import Derived.Test.YtkeghidlolidmaaJp
set_option maxRecDepth 100000
set_option linter.unusedVariables false
set_option linter.unusedSimpArgs false
namespace Go.Proofs.Ytkeghidlolidmaa
open Go.RowKit Go.Sort Go.Shelf

theorem RdBs.items {w : World} {B : Nat} {A : Option Addr} {ds : List Rec} (h : RdBs w B A ds) : ∃ its : List Itm, its.map (·.2.2) = ds ∧ RdS w B 1 A ds.length (its.map cellB) ∧ ∀ x ∈ its, RdB w B x.1 x.2.2 ∧ x.2.2.length ≤ x.2.1 := by
  by_cases h0 : 0 < ds.length
  · obtain ⟨b, o, rfl, hb, hi⟩ := h h0
    have key : ∀ k, k ≤ ds.length → ∃ its : List Itm, its.map (·.2.2) = ds.take k ∧ (∀ i x, its[i]? = some x → w.cell? ⟨b, o + i, none⟩ = some (cellB x)) ∧ ∀ x ∈ its, RdB w B x.1 x.2.2 ∧ x.2.2.length ≤ x.2.1 := by
      intro k
      induction k with
      | zero => intro _; exact ⟨[], by simp, by simp, by simp⟩
      | succ k ih =>
        intro hk
        obtain ⟨its, h1, h2, h3⟩ := ih (by omega)
        obtain ⟨A', c', hc, hcc, hr⟩ := hi k ds[k] (List.getElem?_eq_getElem (by omega))
        have hl : its.length = k := by have := congrArg List.length h1; simp at this; omega
        refine ⟨its ++ [(A', c', ds[k])], ?_, fun i x hx => ?_, fun x hx => ?_⟩
        · rw [List.map_append, h1, List.take_succ_eq_append_getElem (by omega)]; rfl
        · by_cases h4 : i < its.length
          · exact h2 i x (by rwa [List.getElem?_append_left h4] at hx)
          · rw [List.getElem?_append_right (by omega)] at hx
            have h5 : i - its.length = 0 := by
              by_cases h6 : i - its.length = 0
              · exact h6
              · rw [List.getElem?_eq_none (by simp; omega)] at hx; cases hx
            rw [h5] at hx
            obtain rfl : (A', c', ds[k]) = x := by simpa using hx
            rw [show i = k by omega]
            exact hc
        · rcases List.mem_append.1 hx with hx | hx
          · exact h3 x hx
          · obtain rfl : x = (A', c', ds[k]) := by simpa using hx
            exact ⟨hr, hcc⟩
    obtain ⟨its, h1, h2, h3⟩ := key ds.length (Nat.le_refl _)
    rw [List.take_of_length_le (Nat.le_refl _)] at h1
    have hl : its.length = ds.length := by rw [← h1]; simp
    refine ⟨its, h1, ⟨by simp [hl], fun _ => ⟨b, o, rfl, hb, fun j u hu => ?_⟩⟩, h3⟩
    rw [List.getElem?_map, Option.map_eq_some_iff] at hu
    obtain ⟨x, hx, rfl⟩ := hu
    exact h2 j x hx
  · have : ds = [] := List.eq_nil_of_length_eq_zero (by omega)
    subst this
    exact ⟨[], rfl, RdS.nil, by simp⟩
theorem rdBs_of {w : World} {B : Nat} {A : Option Addr} {its : List Itm} (h : RdS w B 1 A its.length (its.map cellB)) (hi : ∀ x ∈ its, RdB w B x.1 x.2.2 ∧ x.2.2.length ≤ x.2.1) : RdBs w B A (its.map (·.2.2)) := fun hn => by
  obtain ⟨b, o, e, hb, hc⟩ := h.2 (by simpa using hn)
  refine ⟨b, o, e, hb, fun i d hd => ?_⟩
  rw [List.getElem?_map, Option.map_eq_some_iff] at hd
  obtain ⟨x, hx, rfl⟩ := hd
  obtain ⟨h1, h2⟩ := hi x (List.mem_of_getElem? hx)
  exact ⟨x.1, x.2.1, hc i _ (by simp [hx, cellB]), h2, h1⟩
theorem cellB_one (its : List Itm) : ∀ u ∈ its.map cellB, u.oneCell' = true := by
  intro u hu
  obtain ⟨x, _, rfl⟩ := List.mem_map.1 hu
  rfl

set_option maxHeartbeats 1000000 in
theorem with_any (l : List Rec) (d : Rec) (Al Ad : Option Addr) (cl cd : Nat) (w : World) (hl : RdBs w w.heap.size Al l) (hd : RdB w w.heap.size Ad d) (hcd : d.length ≤ cd) (hll : l.length ≤ 1000000) :
    Calls Try.prog 24 #[.slice Al l.length cl, .slice Ad d.length cd] w fun e w' => ∃ A c, e = .returned (.slice A (l.length + 1) c) ∧ l.length + 1 ≤ c ∧ RdBs w' w'.heap.size A (l ++ [d]) ∧ Below w.heap.size w w' := by
  obtain ⟨i1, hj, hw0, hw1, hw2⟩ := info_parts info_bs
  obtain ⟨its, hits, hrs, hri⟩ := hl.items
  have HRS := Lib.hid hrs
  have HRI := Lib.hid hri
  have HIT := Lib.hid hits
  have HD := Lib.hid hd
  clear hl hrs hri hits hd
  go_enter Try.func24, Try.ntmps24
  go_wp2_with (first | (at_make; refine wpList_make_own _ rfl _ _ 25 rfl w.heap.size 22 i1 (.slice none 0 0) 1 Try.underlying25 hj hw0 hw1 .i64 .i64 _ (l.length + 1) rfl rfl (by omega) (by rw [hw2]; omega) (by simp only [maxLen]; omega) (by omega) ?_; intro w0 hown0 hgrow0; have OWN := Lib.hid hown0; have hb0 : Below w.heap.size w w0 := (grownBy_below hgrow0 (Nat.le_refl _) (by simp)); have HB0 := Lib.hid hb0; have R0 := Lib.hid (RdS.next HRS.out hb0); have ls0 := hb0.size; clear hown0 hgrow0 hb0) | (at_builtin; refine wpList_append_rd _ rfl (.tmp 8) (.tmp 9) _ rfl w.heap.size 22 i1 _ 1 24 Try.underlying25 hj hw0 hw1 hw2 rfl (by omega) (.slice (some ⟨w.heap.size, 0, none⟩) 0 (l.length + 1)) 0 [] rfl OWN.out w0.heap.size Al l.length cl (its.map cellB) rfl R0.out (cellB_one its) (by simp only [maxLen]; omega) (by omega) ls0 ?_; intro v1 w1 hown1 hg1 hat1; have hb1 : Below w.heap.size w w1 := (HB0.out.grown hg1 ls0 (fun k hk => (own_lt OWN.out hk).1)); have HB1 := Lib.hid hb1; have HO1 := Lib.hid hown1; have ls1 := hb1.size; clear hown1 hg1 hat1 hb1) | (at_builtin; refine wpList_append_rd _ rfl (.tmp 10) (.tmp 12) _ rfl w.heap.size 22 i1 _ 1 24 Try.underlying25 hj hw0 hw1 hw2 rfl (by omega) v1 (0 + l.length) ([] ++ its.map cellB) rfl (HO1.out.alloc _) (w1.heap.size + 1) (some ⟨w1.heap.size, 0, none⟩) 1 1 [.slice Ad d.length cd] rfl (rd_cells (t := 22) (cs := #[.slice Ad d.length cd]) (Bk.new _ _ _) (by omega)) (by simp [Value.oneCell']) (by simp only [maxLen]; omega) (by omega) (by simp; omega) ?_; intro v2 w2 hown2 hg2 hat2; have hb2 : Below w.heap.size w w2 := ((HB1.out.alloc ls1 _).grown hg2 (by simp; omega) (fun k hk => (own_lt HO1.out hk).1)); have HB2 := Lib.hid hb2; have HO2 := Lib.hid hown2; obtain ⟨A2, c2, rfl, hc2, hr2⟩ := own_read hown2; have HR2 := Lib.hid hr2; clear hown2 hg2 hat2 hb2 hr2))
  go_ret
  refine ⟨A2, c2, rfl, by omega, ?_, HB2.out⟩
  have e : l ++ [d] = (its ++ [((Ad, cd, d) : Itm)]).map (·.2.2) := by rw [List.map_append, HIT.out]; rfl
  have hil : its.length = l.length := by rw [← HIT.out]; simp
  rw [e]
  refine rdBs_of ?_ ?_
  · have h9 := HR2.out
    rw [List.nil_append] at h9
    rw [List.length_append, hil, List.map_append]
    simpa [cellB] using h9
  · intro x hx
    rcases List.mem_append.1 hx with hx | hx
    · exact ⟨((HRI.out x hx).1.below HB2.out).more HB2.out.size, (HRI.out x hx).2⟩
    · obtain rfl : x = (Ad, cd, d) := by simpa using hx
      exact ⟨(HD.out.below HB2.out).more HB2.out.size, hcd⟩

set_option maxHeartbeats 1500000 in
theorem torn_any (l : List Mem) (before after : List Rec) (Al Ab Aa : Option Addr) (cl cb ca : Nat) (w : World) (hl : RdFs w w.heap.size Al l) (hB : RdBs w w.heap.size Ab before) (hA : RdBs w w.heap.size Aa after) (hll : l.length ≤ 1000000) (h0 : 0 < l.length)
    (m1 : before.length ≤ 1000000000) (n1 : ∀ d ∈ before, d.length ≤ 1000000000) (m2 : after.length ≤ 1000000000) (n2 : ∀ d ∈ after, d.length ≤ 1000000000)
    (hall : ∀ x ∈ l, hldB x before = true ∨ hldB x after = true) (hlast : ∀ k (h : k < l.length), k + 1 = l.length → hldB l[k] after = true) :
    Calls Try.prog 23 #[.slice Al l.length cl, .slice Ab before.length cb, .slice Aa after.length ca] w fun e w' => e = .returned (.bool true) ∧ Below w.heap.size w w' := by
  have HL := Lib.hid hl
  have HBF := Lib.hid hB
  have HAF := Lib.hid hA
  clear hl hB hA
  go_enter Try.func23, Try.ntmps23
  go_wp2
  go_loopw [7] (fun i wr => ∃ k : Nat, i = .int .i64 (k : Int) ∧ k ≤ l.length ∧ Below w.heap.size w wr) (fun i _ => l.length - (intOf i).toNat)
  case atStart => exact ⟨0, rfl, Nat.zero_le _, Below.refl _ _⟩
  case round =>
    obtain ⟨k, rfl, hk, hb⟩ := hrel
    have HB := Lib.hid hb
    clear hb
    by_cases hlt : k < l.length
    · obtain ⟨b1, o1, A', c', rfl, hb1, z0, z1, hc', hr'⟩ := (HL.out.next HB.out).at_ hlt
      obtain ⟨x, hx⟩ : ∃ x, x = l[k] := ⟨_, rfl⟩
      rw [← hx] at z0 z1 hc' hr'
      have HX := Lib.hid hx
      have HR := Lib.hid hr'
      have k1 : (0 : Int) ≤ (k : Int) := by omega
      have k2 : (k : Int) < (l.length : Int) := by omega
      obtain ⟨b0, hb0⟩ : ∃ b0, hldB x before = b0 := ⟨_, rfl⟩
      obtain ⟨b9, hb9⟩ : ∃ b9, hldB x after = b9 := ⟨_, rfl⟩
      have hor : b0 = true ∨ b9 = true := by rw [← hb0, ← hb9, hx]; exact hall _ (List.getElem_mem hlt)
      have hla : k = l.length - 1 → b9 = true := fun e => by rw [← hb9, hx]; exact hlast k hlt (by omega)
      have H0 := Lib.hid hb0
      have H9 := Lib.hid hb9
      clear hx hr' hb0 hb9
      go_wp2_with fail
      refine (holds_lit b0 before.length x before A' Ab c' cb _ H0.out rfl HR.out hc' (HBF.out.next HB.out) m1 n1).mono ?_
      rintro e V ⟨rfl, hbV⟩
      have w0' := (World.cell?_of_block (a := ⟨b1, o1 + k * 2, none⟩) (hbV.block b1 (by have := hb1; omega))).trans z0
      have w1' := (World.cell?_of_block (a := ⟨b1, o1 + k * 2 + 1, none⟩) (hbV.block b1 (by have := hb1; omega))).trans z1
      replace HR := Lib.hid (HR.out.next hbV)
      replace HB := Lib.hid (bt hbV HB.out)
      clear hbV z0 z1
      go_wp2_with fail
      refine (holds_lit b9 after.length x after A' Aa c' ca _ H9.out rfl HR.out hc' (HAF.out.next HB.out) m2 n2).mono ?_
      rintro e V2 ⟨rfl, hbV⟩
      replace HB := Lib.hid (bt hbV HB.out)
      clear hbV w0' w1'
      have wl : (l.length : Int) - 1 = ((l.length - 1 : Nat) : Int) := by omega
      by_cases hkl : k = l.length - 1
      · obtain rfl := hla hkl
        have e5 : ((k : Int) == (l.length : Int) - 1) = true := by rw [beq_iff_eq]; omega
        cases b0 <;>
        · go_wp2
          go_roundw
          case rel => exact ⟨k + 1, by go_num, by omega, HB.out⟩
          case measure => simp [intOf]; omega
      · have e5 : ((k : Int) == (l.length : Int) - 1) = false := by rw [beq_eq_false_iff_ne]; omega
        cases b9 with
        | true =>
          cases b0 <;>
          · go_wp2
            go_roundw
            case rel => exact ⟨k + 1, by go_num, by omega, HB.out⟩
            case measure => simp [intOf]; omega
        | false =>
          obtain rfl : b0 = true := hor.resolve_right (by simp)
          go_wp2
          go_roundw
          case rel => exact ⟨k + 1, by go_num, by omega, HB.out⟩
          case measure => simp [intOf]; omega
    · obtain rfl : k = l.length := by omega
      have e6 : (0 : Int) < (l.length : Int) := by omega
      go_wp2
      go_ret
      exact ⟨rfl, HB.out⟩
end Go.Proofs.Ytkeghidlolidmaa
