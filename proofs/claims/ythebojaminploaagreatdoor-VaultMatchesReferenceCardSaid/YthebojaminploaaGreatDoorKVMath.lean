/- The vault as plain functions: the bytes of a lease, what is loaded, kept and stored. No program. -/
import Derived.Test.YthebojaminploaaGreatDoorKJZ
import Derived.Test.YthebojaminploaaGreatDoorKLM
set_option maxRecDepth 100000
set_option linter.unusedVariables false
set_option linter.unusedSimpArgs false
namespace Go.Proofs.YthebojaminploaaGreatDoor

/-! ### the bytes of a lease -/
def packL (x : Lea) : Rec := be4 x.n.toNat ++ (UInt8.ofNat x.c.toNat :: UInt8.ofNat x.a.toNat :: (be4 x.f.toNat ++ szL x.t.toNat))
def unpL (d : Rec) : Lea :=
  ⟨num4 (d.getD 0 0) (d.getD 1 0) (d.getD 2 0) (d.getD 3 0), (d.getD 4 0).toNat, (d.getD 5 0).toNat, num4 (d.getD 6 0) (d.getD 7 0) (d.getD 8 0) (d.getD 9 0), (d.getD 10 0).toNat * 256 + (d.getD 11 0).toNat⟩
theorem packL_length (x : Lea) : (packL x).length = 12 := by simp [packL, be4, szL]
theorem unp_pack {x : Lea} (h : oneB x = true) : unpL (packL x) = x := by
  rw [oneB_iff] at h
  obtain ⟨n, c, a, f, t⟩ := x
  simp only at h
  unfold unpL packL
  simp only [be4, szL, List.cons_append, List.nil_append, List.getD_cons_zero, List.getD_cons_succ]
  rw [num4_be4 _ (by omega), num4_be4 _ (by omega)]
  simp only [UInt8.toNat_ofNat']
  congr 1 <;> omega
theorem pack_unp {d : Rec} (h : d.length = 12) : packL (unpL d) = d := by
  match d, h with
  | [d0, d1, d2, d3, d4, d5, d6, d7, d8, d9, d10, d11], _ =>
    have h10 := d10.toNat_lt
    have h11 := d11.toNat_lt
    simp only [packL, unpL, List.getD_cons_zero, List.getD_cons_succ, Int.toNat_natCast, be4_num4]
    have e : ((d10.toNat : Int) * 256 + (d11.toNat : Int)).toNat = d10.toNat * 256 + d11.toNat := by omega
    rw [e, szL, u8_of d4 _ rfl, u8_of d5 _ rfl, u8_of d10 _ (by omega), u8_of d11 _ (by omega)]
    rfl
theorem pack_inj {l m : List Lea} (hl : ∀ x ∈ l, oneB x = true) (hm : ∀ x ∈ m, oneB x = true) (h : l.map packL = m.map packL) : l = m := by
  have key : ∀ l : List Lea, (∀ x ∈ l, oneB x = true) → (l.map packL).map unpL = l := fun l hl => by
    rw [List.map_map]
    conv => rhs; rw [← List.map_id l]
    exact List.map_congr_left fun x hx => unp_pack (hl x hx)
  rw [← key l hl, ← key m hm, h]
theorem room_pack (l : List Lea) : room (l.map packL) = 19 * l.length := by
  induction l with
  | nil => rfl
  | cons x l ih => simp only [List.map_cons, room, packL_length, ih, List.length_cons]; omega

/-! ### Load -/
def vmB (m : Mem) : Bool := decide (m.1 = 512 ∧ m.2.length = 2048)
def twB (rs : List Rec) : Bool := rs.all fun d => decide (d.length = 12)
def loadE (m : Mem) : Int :=
  if vmB m = true then (if lookE m = 0 then (if twB (lookC m).recs && vlB ((lookC m).recs.map unpL) then 0 else 9) else lookE m) else 1
def loadL (m : Mem) : List Lea := if loadE m = 0 then (lookC m).recs.map unpL else []
theorem lookE_vals (m : Mem) : lookE m = 0 ∨ lookE m = 1 ∨ lookE m = 4 ∨ lookE m = 11 := by
  unfold lookE
  split
  · split
    · simp
    · split <;> simp
  · simp
theorem load_ok {m : Mem} (h : loadE m = 0) : m.1 = 512 ∧ m.2.length = 2048 ∧ lookE m = 0 ∧ (lookC m).recs = (loadL m).map packL ∧ vlB (loadL m) = true := by
  have hl : loadL m = (lookC m).recs.map unpL := by unfold loadL; rw [if_pos h]
  unfold loadE at h
  split at h
  · rename_i hv
    split at h
    · rename_i h0
      split at h
      · rename_i hb
        simp only [Bool.and_eq_true] at hb
        rw [vmB, decide_eq_true_eq] at hv
        refine ⟨hv.1, hv.2, h0, ?_, by rw [hl]; exact hb.2⟩
        rw [hl, List.map_map]
        conv => lhs; rw [← List.map_id (lookC m).recs]
        refine List.map_congr_left fun d hd => ?_
        have := List.all_eq_true.1 hb.1 d hd
        exact (pack_unp (by simpa using this)).symm
      · cases h
    · rename_i h0
      exact absurd h h0
  · cases h
theorem load_of {m : Mem} {l : List Lea} (h1 : m.1 = 512) (h2 : m.2.length = 2048) (h0 : lookE m = 0) (hr : (lookC m).recs = l.map packL) (hv : vlB l = true) : loadE m = 0 ∧ loadL m = l := by
  have hu : (l.map packL).map unpL = l := by
    rw [List.map_map]
    conv => rhs; rw [← List.map_id l]
    exact List.map_congr_left fun x hx => unp_pack (vlB_one hv hx)
  have ht : twB (l.map packL) = true := by
    rw [twB, List.all_eq_true]
    intro d hd
    obtain ⟨x, _, rfl⟩ := List.mem_map.1 hd
    simp [packL_length]
  have hE : loadE m = 0 := by
    unfold loadE
    rw [if_pos (by rw [vmB, decide_eq_true_eq]; exact ⟨h1, h2⟩), if_pos h0, hr, hu, ht, hv]
    rfl
  exact ⟨hE, by unfold loadL; rw [if_pos hE, hr, hu]⟩
theorem load_vm {m : Mem} (h : loadE m = 0) : hf m = 1024 := by unfold hf; rw [(load_ok h).2.1]
theorem load_len {m : Mem} (h : loadE m = 0) : (lookC m).fin = 5 + 19 * (loadL m).length ∧ (loadL m).length ≤ 53 := by
  obtain ⟨h1, h2, h3, h4, h5⟩ := load_ok h
  obtain ⟨a, l, e, hJ⟩ := Jr.of h3
  obtain ⟨f1, f2, f3, f4, f5, f6, f7⟩ := hJ.facts
  rw [hJ.look.2] at h4 ⊢
  simp only at h4 ⊢
  have hr := room_pack (loadL m)
  rw [← h4] at hr
  have := load_vm h
  omega

/-! ### what is kept -/
def lastL (l : List Lea) : Lea := l.getD (l.length - 1) l0
def moreB (l left : List Lea) : Bool := decide (0 < l.length) && (decide (left.length = 0) || !((lastL left).n == (lastL l).n))
def leftL (l : List Lea) (tick : Int) : List Lea := l.filter (lftB tick)
def keptL (l : List Lea) (tick : Int) : List Lea := leftL l tick ++ (if moreB l (leftL l tick) then [lastL l] else [])
theorem lastL_snoc (l : List Lea) (x : Lea) : lastL (l ++ [x]) = x := by simp [lastL, List.getD_eq_getElem?_getD]
theorem lastL_eq {l : List Lea} (h : l ≠ []) : l = l.dropLast ++ [lastL l] := by
  have e : lastL l = l.getLast h := by
    rw [lastL, getD_of (by have := List.length_pos_iff.2 h; omega), List.getLast_eq_getElem]
  rw [e, List.dropLast_concat_getLast]
theorem lastL_mem {l : List Lea} (h : l ≠ []) : lastL l ∈ l := by
  have := lastL_eq h
  rw [this, lastL_snoc]; simp
/-- what is kept is a part of what was there, with the same last lease -/
theorem kept_sub {l : List Lea} (hv : vlB l = true) (tick : Int) : (keptL l tick).Sublist l ∧ (l ≠ [] → keptL l tick ≠ [] ∧ lastL (keptL l tick) = lastL l) := by
  by_cases hl : l = []
  · subst hl
    exact ⟨by simp [keptL, leftL, moreB], fun h => absurd rfl h⟩
  obtain ⟨i, x, rfl⟩ : ∃ i x, l = i ++ [x] := ⟨_, _, lastL_eq hl⟩
  have hx := lastL_snoc i x
  have hp := ((vlB_iff _).1 hv).2.2
  rw [List.pairwise_append] at hp
  unfold keptL
  by_cases ha : lftB tick x = true
  · have e : leftL (i ++ [x]) tick = leftL i tick ++ [x] := by simp [leftL, List.filter_append, List.filter_cons, ha]
    have hm : moreB (i ++ [x]) (leftL (i ++ [x]) tick) = false := by
      rw [e]
      simp only [moreB, lastL_snoc]
      simp
    rw [hm, e]
    refine ⟨?_, fun _ => ⟨by simp, by simp [lastL_snoc]⟩⟩
    simp only [Bool.false_eq_true, if_false, List.append_nil]
    exact List.Sublist.append List.filter_sublist (List.Sublist.refl _)
  · have e : leftL (i ++ [x]) tick = leftL i tick := by simp [leftL, List.filter_append, List.filter_cons, ha]
    have hm : moreB (i ++ [x]) (leftL (i ++ [x]) tick) = true := by
      rw [e]
      unfold moreB
      rw [hx]
      simp only [Bool.and_eq_true, Bool.or_eq_true, decide_eq_true_eq, Bool.not_eq_true', beq_eq_false_iff_ne]
      refine ⟨by simp, ?_⟩
      by_cases h0 : leftL i tick = []
      · exact .inl (by simp [h0])
      · right
        have hmem := lastL_mem h0
        have hin : lastL (leftL i tick) ∈ i := (List.mem_filter.1 hmem).1
        have := (folB_iff _ _).1 (hp.2.2 _ hin x (by simp))
        omega
    rw [hm, e, hx]
    refine ⟨?_, fun _ => ⟨by simp, by simp [lastL_snoc]⟩⟩
    simp only [if_true]
    exact List.Sublist.append List.filter_sublist (List.Sublist.refl _)
theorem filter_kept {l : List Lea} (hv : vlB l = true) (tick later : Int) (h : tick ≤ later) : (keptL l tick).filter (aliB later) = l.filter (aliB later) := by
  have h1 := exp_alive l tick later h
  by_cases hl : l = []
  · subst hl; simp [keptL, leftL, moreB]
  by_cases hm : moreB l (leftL l tick) = true
  · have hk : keptL l tick = leftL l tick ++ [lastL l] := by simp [keptL, hm]
    by_cases ha : lftB tick (lastL l) = true
    · obtain ⟨hs, hlast⟩ := kept_sub hv tick
      exfalso
      obtain ⟨i, x, rfl⟩ : ∃ i x, l = i ++ [x] := ⟨_, _, lastL_eq hl⟩
      rw [lastL_snoc] at ha
      have e : leftL (i ++ [x]) tick = leftL i tick ++ [x] := by simp [leftL, List.filter_append, List.filter_cons, ha]
      rw [e] at hm
      simp only [moreB, lastL_snoc] at hm
      simp at hm
    · rw [hk, List.filter_append, leftL, h1]
      have hn : aliB later (lastL l) = false := by
        simp only [lftB, decide_eq_true_eq, Int.not_lt] at ha
        simp only [aliB, decide_eq_false_iff_not]
        omega
      simp [hn]
  · have hk : keptL l tick = leftL l tick := by simp [keptL, hm]
    rw [hk, leftL, h1]

/-! ### Store -/
def oldB (l : List Lea) (x : Lea) : Bool := decide (0 < l.length) && !folB (lastL l) x
def argB (x : Lea) (tick : Int) : Bool := oneB x && decide (0 ≤ tick ∧ tick ≤ 1100000)
def keepR (m : Mem) (x : Lea) (tick : Int) : List Rec := (keptL (loadL m) tick ++ [x]).map packL
def stoE (m : Mem) (x : Lea) (tick : Int) : Int :=
  if loadE m = 0 then (if argB x tick = true then (if oldB (loadL m) x = true then 12 else if appE m (packL x) = 10 then rewE m (keepR m x tick) else appE m (packL x)) else 1) else loadE m
def stoM (m : Mem) (x : Lea) (tick : Int) : List Mem :=
  if stoE m x tick = 0 then (if appE m (packL x) = 10 then rewM m (keepR m x tick) else appM m (packL x)) else []
structure Sto (m : Mem) (x : Lea) (tick : Int) (L : List (List UInt8)) (F : List (List UInt8)) (z : List UInt8) (after : List Lea) : Prop where
  intro ::
  load : loadE m = 0
  arg : argB x tick = true
  old : oldB (loadL m) x = false
  mems : stoM m x tick = L.map fun b => (m.1, b)
  steps : Steps m L F z (after.map packL)
  mid : ∀ y ∈ F, loadE (mk m y) = 0 ∧ loadL (mk m y) = loadL m
  fin : loadE (mk m z) = 0 ∧ loadL (mk m z) = after
  kind : after = loadL m ++ [x] ∨ after = keptL (loadL m) tick ++ [x]
theorem follow_snoc {l : List Lea} {x : Lea} {k : Nat} (hv : vlB l = true) (hx : oneB x = true) (ho : oldB l x = false) (hl : l.length < 64) : vlB (l ++ [x]) = true := by
  refine vlB_snoc hv hx (fun h0 => ?_) hl
  unfold oldB at ho
  rw [decide_eq_true h0, Bool.true_and] at ho
  have h1 : folB (lastL l) x = true := by simpa using ho
  exact h1
theorem sto_arg {x : Lea} {tick : Int} (h : argB x tick = true) : oneB x = true ∧ 0 ≤ tick ∧ tick ≤ 1100000 := by
  simpa [argB] using h
theorem old_kept {l : List Lea} {x : Lea} (hv : vlB l = true) (tick : Int) (ho : oldB l x = false) : oldB (keptL l tick) x = false := by
  by_cases hl : l = []
  · subst hl; simp [keptL, leftL, moreB, oldB]
  · obtain ⟨_, h2⟩ := kept_sub hv tick
    obtain ⟨h3, h4⟩ := h2 hl
    unfold oldB at ho ⊢
    rw [h4]
    have e1 : decide (0 < l.length) = true := decide_eq_true (List.length_pos_iff.2 hl)
    rw [e1] at ho
    rw [Bool.true_and] at ho
    rw [ho, Bool.and_false]
theorem sto_of {m : Mem} {x : Lea} {tick : Int} (h : stoE m x tick = 0) : ∃ L F z after, Sto m x tick L F z after := by
  have h' := h
  unfold stoE at h
  split at h
  · rename_i hL
    split at h
    · rename_i hA
      split at h
      · cases h
      · rename_i hO
        have hO : oldB (loadL m) x = false := by simpa using hO
        obtain ⟨m1, m2, m3, m4, m5⟩ := load_ok hL
        obtain ⟨x1, x2, x3⟩ := sto_arg hA
        have hlen := load_len hL
        have hH := load_vm hL
        have mids : ∀ {L F : List (List UInt8)} {z : List UInt8} {after : List Rec}, Steps m L F z after → ∀ y ∈ F, loadE (mk m y) = 0 ∧ loadL (mk m y) = loadL m := by
          intro L F z after hS y hy
          obtain ⟨k1, k2, k3, k4, k5⟩ := hS.mid y hy
          exact load_of m1 (by rw [show (mk m y).2 = y from rfl, k1, m2]) k2 (by rw [k3, m4]) m5
        split at h
        · rename_i hF
          obtain ⟨r1, r2, F, z, hS, _⟩ := rew_steps m3 _ h
          have hk := kept_sub m5 tick
          have hn : (keptL (loadL m) tick).length < 64 := by
            have := hk.1.length_le
            omega
          have hvv : vlB (keptL (loadL m) tick ++ [x]) = true := follow_snoc (k := 0) (vlB_sub m5 hk.1) x1 (old_kept m5 tick hO) hn
          refine ⟨_, F, z, keptL (loadL m) tick ++ [x], hL, hA, hO, ?_, hS, mids hS, ?_, .inr rfl⟩
          · unfold stoM; rw [if_pos h', if_pos hF]; rfl
          · exact load_of m1 (by rw [show (mk m z).2 = z from rfl, hS.zlen, m2]) hS.zok hS.zrecs hvv
        · rename_i hF
          obtain ⟨F, z, hS⟩ := app_steps m3 _ h
          have hvv : vlB (loadL m ++ [x]) = true := follow_snoc (k := 0) m5 x1 hO (by omega)
          have hr : (lookC m).recs ++ [packL x] = (loadL m ++ [x]).map packL := by rw [m4]; simp
          rw [hr] at hS
          refine ⟨_, F, z, loadL m ++ [x], hL, hA, hO, ?_, hS, mids hS, ?_, .inl rfl⟩
          · unfold stoM; rw [if_pos h', if_neg hF]; rfl
          · exact load_of m1 (by rw [show (mk m z).2 = z from rfl, hS.zlen, m2]) hS.zok hS.zrecs hvv
    · cases h
  · rename_i hL
    exact absurd h hL
theorem Sto.last {m : Mem} {x : Lea} {tick : Int} {L F : List (List UInt8)} {z : List UInt8} {after : List Lea} (h : Sto m x tick L F z after) : after ≠ [] ∧ lastL after = x := by
  rcases h.kind with e | e <;> subst e <;> exact ⟨by simp, lastL_snoc _ _⟩
theorem Sto.valid {m : Mem} {x : Lea} {tick : Int} {L F : List (List UInt8)} {z : List UInt8} {after : List Lea} (h : Sto m x tick L F z after) : vlB after = true := by
  have := (load_ok h.fin.1).2.2.2.2
  rwa [h.fin.2] at this
/-- what is alive later, of what is stored -/
theorem Sto.alive {m : Mem} {x : Lea} {tick : Int} {L F : List (List UInt8)} {z : List UInt8} {after : List Lea} (h : Sto m x tick L F z after) {later : Int} (hl : tick ≤ later) : after.filter (aliB later) = (loadL m ++ [x]).filter (aliB later) := by
  rcases h.kind with e | e
  · rw [e]
  · rw [e, List.filter_append, filter_kept (load_ok h.load).2.2.2.2 tick later hl, ← List.filter_append]
end Go.Proofs.YthebojaminploaaGreatDoor
