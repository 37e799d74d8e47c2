/- The law's helpers. -/
import Derived.Test.YthebojaminploaaGreatDoorKJl
set_option maxRecDepth 100000
set_option linter.unusedVariables false
set_option linter.unusedSimpArgs false
namespace Go.Proofs.YthebojaminploaaGreatDoor
open Go.RowKit Go.Sort Go.Shelf

def appM (m : Mem) (d : Rec) : List Mem := (appL m d).map fun b => (m.1, b)
def rewM (m : Mem) (keep : List Rec) : List Mem := (rewL m keep).map fun b => (m.1, b)
theorem listPost_of {s : Int} {L : List (List UInt8)} {er : Int} {w : World} {e : Ending} {w' : World} (h : memPost s L er w e w') : ListPost w (L.map fun b => (s, b)) er e w' := by
  obtain ⟨v, its, rfl, hm, hmap, hb⟩ := h
  obtain ⟨A, c, rfl, hc, hr⟩ := hm.rd
  have hl : its.length = L.length := by rw [← hmap]; simp
  refine ⟨A, c, by rw [hl]; simp, by rw [List.length_map, ← hl]; exact hc, ?_, hb⟩
  rw [← hmap, List.map_map]; exact hr
theorem Append_l (m : Mem) (d : Rec) (A Ad : Option Addr) (c cd : Nat) (w : World) (hA : RdB w w.heap.size A m.2) (hc : m.2.length ≤ c) (hD : RdB w w.heap.size Ad d) (hcd : d.length ≤ cd) (hdl : d.length ≤ 1000000) :
    Calls Tryz.prog 18 #[.agg #[.int .i64 m.1, .slice A m.2.length c], .slice Ad d.length cd] w (ListPost w (appM m d) (appE m d)) :=
  (Append_any m d A Ad c cd w hA hc hD hcd hdl).mono fun _ _ h => listPost_of h
theorem Rewrite_l (m : Mem) (keep : List Rec) (A Ak : Option Addr) (c ck : Nat) (w : World) (hA : RdB w w.heap.size A m.2) (hc : m.2.length ≤ c) (hK : RdBs w w.heap.size Ak keep) (hk1 : keep.length ≤ 10000) (hk2 : ∀ d ∈ keep, d.length ≤ 9223372036854775807) :
    Calls Tryz.prog 21 #[.agg #[.int .i64 m.1, .slice A m.2.length c], .slice Ak keep.length ck] w (ListPost w (rewM m keep) (rewE m keep)) :=
  (Rewrite_any m keep A Ak c ck w hA hc hK hk1 hk2).mono fun _ _ h => listPost_of h

end Go.Proofs.YthebojaminploaaGreatDoor

/- The law's helpers: Room, last, holds, few, with. -/
set_option maxRecDepth 100000
set_option linter.unusedVariables false
set_option linter.unusedSimpArgs false
namespace Go.Proofs.YthebojaminploaaGreatDoor
open Go.RowKit Go.Sort Go.Shelf

set_option maxHeartbeats 1000000 in
theorem Room_any (x : List Rec) (A1 : Option Addr) (c1 : Nat) (w : World) (h1 : RdBs w w.heap.size A1 x) (m1 : x.length ≤ 1000000) :
    Calls Tryz.prog 48 #[.slice A1 x.length c1] w fun e w' => ∃ r : Int, e = .returned (.int .i64 r) ∧ (room x ≤ 1000000 → r = 5 + (room x : Int)) ∧ w = w' := by
  have H1 := Lib.hid h1
  clear h1
  go_enter Tryz.func48, Tryz.ntmps48
  go_wp2
  go_loopw [3, 4] (fun v i wr => ∃ (k : Nat) (z : Int), v = .int .i64 z ∧ i = .int .i64 (k : Int) ∧ k ≤ x.length ∧ (room x ≤ 1000000 → z = 5 + (room (x.take k) : Int)) ∧ w = wr) (fun _ i _ => x.length - (intOf i).toNat)
  case atStart => exact ⟨0, 5, rfl, rfl, Nat.zero_le _, fun _ => by simp [room], rfl⟩
  case round =>
    obtain ⟨k, v, rfl, rfl, hk, hv, rfl⟩ := hrel
    by_cases hlt : k < x.length
    · obtain ⟨b1, o1, A1', c1', rfl, h1b, z1, h1c, r1⟩ := H1.out.at_ hlt
      have k1 : (0 : Int) ≤ (k : Int) := by omega
      have k2 : (k : Int) < (x.length : Int) := by omega
      obtain ⟨p, hp⟩ : ∃ p, p = x[k] := ⟨_, rfl⟩
      rw [← hp] at z1 h1c r1
      have hst := room_take_succ hlt
      rw [← hp] at hst
      have hrl := room_take_le x k
      have hrl2 := room_take_le x (k + 1)
      obtain ⟨v2, hv2⟩ : ∃ v2 : Int, v2 = RowKit.wrap64 (RowKit.wrap64 (v + 7) + (p.length : Int)) := ⟨_, rfl⟩
      have HV : Hid (room x ≤ 1000000 → v2 = 5 + (room (x.take (k + 1)) : Int)) := fun hr => by
        have h9 := hv hr
        rw [hv2, IntWalk.wrap64_in (v + 7) (by omega), IntWalk.wrap64_in _ (by omega)]
        omega
      have HV2 := Lib.hid hv2
      clear hp r1 hst hrl hrl2 hv hv2
      go_wp2
      go_roundw
      case rel => exact ⟨k + 1, v2, by rw [HV2.out], by go_num, by omega, HV.out, trivial⟩
      case measure => simp [intOf]; omega
    · obtain rfl : k = x.length := by omega
      rw [List.take_of_length_le (Nat.le_refl _)] at hv
      have HV := Lib.hid hv
      clear hv
      go_wp2
      go_ret
      exact ⟨v, rfl, HV.out, rfl⟩

def lastM (f : Mem) (l : List Mem) (e : Int) : Mem := if e = 0 then l.getLastD f else f
def flashPost (m : Mem) (w : World) (e : Ending) (w' : World) : Prop := ∃ A c, e = .returned (.agg #[.int .i64 m.1, .slice A m.2.length c]) ∧ m.2.length ≤ c ∧ RdB w' w'.heap.size A m.2 ∧ Below w.heap.size w w'
def hldB (m : Mem) (want : List Rec) : Bool := decide (lookE m = 0 ∧ (lookC m).recs = want)
end Go.Proofs.YthebojaminploaaGreatDoor
