/- The law's helpers. -/
import Derived.Test.YtcnhmgcingmphaaDoorKJl
set_option maxRecDepth 100000
set_option linter.unusedVariables false
set_option linter.unusedSimpArgs false
namespace Go.Proofs.YtcnhmgcingmphaaDoor
open Go.RowKit Go.Sort Go.Shelf

def appM (m : Mem) (d : Rec) : List Mem := (appL m d).map fun b => (m.1, b)
def rewM (m : Mem) (keep : List Rec) : List Mem := (rewL m keep).map fun b => (m.1, b)
theorem listPost_of {s : Int} {L : List (List UInt8)} {er : Int} {w : World} {e : Ending} {w' : World} (h : memPost s L er w e w') : ListPost w (L.map fun b => (s, b)) er e w' := by
  obtain ⟨v, its, rfl, hm, hmap, hb⟩ := h
  obtain ⟨A, c, rfl, hc, hr⟩ := hm.rd
  have hl : its.length = L.length := by rw [← hmap]; simp
  refine ⟨A, c, by rw [hl]; simp, by rw [List.length_map, ← hl]; exact hc, ?_, hb⟩
  rw [← hmap, List.map_map]; exact hr
theorem Append_l (m : Mem) (d : Rec) (A Ad : Option Addr) (c cd : Nat) (w : World) (hA : RdB w w.heap.size A m.2) (hc : m.2.length ≤ c) (hD : RdB w w.heap.size Ad d) (hcd : d.length ≤ cd) (hdl : d.length ≤ 1000000) :
    Calls Tryd.prog 25 #[.agg #[.int .i64 m.1, .slice A m.2.length c], .slice Ad d.length cd] w (ListPost w (appM m d) (appE m d)) :=
  (Append_any m d A Ad c cd w hA hc hD hcd hdl).mono fun _ _ h => listPost_of h
theorem Rewrite_l (m : Mem) (keep : List Rec) (A Ak : Option Addr) (c ck : Nat) (w : World) (hA : RdB w w.heap.size A m.2) (hc : m.2.length ≤ c) (hK : RdBs w w.heap.size Ak keep) (hk1 : keep.length ≤ 10000) (hk2 : ∀ d ∈ keep, d.length ≤ 9223372036854775807) :
    Calls Tryd.prog 28 #[.agg #[.int .i64 m.1, .slice A m.2.length c], .slice Ak keep.length ck] w (ListPost w (rewM m keep) (rewE m keep)) :=
  (Rewrite_any m keep A Ak c ck w hA hc hK hk1 hk2).mono fun _ _ h => listPost_of h

end Go.Proofs.YtcnhmgcingmphaaDoor

/- The law's helpers: Room, last, holds, few, with. -/
set_option maxRecDepth 100000
set_option linter.unusedVariables false
set_option linter.unusedSimpArgs false
namespace Go.Proofs.YtcnhmgcingmphaaDoor
open Go.RowKit Go.Sort Go.Shelf

def lastM (f : Mem) (l : List Mem) (e : Int) : Mem := if e = 0 then l.getLastD f else f
def flashPost (m : Mem) (w : World) (e : Ending) (w' : World) : Prop := ∃ A c, e = .returned (.agg #[.int .i64 m.1, .slice A m.2.length c]) ∧ m.2.length ≤ c ∧ RdB w' w'.heap.size A m.2 ∧ Below w.heap.size w w'
def hldB (m : Mem) (want : List Rec) : Bool := decide (lookE m = 0 ∧ (lookC m).recs = want)
end Go.Proofs.YtcnhmgcingmphaaDoor
