/- A region that draws its order, walked in the order of the text: all its operations but the last ones only read. No program. -/
import Derived.StillTailTactics
set_option linter.unusedVariables false
namespace Go.Proofs.Ythihhmlgpokomaa

/-- the first n operations read or call quietly; the others stand in one forced order: the world is the old one with one draw more -/
theorem region_tail {P : Program} {id : Nat} {Q : Exit → Act → World → Prop} {a : Act} {w : World} {l : List Oper} (n : Nat) (hm : P.follows .mixedOrders = true) (hB : Region.lexTailB .any l.toArray n = true)
    (h : wpStill P l.toArray w.drew (fun a' => wpList P l.toArray Q (l.drop n) a' w.drew) (l.take n) a) : (Code.region id l.toArray true).wp P Q a w :=
  wp_region_still_tail n hm hB h
end Go.Proofs.Ythihhmlgpokomaa
