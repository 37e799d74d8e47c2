/- What the vault's cards take: the variable widths out of the card's condition; the door's own heap meets it. -/
import Derived.Test.YthebojaminploaaGreatDoorKLaw
import Derived.Test.YthebojaminploaaGreatDoorKVA
import Derived.ProofKit
import Derived.LaidMore
import Derived.OpenShut
import Derived.Stop.Joined
import Derived.Lib.LaidTab
import Derived.MakeChecks
set_option maxRecDepth 100000
set_option linter.unusedVariables false
namespace Go.Proofs.YthebojaminploaaGreatDoor
open Go.ChangeShapes Go.WideShapes Go.ChangeAt Go.RowKit

theorem gWd : Tryz.prog.globalNamed "chargepark/vault.widths" = some 0 := by kernel_rfl
theorem tWd : (Tryz.prog.globals[0]?).map (·.type) = some 69 := by kernel_rfl
theorem widths_of {W : World} (h : laidMetH Tryz.prog [("chargepark/vault.widths", Rows.laid_chargepark_vault_widths)] W) : Wd W := by
  rw [MakeChecks.laidMetH_plain _ _ _ (by kernel_rfl)] at h
  have hT : Lib.TabIs Tryz.prog W "chargepark/vault.widths" .i64 [4, 1, 1, 4, 2] := Lib.tabIs_of_head gWd tWd Tryz.underlying69 Tryz.underlying3 (by kernel_rfl) (by kernel_rfl) h
  have c0 := hT.cell gWd 0 (by decide)
  exact ⟨World.block_lt_of_cell? W _ c0, c0, hT.cell gWd 1 (by decide), hT.cell gWd 2 (by decide), hT.cell gWd 3 (by decide), hT.cell gWd 4 (by decide)⟩
theorem door_met (os : Os) (args : Array Value) : laidMetH Tryz.prog [("chargepark/vault.widths", Rows.laid_chargepark_vault_widths)] ((World.doorLaid Tryz.prog 14 os).forCall (fun _ _ => 0) ⟨#[], args, []⟩).memory :=
  laidMetH_of_parts3 (fuel := 8) (laidMet_of_run' 8 (by kernel_rfl) (by kernel_rfl)) (by kernel_rfl) (by kernel_rfl)
end Go.Proofs.YthebojaminploaaGreatDoor
