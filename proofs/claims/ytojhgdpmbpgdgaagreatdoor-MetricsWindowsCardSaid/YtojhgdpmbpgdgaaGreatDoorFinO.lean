/-
  The law answers true, at a window that may not be.
-/
import Derived.Test.YtojhgdpmbpgdgaaGreatDoorLaw
namespace Go.Proofs.YtojhgdpmbpgdgaaGreatDoor
open Go Go.Ri
set_option maxRecDepth 1000000
theorem fin_lot : law (CW (symOut true false)) 0 true = some true := by kernel_rfl
theorem fin_lof : law (CW (symOut true false)) 0 false = some true := by kernel_rfl
theorem fin_hit : law (CW (symOut false true)) 0 true = some true := by kernel_rfl
theorem fin_hif : law (CW (symOut false true)) 0 false = some true := by kernel_rfl
end Go.Proofs.YtojhgdpmbpgdgaaGreatDoor
