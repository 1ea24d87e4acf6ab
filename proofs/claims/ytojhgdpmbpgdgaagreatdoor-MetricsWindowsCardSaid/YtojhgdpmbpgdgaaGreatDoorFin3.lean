/-
  The law answers true, for some of the remainders.
-/
import Derived.Test.YtojhgdpmbpgdgaaGreatDoorLaw
namespace Go.Proofs.YtojhgdpmbpgdgaaGreatDoor
open Go Go.Ri
set_option maxRecDepth 1000000
theorem fin_p1t : law (CW symIn) (1) true = some true := by kernel_rfl
theorem fin_p1f : law (CW symIn) (1) false = some true := by kernel_rfl
theorem fin_p2t : law (CW symIn) (2) true = some true := by kernel_rfl
theorem fin_p2f : law (CW symIn) (2) false = some true := by kernel_rfl
end Go.Proofs.YtojhgdpmbpgdgaaGreatDoor
