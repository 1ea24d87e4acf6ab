/-
  The law answers true, for some of the remainders.
-/
import Derived.Test.YtojhgdpmbpgdgaaGreatDoorLaw
namespace Go.Proofs.YtojhgdpmbpgdgaaGreatDoor
open Go Go.Ri
set_option maxRecDepth 1000000
theorem fin_p3t : law (CW symIn) (3) true = some true := by kernel_rfl
theorem fin_p3f : law (CW symIn) (3) false = some true := by kernel_rfl
theorem fin_p4t : law (CW symIn) (4) true = some true := by kernel_rfl
theorem fin_p4f : law (CW symIn) (4) false = some true := by kernel_rfl
end Go.Proofs.YtojhgdpmbpgdgaaGreatDoor
