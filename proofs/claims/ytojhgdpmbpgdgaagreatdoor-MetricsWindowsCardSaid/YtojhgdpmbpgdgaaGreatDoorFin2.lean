/-
  The law answers true, for some of the remainders.
-/
import Derived.Test.YtojhgdpmbpgdgaaGreatDoorLaw
namespace Go.Proofs.YtojhgdpmbpgdgaaGreatDoor
open Go Go.Ri
set_option maxRecDepth 1000000
theorem fin_n1t : law (CW symIn) (-1) true = some true := by kernel_rfl
theorem fin_n1f : law (CW symIn) (-1) false = some true := by kernel_rfl
theorem fin_p0t : law (CW symIn) (0) true = some true := by kernel_rfl
theorem fin_p0f : law (CW symIn) (0) false = some true := by kernel_rfl
end Go.Proofs.YtojhgdpmbpgdgaaGreatDoor
