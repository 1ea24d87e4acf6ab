/-
  The law answers true, for some of the remainders.
-/
import Derived.Test.YtojhgdpmbpgdgaaGreatDoorLaw
namespace Go.Proofs.YtojhgdpmbpgdgaaGreatDoor
open Go Go.Ri
set_option maxRecDepth 1000000
theorem fin_n3t : law (CW symIn) (-3) true = some true := by kernel_rfl
theorem fin_n3f : law (CW symIn) (-3) false = some true := by kernel_rfl
theorem fin_n2t : law (CW symIn) (-2) true = some true := by kernel_rfl
theorem fin_n2f : law (CW symIn) (-2) false = some true := by kernel_rfl
end Go.Proofs.YtojhgdpmbpgdgaaGreatDoor
