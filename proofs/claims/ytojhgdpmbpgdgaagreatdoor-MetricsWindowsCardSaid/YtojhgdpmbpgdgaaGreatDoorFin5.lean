/-
  The law answers true, for some of the remainders.
-/
import Derived.Test.YtojhgdpmbpgdgaaGreatDoorLaw
namespace Go.Proofs.YtojhgdpmbpgdgaaGreatDoor
open Go Go.Ri
set_option maxRecDepth 1000000
theorem fin_p5t : law (CW symIn) (5) true = some true := by kernel_rfl
theorem fin_p5f : law (CW symIn) (5) false = some true := by kernel_rfl
end Go.Proofs.YtojhgdpmbpgdgaaGreatDoor
