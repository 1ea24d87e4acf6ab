/-
  A run of the program from a small memory, by the kernel.
-/
import Derived.Test.YtojhgdpmbpgdgaaGreatDoorEnts
namespace Go.Proofs.YtojhgdpmbpgdgaaGreatDoor
open Go Go.Ri
set_option maxRecDepth 1000000
theorem runK0 : runEntry C0 Tryz.prog 400 entK0 = true := by kernel_rfl
end Go.Proofs.YtojhgdpmbpgdgaaGreatDoor
