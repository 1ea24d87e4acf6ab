/-
  A run of the program from a small memory, by the kernel.
-/
import Derived.Test.YtojhgdpmbpgdgaaGreatDoorEnts
namespace Go.Proofs.YtojhgdpmbpgdgaaGreatDoor
open Go Go.Ri
set_option maxRecDepth 1000000
theorem runA2true : runEntry C0 Tryz.prog 400 entA2true = true := by kernel_rfl
theorem runA2false : runEntry C0 Tryz.prog 400 entA2false = true := by kernel_rfl
theorem runB2 : runEntry C0 Tryz.prog 400 entB2 = true := by kernel_rfl
end Go.Proofs.YtojhgdpmbpgdgaaGreatDoor
