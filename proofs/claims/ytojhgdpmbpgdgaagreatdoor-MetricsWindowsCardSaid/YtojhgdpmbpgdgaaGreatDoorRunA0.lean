/-
  A run of the program from a small memory, by the kernel.
-/
import Derived.Test.YtojhgdpmbpgdgaaGreatDoorEnts
namespace Go.Proofs.YtojhgdpmbpgdgaaGreatDoor
open Go Go.Ri
set_option maxRecDepth 1000000
theorem runA0true : runEntry C0 Tryz.prog 400 entA0true = true := by kernel_rfl
theorem runA0false : runEntry C0 Tryz.prog 400 entA0false = true := by kernel_rfl
theorem runB0 : runEntry C0 Tryz.prog 400 entB0 = true := by kernel_rfl
end Go.Proofs.YtojhgdpmbpgdgaaGreatDoor
