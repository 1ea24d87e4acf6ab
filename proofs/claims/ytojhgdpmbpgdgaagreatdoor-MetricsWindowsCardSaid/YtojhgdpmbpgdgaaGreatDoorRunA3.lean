/-
  A run of the program from a small memory, by the kernel.
-/
import Derived.Test.YtojhgdpmbpgdgaaGreatDoorEnts
namespace Go.Proofs.YtojhgdpmbpgdgaaGreatDoor
open Go Go.Ri
set_option maxRecDepth 1000000
theorem runA3true : runEntry C0 Tryz.prog 400 entA3true = true := by kernel_rfl
theorem runA3false : runEntry C0 Tryz.prog 400 entA3false = true := by kernel_rfl
theorem runB3 : runEntry C0 Tryz.prog 400 entB3 = true := by kernel_rfl
end Go.Proofs.YtojhgdpmbpgdgaaGreatDoor
