/-
  A run of the program from a small memory, by the kernel.
-/
import Derived.Test.YtojhgdpmbpgdgaaGreatDoorEnts
namespace Go.Proofs.YtojhgdpmbpgdgaaGreatDoor
open Go Go.Ri
set_option maxRecDepth 1000000
theorem runA4true : runEntry C0 Tryz.prog 400 entA4true = true := by kernel_rfl
theorem runA4false : runEntry C0 Tryz.prog 400 entA4false = true := by kernel_rfl
theorem runB4 : runEntry C0 Tryz.prog 400 entB4 = true := by kernel_rfl
end Go.Proofs.YtojhgdpmbpgdgaaGreatDoor
