/-
  A run of the program from a small memory, by the kernel.
-/
import Derived.Test.YtojhgdpmbpgdgaaGreatDoorEnts
namespace Go.Proofs.YtojhgdpmbpgdgaaGreatDoor
open Go Go.Ri
set_option maxRecDepth 1000000
theorem runA5true : runEntry C0 Tryz.prog 400 entA5true = true := by kernel_rfl
theorem runA5false : runEntry C0 Tryz.prog 400 entA5false = true := by kernel_rfl
theorem runB5 : runEntry C0 Tryz.prog 400 entB5 = true := by kernel_rfl
end Go.Proofs.YtojhgdpmbpgdgaaGreatDoor
