/-
  A run of the program from a small memory, by the kernel.
-/
import Derived.Test.YtojhgdpmbpgdgaaGreatDoorEnts
namespace Go.Proofs.YtojhgdpmbpgdgaaGreatDoor
open Go Go.Ri
set_option maxRecDepth 1000000
theorem runA1true : runEntry C0 Tryz.prog 400 entA1true = true := by kernel_rfl
theorem runA1false : runEntry C0 Tryz.prog 400 entA1false = true := by kernel_rfl
theorem runB1 : runEntry C0 Tryz.prog 400 entB1 = true := by kernel_rfl
end Go.Proofs.YtojhgdpmbpgdgaaGreatDoor
