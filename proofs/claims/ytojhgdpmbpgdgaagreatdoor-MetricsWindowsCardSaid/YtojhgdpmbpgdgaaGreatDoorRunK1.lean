/-
  A run of the program from a small memory, by the kernel.
-/
import Derived.Test.YtojhgdpmbpgdgaaGreatDoorEnts
namespace Go.Proofs.YtojhgdpmbpgdgaaGreatDoor
open Go Go.Ri
set_option maxRecDepth 1000000
theorem runK1 : runEntry C0 Tryz.prog 400 entK1 = true := by kernel_rfl
theorem runK2 : runEntry C0 Tryz.prog 400 entK2 = true := by kernel_rfl
theorem runK5 : runEntry C0 Tryz.prog 400 entK5 = true := by kernel_rfl
end Go.Proofs.YtojhgdpmbpgdgaaGreatDoor
