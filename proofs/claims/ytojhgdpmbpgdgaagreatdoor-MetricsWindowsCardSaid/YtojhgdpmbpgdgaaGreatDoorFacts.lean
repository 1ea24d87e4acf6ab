/-
  The row's forced cells are what the program forces: the closed facts, one by one.
-/
import Derived.Test.YtojhgdpmbpgdgaaGreatDoorRows
import Derived.JoinedOf
import Derived.KernelRfl
namespace Go.Proofs.YtojhgdpmbpgdgaaGreatDoor
open Go
theorem both {a b : Bool} (h : a = true) (h' : b = true) : (a && b) = true := by rw [h, h']; rfl
set_option maxRecDepth 100000
set_option maxHeartbeats 32000000 in
theorem row_facts : joinedFacts Tryz.prog 3 Tryz.f3 Rows.metricsWindowsSpec Rows.metricsWindowsRow = true := by
  unfold joinedFacts
  repeat' (with_reducible refine both ?_ ?_)
  all_goals as_aux_lemma => kernel_rfl
end Go.Proofs.YtojhgdpmbpgdgaaGreatDoor
