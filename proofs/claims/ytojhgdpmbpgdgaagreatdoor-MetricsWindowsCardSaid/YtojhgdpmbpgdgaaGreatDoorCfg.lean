/-
  What is asked of the program ahead of its runs: its functions without a body, its zero values.
-/
import Derived.Test.YtojhgdpmbpgdgaaGreatDoorProg
import Derived.Test.YtojhgdpmbpgdgaaGreatDoorRi8
import Derived.KernelRfl
import GoSem.Extern.AbiNoEscape
import GoSem.Extern.MathFloatBits
import GoSem.Extern.BytealgIndexByte
namespace Go.Proofs.YtojhgdpmbpgdgaaGreatDoor
open Go Go.Ri

def odd0 (f : FuncId) : Option Odd := match f with
  | 128 => some .noZero
  | 185 => some (.known Go.Extern.BytealgIndexByte.indexByte)
  | 125 => some (.known Go.Extern.MathFloatBits.float64bits)
  | 245 => some (.known Go.Extern.MathFloatBits.float64bits)
  | 166 => some (.known Go.Extern.MathFloatBits.float64frombits)
  | 274 => some (.known Go.Extern.MathFloatBits.float64frombits)
  | 244 => some (.known Go.Extern.MathFloatBits.float32bits)
  | 268 => some (.known Go.Extern.MathFloatBits.float32frombits)
  | _ => none

set_option maxRecDepth 1000000
theorem zeros0 : ZerosOk Tryz.prog := zeros_of (by kernel_rfl)
theorem noNum0 : ∀ (f : FuncId) (fn : Func), Tryz.prog.funcs[f]? = some fn → fn.name ≠ "runtime.NumGoroutine" := noNum_of (by kernel_rfl)
theorem x128 : Extern.findNext Tryz.f128 = none := by kernel_rfl
theorem e128 : Extern.find Tryz.f128 = some (Extern.BytealgMakeNoZero.makeNoZero Tryz.f128.params Tryz.f128.resultTypes) := by kernel_rfl
theorem x185 : Extern.findNext Tryz.f185 = none := by kernel_rfl
theorem e185 : Extern.find Tryz.f185 = some Go.Extern.BytealgIndexByte.indexByte := by kernel_rfl
theorem x125 : Extern.findNext Tryz.f125 = none := by kernel_rfl
theorem e125 : Extern.find Tryz.f125 = some Go.Extern.MathFloatBits.float64bits := by kernel_rfl
theorem x245 : Extern.findNext Tryz.f245 = none := by kernel_rfl
theorem e245 : Extern.find Tryz.f245 = some Go.Extern.MathFloatBits.float64bits := by kernel_rfl
theorem x166 : Extern.findNext Tryz.f166 = none := by kernel_rfl
theorem e166 : Extern.find Tryz.f166 = some Go.Extern.MathFloatBits.float64frombits := by kernel_rfl
theorem x274 : Extern.findNext Tryz.f274 = none := by kernel_rfl
theorem e274 : Extern.find Tryz.f274 = some Go.Extern.MathFloatBits.float64frombits := by kernel_rfl
theorem x244 : Extern.findNext Tryz.f244 = none := by kernel_rfl
theorem e244 : Extern.find Tryz.f244 = some Go.Extern.MathFloatBits.float32bits := by kernel_rfl
theorem x268 : Extern.findNext Tryz.f268 = none := by kernel_rfl
theorem e268 : Extern.find Tryz.f268 = some Go.Extern.MathFloatBits.float32frombits := by kernel_rfl

theorem known0 : ∀ f e, odd0 f = some (.known e) → ∃ fn, Tryz.prog.funcs[f]? = some fn ∧ fn.body = none ∧ Extern.findNext fn = none ∧ Extern.find fn = some e := by
  intro f e h
  unfold odd0 at h
  split at h
  · cases h
  · cases h; exact ⟨Tryz.f185, Tryz.func185, rfl, x185, e185⟩
  · cases h; exact ⟨Tryz.f125, Tryz.func125, rfl, x125, e125⟩
  · cases h; exact ⟨Tryz.f245, Tryz.func245, rfl, x245, e245⟩
  · cases h; exact ⟨Tryz.f166, Tryz.func166, rfl, x166, e166⟩
  · cases h; exact ⟨Tryz.f274, Tryz.func274, rfl, x274, e274⟩
  · cases h; exact ⟨Tryz.f244, Tryz.func244, rfl, x244, e244⟩
  · cases h; exact ⟨Tryz.f268, Tryz.func268, rfl, x268, e268⟩
  · cases h
theorem noZero0 : ∀ f, odd0 f = some .noZero → ∃ fn, Tryz.prog.funcs[f]? = some fn ∧ fn.body = none ∧ Extern.findNext fn = none ∧ Extern.find fn = some (Extern.BytealgMakeNoZero.makeNoZero fn.params fn.resultTypes) := by
  intro f h
  unfold odd0 at h
  split at h
  · exact ⟨Tryz.f128, Tryz.func128, rfl, x128, e128⟩
  all_goals cases h
theorem mixed0 : Tryz.prog.follows .mixedOrders = true := by kernel_rfl
end Go.Proofs.YtojhgdpmbpgdgaaGreatDoor
