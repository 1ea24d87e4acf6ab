/-
  Numbers that are not known: which number, which window.
-/
import Derived.Test.YtojhgdpmbpgdgaaGreatDoorBase
namespace Go.Proofs.YtojhgdpmbpgdgaaGreatDoor
open Go Go.Ri

/-- The number behind each told one: the window and what follows it; 'big + 1000 + j': a number whose remainder is j - 5. -/
def sig (r fn w n : Int) : Int := if n < big + 1000 then w + (n - big - 1) else if n - (big + 1005) = r then fn else n - (big + 1005)

def eqI (a b : Int) : Bool := decide (a = b)
def flag (b : Bool) : Option Value := some (.bool b)
/-- A window that may be. -/
def symIn : Sym := fun op a b => match op with
  | .rem => match eqI b 6, decide (big + 1000 ≤ a), decide (a ≤ big + 1010) with
    | true, true, true => some (.int .i64 (a - (big + 1005)))
    | _, _, _ => none
  | .lss => match eqI b 1 with
    | false => none
    | true => match eqI a (big + 1) with
      | true => flag false
      | false => match eqI a (big + 2) with
        | true => flag false
        | false => none
  | .gtr => match eqI b 1125899906842624 with
    | true => match eqI a (big + 1) with
      | true => flag false
      | false => match eqI a (big + 2) with
        | true => flag false
        | false => none
    | false => match eqI b 1099511627776 with
      | true => match eqI a (big + 1) with
        | true => flag false
        | false => none
      | false => none
  | .add => match eqI a (big + 1), eqI b 1 with
    | true, true => some (.int .i64 (big + 2))
    | _, _ => none
  | .eql => match eqI a b with
    | true => flag true
    | false => none
  | .neq => match eqI a b with
    | true => flag false
    | false => none
  | _ => none
/-- A window that may not be. -/
def symOut (lo hi : Bool) : Sym := fun op a b => match op with
  | .lss => match eqI b 1, eqI a (big + 1) with
    | true, true => flag lo
    | _, _ => none
  | .gtr => match eqI b 1099511627776, eqI a (big + 1) with
    | true, true => flag hi
    | _, _ => none
  | _ => none

def SymOk (σ : Int → Int) (P : Program) (s : Sym) : Prop := ∀ op a b v, s op a b = some v → ∀ ty, ∃ v', psem P (binOp op ty (.int .i64 (real σ a)) (.int .i64 (real σ b))) = some v' ∧ ∀ ρ, VRel σ ρ v v'

theorem eqI_true {a b : Int} (h : eqI a b = true) : a = b := of_decide_eq_true h
theorem real_small {σ : Int → Int} {a : Int} (h : a < big) : real σ a = a := if_pos h
theorem realR {r : Int} (fn w : Int) (h : -5 ≤ r) : real (sig r fn w) (big + 1005 + r) = fn := by
  unfold real sig; rw [if_neg (by omega), if_neg (by omega), if_pos (by omega)]
theorem real1 (r fn w : Int) : real (sig r fn w) (big + 1) = w := by
  unfold real sig; rw [if_neg (by omega), if_pos (by omega)]; omega
theorem real2 (r fn w : Int) : real (sig r fn w) (big + 2) = w + 1 := by
  unfold real sig; rw [if_neg (by omega), if_pos (by omega)]; omega
theorem small_mod (n : Int) (h1 : -5 ≤ n) (h2 : n ≤ 5) : n.tmod 6 = n := by
  have : n = -5 ∨ n = -4 ∨ n = -3 ∨ n = -2 ∨ n = -1 ∨ n = 0 ∨ n = 1 ∨ n = 2 ∨ n = 3 ∨ n = 4 ∨ n = 5 := by omega
  rcases this with rfl | rfl | rfl | rfl | rfl | rfl | rfl | rfl | rfl | rfl | rfl <;> rfl
theorem real_mod {r fn w a : Int} (hr : fn.tmod 6 = r) (h1 : big + 1000 ≤ a) (h2 : a ≤ big + 1010) : (real (sig r fn w) a).tmod 6 = a - (big + 1005) := by
  unfold real sig
  rw [if_neg (by omega), if_neg (by omega)]
  split
  · rename_i e; rw [hr, e]
  · exact small_mod _ (by omega) (by omega)
theorem wrap_small {n : Int} (h : 0 ≤ n) (h' : n < 2 ^ 62) : IntKind.wrap .i64 n = n := by
  unfold IntKind.wrap
  have e1 : (2 ^ IntKind.bits .i64 : Int) = 18446744073709551616 := rfl
  have e2 : (2 ^ (IntKind.bits .i64 - 1) : Int) = 9223372036854775808 := rfl
  have e3 : IntKind.signed .i64 = true := rfl
  simp only [e1, e2, e3]
  have : n % 18446744073709551616 = n := Int.emod_eq_of_lt h (by omega)
  rw [this]
  simp
  omega

theorem ps_pure {P : Program} {α : Type} (v : α) : psem P (pure v) = some v := rfl
theorem cmp {P : Program} {s : Sem Value} {p : Prop} [Decidable p] (hs : s = pure (.bool (decide p))) (hp : ¬ p) : psem P s = some (.bool false) := by
  rw [hs, decide_eq_false hp]; rfl
theorem symIn_ok {P : Program} {fn w r : Int} (h1 : 1 ≤ w) (h2 : w ≤ 1099511627776) (hr : fn.tmod 6 = r) : SymOk (sig r fn w) P symIn := by
  have hbig : (1125899906842624 : Int) < big := by decide
  intro op a b v h ty
  unfold symIn at h
  split at h
  · split at h
    · rename_i eb h3 h4
      have eb := eqI_true eb
      have h3 := of_decide_eq_true h3
      have h4 := of_decide_eq_true h4
      subst eb; cases h
      rw [real_small (a := 6) (by omega)]
      exact ⟨.int .i64 (a - (big + 1005)), by simp [binOp, Op.intDiv, ps_pure, real_mod hr h3 h4], fun ρ => .int _ _ (by omega)⟩
    · cases h
  · split at h
    · cases h
    · rename_i eb
      split at h
      · rename_i ea
        have ea := eqI_true ea; have eb := eqI_true eb
        subst ea; subst eb; cases h
        rw [real1, real_small (by omega)]
        exact ⟨.bool false, cmp rfl (by omega), fun ρ => .bool _⟩
      · split at h
        · rename_i ea
          have ea := eqI_true ea; have eb := eqI_true eb
          subst ea; subst eb; cases h
          rw [real2, real_small (by omega)]
          exact ⟨.bool false, cmp rfl (by omega), fun ρ => .bool _⟩
        · cases h
  · split at h
    · rename_i eb
      split at h
      · rename_i ea
        have ea := eqI_true ea; have eb := eqI_true eb
        subst ea; subst eb; cases h
        rw [real1, real_small (by omega)]
        exact ⟨.bool false, cmp rfl (by omega), fun ρ => .bool _⟩
      · split at h
        · rename_i ea
          have ea := eqI_true ea; have eb := eqI_true eb
          subst ea; subst eb; cases h
          rw [real2, real_small (by omega)]
          exact ⟨.bool false, cmp rfl (by omega), fun ρ => .bool _⟩
        · cases h
    · split at h
      · rename_i eb
        split at h
        · rename_i ea
          have ea := eqI_true ea; have eb := eqI_true eb
          subst ea; subst eb; cases h
          rw [real1, real_small (by omega)]
          exact ⟨.bool false, cmp rfl (by omega), fun ρ => .bool _⟩
        · cases h
      · cases h
  · split at h
    · rename_i ea eb
      have ea := eqI_true ea; have eb := eqI_true eb
      subst ea; subst eb; cases h
      rw [real1, real_small (by omega)]
      refine ⟨.int .i64 (w + 1), by simp [binOp, Op.intArith, ps_pure, wrap_small (n := w + 1) (by omega) (by omega)], fun ρ => ?_⟩
      have := VRel.sym (σ := sig r fn w) (ρ := ρ) .i64 (big + 2) (by omega)
      have e : sig r fn w (big + 2) = w + 1 := by unfold sig; rw [if_pos (by omega)]; omega
      rw [e] at this
      exact this
    · cases h
  · split at h
    · rename_i ea
      have ea := eqI_true ea
      subst ea; cases h
      exact ⟨.bool true, by simp [binOp, Op.intCmp, ps_pure], fun ρ => .bool _⟩
    · cases h
  · split at h
    · rename_i ea
      have ea := eqI_true ea
      subst ea; cases h
      exact ⟨.bool false, by simp [binOp, Op.intCmp, ps_pure], fun ρ => .bool _⟩
    · cases h
  · cases h

theorem symOut_ok {P : Program} {r fn w : Int} {lo hi : Bool} (h1 : decide (w < 1) = lo) (h2 : decide (w > 1099511627776) = hi) : SymOk (sig r fn w) P (symOut lo hi) := by
  have hbig : (1125899906842624 : Int) < big := by decide
  intro op a b v h ty
  unfold symOut at h
  split at h
  · split at h
    · rename_i eb ea
      have ea := eqI_true ea; have eb := eqI_true eb
      subst ea; subst eb; cases h
      rw [real1, real_small (by omega)]
      exact ⟨.bool lo, by simp [binOp, Op.intCmp, ps_pure, h1], fun ρ => .bool _⟩
    · cases h
  · split at h
    · rename_i eb ea
      have ea := eqI_true ea; have eb := eqI_true eb
      subst ea; subst eb; cases h
      rw [real1, real_small (by omega)]
      exact ⟨.bool hi, by simp [binOp, Op.intCmp, ps_pure, ← h2], fun ρ => .bool _⟩
    · cases h
  · cases h

theorem symNone_ok {σ : Int → Int} {P : Program} : SymOk σ P (fun _ _ _ => none) := fun _ _ _ _ h => by cases h
theorem cfg_ok {σ : Int → Int} {C : Cfg} (ho : C.odd = odd0) (hs : SymOk σ Tryz.prog C.sym) : CfgOk σ C Tryz.prog := by
  refine ⟨zeros0, noNum0, ?_, ?_, hs⟩
  · rw [ho]; exact known0
  · rw [ho]; exact noZero0
end Go.Proofs.YtojhgdpmbpgdgaaGreatDoor
