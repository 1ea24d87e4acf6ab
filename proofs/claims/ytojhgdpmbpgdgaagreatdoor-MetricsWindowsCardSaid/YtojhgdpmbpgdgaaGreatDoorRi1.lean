/-
  Ri, part A: an evaluator of the model's code on an abstract memory (blocks told apart by numbers of their own): the memory. No program of ours stands in it.
-/
import Derived.Calls
namespace Go.Ri

/-- A tree of places by number. -/
inductive T (α : Type) where
  | leaf
  | node (l : T α) (v : Option α) (r : T α)

namespace T
variable {α : Type}
/-- What stands at a number. (Written by recursors: the kernel runs it.) -/
noncomputable def get (t : T α) : Nat → Option α :=
  @T.rec α (fun _ => Nat → Option α) (fun _ => none)
    (fun _ v _ ihl ihr n => @Nat.rec (fun _ => Option α) v (fun m _ => @Nat.rec (fun _ => Option α) (ihl (Nat.div m 2)) (fun _ _ => ihr (Nat.div m 2)) (Nat.mod m 2)) n) t
/-- The tree with x at a number, evaluated along its path. -/
noncomputable def set (f : Nat) : Nat → Option α → T α → T α :=
  @Nat.rec (fun _ => Nat → Option α → T α → T α) (fun _ _ t => t)
    (fun _ ih n x t => @T.rec α (fun _ => T α)
      (@Nat.rec (fun _ => T α) (.node .leaf x .leaf) (fun m _ => @Nat.rec (fun _ => T α)
          (@T.rec α (fun _ => T α) (.node .leaf none .leaf) (fun a b c _ _ => .node (.node a b c) none .leaf) (ih (Nat.div m 2) x .leaf))
          (fun _ _ => @T.rec α (fun _ => T α) (.node .leaf none .leaf) (fun a b c _ _ => .node .leaf none (.node a b c)) (ih (Nat.div m 2) x .leaf)) (Nat.mod m 2)) n)
      (fun l v r _ _ => @Nat.rec (fun _ => T α) (.node l x r) (fun m _ => @Nat.rec (fun _ => T α)
          (@T.rec α (fun _ => T α) (.node .leaf v r) (fun a b c _ _ => .node (.node a b c) v r) (ih (Nat.div m 2) x l))
          (fun _ _ => @T.rec α (fun _ => T α) (.node l v .leaf) (fun a b c _ _ => .node l v (.node a b c)) (ih (Nat.div m 2) x r)) (Nat.mod m 2)) n) t) f

@[simp] theorem get_leaf (n : Nat) : (leaf : T α).get n = none := rfl
@[simp] theorem get_zero (l r : T α) (v : Option α) : (node l v r).get 0 = v := rfl
theorem get_succ (l r : T α) (v : Option α) (m : Nat) : (node l v r).get (m + 1) = if m % 2 = 0 then l.get (m / 2) else r.get (m / 2) := by
  show @Nat.rec (fun _ => Option α) (l.get (m / 2)) (fun _ _ => r.get (m / 2)) (m % 2) = _
  rcases Nat.mod_two_eq_zero_or_one m with h | h <;> (simp [h]; rfl)
theorem wrapL (t r : T α) (v : Option α) : @T.rec α (fun _ => T α) (.node .leaf v r) (fun a b c _ _ => .node (.node a b c) v r) t = .node t v r := by cases t <;> rfl
theorem wrapR (t l : T α) (v : Option α) : @T.rec α (fun _ => T α) (.node l v .leaf) (fun a b c _ _ => .node l v (.node a b c)) t = .node l v t := by cases t <;> rfl
@[simp] theorem set_fuel_zero (n : Nat) (x : Option α) (t : T α) : set 0 n x t = t := rfl
theorem set_leaf_zero (f : Nat) (x : Option α) : set (f + 1) 0 x (leaf : T α) = node leaf x leaf := rfl
theorem set_node_zero (f : Nat) (x v : Option α) (l r : T α) : set (f + 1) 0 x (node l v r) = node l x r := rfl
theorem set_leaf_succ (f m : Nat) (x : Option α) : set (f + 1) (m + 1) x (leaf : T α) = if m % 2 = 0 then node (set f (m / 2) x leaf) none leaf else node leaf none (set f (m / 2) x leaf) := by
  show @Nat.rec (fun _ => T α) (@T.rec α (fun _ => T α) (.node .leaf none .leaf) (fun a b c _ _ => .node (.node a b c) none .leaf) (set f (m / 2) x .leaf))
    (fun _ _ => @T.rec α (fun _ => T α) (.node .leaf none .leaf) (fun a b c _ _ => .node .leaf none (.node a b c)) (set f (m / 2) x .leaf)) (m % 2) = _
  rw [wrapL, wrapR]
  rcases Nat.mod_two_eq_zero_or_one m with h | h <;> (simp [h]; rfl)
theorem set_node_succ (f m : Nat) (x v : Option α) (l r : T α) : set (f + 1) (m + 1) x (node l v r) = if m % 2 = 0 then node (set f (m / 2) x l) v r else node l v (set f (m / 2) x r) := by
  show @Nat.rec (fun _ => T α) (@T.rec α (fun _ => T α) (.node .leaf v r) (fun a b c _ _ => .node (.node a b c) v r) (set f (m / 2) x l))
    (fun _ _ => @T.rec α (fun _ => T α) (.node l v .leaf) (fun a b c _ _ => .node l v (.node a b c)) (set f (m / 2) x r)) (m % 2) = _
  rw [wrapL, wrapR]
  rcases Nat.mod_two_eq_zero_or_one m with h | h <;> (simp [h]; rfl)

theorem get_set (x : Option α) : ∀ (f n : Nat) (t : T α) (m : Nat), n + 1 < 2 ^ f → (set f n x t).get m = if m = n then x else t.get m := by
  intro f
  induction f with
  | zero => intro n t m h; simp at h
  | succ f ih =>
    intro n t m h
    cases t with
    | leaf =>
      cases n with
      | zero => rw [set_leaf_zero]; cases m <;> simp [get_succ]
      | succ n =>
        rw [set_leaf_succ]
        have h' : n / 2 + 1 < 2 ^ f := by rw [Nat.pow_succ] at h; omega
        split <;> rename_i hp
        · cases m with
          | zero => simp
          | succ m =>
            rw [get_succ]
            split <;> rename_i hm
            · rw [ih _ _ _ h']; by_cases e : m / 2 = n / 2
              · rw [if_pos e, if_pos (by omega)]
              · rw [if_neg e, if_neg (by omega)]; rfl
            · rw [if_neg (by intro e; have : m = n := by omega
                             subst this; exact hm hp)]; rfl
        · cases m with
          | zero => simp
          | succ m =>
            rw [get_succ]
            split <;> rename_i hm
            · rw [if_neg (by intro e; have : m = n := by omega
                             subst this; exact hp hm)]; rfl
            · rw [ih _ _ _ h']; by_cases e : m / 2 = n / 2
              · rw [if_pos e, if_pos (by omega)]
              · rw [if_neg e, if_neg (by omega)]; rfl
    | node l v r =>
      cases n with
      | zero => rw [set_node_zero]; cases m <;> simp [get_succ]
      | succ n =>
        rw [set_node_succ]
        have h' : n / 2 + 1 < 2 ^ f := by rw [Nat.pow_succ] at h; omega
        split <;> rename_i hp
        · cases m with
          | zero => simp
          | succ m =>
            rw [get_succ, get_succ]
            split <;> rename_i hm
            · rw [ih _ _ _ h']; by_cases e : m / 2 = n / 2
              · rw [if_pos e, if_pos (by omega)]
              · rw [if_neg e, if_neg (by omega)]
            · rw [if_neg (by intro e; have : m = n := by omega
                             subst this; exact hm hp)]
        · cases m with
          | zero => simp
          | succ m =>
            rw [get_succ, get_succ]
            split <;> rename_i hm
            · rw [if_neg (by intro e; have : m = n := by omega
                             subst this; exact hp hm)]
            · rw [ih _ _ _ h']; by_cases e : m / 2 = n / 2
              · rw [if_pos e, if_pos (by omega)]
              · rw [if_neg e, if_neg (by omega)]
end T

/-- A block of the abstract memory. 'wide': the real block may have more places behind these. 'row': cells that are only read. -/
inductive AObj where
  | cells (c : List Value) (elem : TypeId) (lo hi : Nat) (wide : Bool)
  | map (es : List MapEntry) (clock : Nat)
  | row (c : List Value)
  | rowU (ns : List Nat)

structure AH where
  t : T AObj
  next : Nat

def roof : Nat := 2 ^ 39
noncomputable def AH.get (h : AH) (r : Nat) : Option AObj := h.t.get r
noncomputable def AH.put (h : AH) (r : Nat) (o : Option AObj) : AH := ⟨h.t.set 40 r o, h.next⟩
noncomputable def AH.push (h : AH) (o : AObj) : AH := ⟨h.t.set 40 h.next (some o), h.next + 1⟩

noncomputable def AH.cell? (h : AH) (a : Addr) : Option Value :=
  match h.get a.block with
  | some (.cells c _ _ _ _) => match a.spot with
    | none => c[a.off]?
    | some _ => none
  | some (.row c) => match a.spot with
    | none => c[a.off]?
    | some _ => none
  | some (.rowU ns) => match a.spot with
    | none => match ns[a.off]? with
      | some n => some (.int .u64 (Int.ofNat n))
      | none => none
    | some _ => none
  | _ => none

def isIn (lo hi off : Nat) : Bool := match lo.ble off with
  | true => off.blt hi
  | false => false

noncomputable def AH.setCell? (h : AH) (a : Addr) (v : Value) : Option AH :=
  match h.get a.block with
  | some (.cells c e lo hi w) => match a.spot with
    | none => match Nat.blt a.off c.length, isIn lo hi a.off, Nat.blt a.block roof with
      | true, false, true => some (h.put a.block (some (.cells (c.set a.off v) e lo hi w)))
      | _, _, _ => none
    | some _ => none
  | _ => none

def oneCell : Value → Bool
  | .agg _ | .tuple _ => false
  | _ => true

def AObj.of : Obj → Option AObj
  | .cells c e f => some (.cells c.toList e f.1 f.2 false)
  | .map es c => some (.map es.toList c)
  | _ => none

def meet (lo hi a b : Nat) : Nat × Nat := if lo = hi then (a, b) else (min lo a, max hi b)

/-- The model's own operations, on the abstract memory. Where the tape would be asked in earnest: nothing. -/
noncomputable def asem (P : Program) {α : Type} : Sem α → AH → Option (α × AH)
  | .pure a, h => some (a, h)
  | .load _ a k, h => match h.cell? a with
    | some v => asem P (k v) h
    | none => none
  | .store _ a v k, h => match oneCell v with
    | true => match h.setCell? a v with
      | some h' => asem P k h'
      | none => none
    | false => none
  | .new o k, h => match AObj.of o with
    | some ao => match h.next.blt roof with
      | true => asem P (k h.next) (h.push ao)
      | false => none
    | none => none
  | .shape r k, h => match h.get r with
    | some (.cells c e _ _ false) => asem P (k (some (e, c.length))) h
    | some (.map _ _) => asem P (k none) h
    | _ => none
  | .freeze a n k, h => match n with
    | 0 => asem P k h
    | n + 1 => match h.get a.block, Nat.blt a.block roof with
      | some (.cells c e lo hi w), true => asem P k (h.put a.block (some (.cells c e (meet lo hi a.off (a.off + (n + 1))).1 (meet lo hi a.off (a.off + (n + 1))).2 w)))
      | _, _ => none
  | .frozen a k, h => match h.get a.block with
    | some (.cells _ _ lo hi _) => asem P (k (isIn lo hi a.off)) h
    | _ => none
  | .getObj r k, h => match h.get r with
    | some (.map es c) => asem P (k (.map es.toArray c)) h
    | _ => none
  | .setObj r o k, h => match h.get r, o, Nat.blt r roof with
    | some (.map _ _), .map es c, true => asem P k (h.put r (some (.map es.toList c)))
    | _, _, _ => none
  | .choose q k, h => match q.forced with
    | true => asem P (k 0) h
    | false => none
  | .sys .., _ => none
  | .program k, h => asem P (k P) h
  | .mark _ k, h => asem P k h
  | .halt _, _ => none

end Go.Ri
