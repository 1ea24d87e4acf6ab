/-
  Ri, part I: the operations that make trees of the model's steps: both sides go together.
  Ri, part J: more of the operations that make trees of the model's steps.
  Ri, part K: maps; rows of cells.
  Ri, part L: make, copy; rows of cells read and written at once.
  Ri, part M: copy; append.
  Ri, part N: append.
  Ri, part O: append, on both sides.
  Ri, part P: single operations, run.
  Ri, part Q: single operations, run, more of them.
-/
import Derived.Test.YtojhgdpmbpgdgaaGreatDoorRi4
import Derived.Laws.Append
namespace Go.Ri
variable {σ : Int → Int} {P : Program} {ρ : Ren}

/-! ### Values without addresses -/
theorem closedB_rel : ∀ (n : Nat) (v : Value), closedB n v = true → VRel σ ρ v v
  | 0, v, h => by simp [closedB] at h
  | n + 1, v, h => by
    cases v with
    | bool b => exact .bool b
    | int k x => simp [closedB] at h; exact .int k x h
    | float k b => exact .float k b
    | complex k a b => exact .complex k a b
    | string s => exact .string s
    | pointer a => cases a with
      | none => exact .ptr0
      | some a => simp [closedB] at h
    | slice a l c => cases a with
      | none => exact .sl0 l c
      | some a => simp [closedB] at h
    | map r => cases r with
      | none => exact .map0
      | some a => simp [closedB] at h
    | chan r => cases r with
      | none => exact .chan0
      | some a => simp [closedB] at h
    | func fn a b =>
      cases fn with
      | func f =>
        simp only [closedB] at h
        split at h
        · rename_i ha hb
          have ea : a = #[] := by simpa using ha
          have eb : b = #[] := by simpa using hb
          subst ea; subst eb
          exact .func f _ _ _ _ rfl rfl (fun i v v' h => by simp at h) (fun i v v' h => by simp at h)
        · cases h
      | _ => simp [closedB] at h
    | nilFunc => exact .nilFunc
    | iface t x => exact .iface t x x (closedB_rel n x (by simpa [closedB] using h))
    | nilIface => exact .nilIface
    | agg cs =>
      simp only [closedB, List.all_eq_true] at h
      refine .agg _ _ rfl fun i v v' hv hv' => ?_
      have : v = v' := by rw [hv] at hv'; exact Option.some.inj hv'
      subst this
      exact closedB_rel n v (h v (by rw [Array.mem_toList_iff]; exact Array.mem_of_getElem? hv))
    | tuple cs =>
      simp only [closedB, List.all_eq_true] at h
      refine .tuple _ _ rfl fun i v v' hv hv' => ?_
      have : v = v' := by rw [hv] at hv'; exact Option.some.inj hv'
      subst this
      exact closedB_rel n v (h v (by rw [Array.mem_toList_iff]; exact Array.mem_of_getElem? hv))

/-- What is asked of the program: its zero values bear no addresses. -/
def ZerosOk (P : Program) : Prop := ∀ t i z, P.info? t = some i → i.zero = some z → closedB 4 z = true

theorem SRel.typeInfoI (t : TypeId) : SRel σ P (fun _ i i' => i = i' ∧ P.info? t = some i) ρ (typeInfo t) (typeInfo t) := by
  unfold typeInfo
  refine SRel.bind' (R := fun _ p p' => p = P ∧ p' = P) ⟨_, rfl, _, rfl, rfl, rfl⟩ fun ρ' _ p p' hp => ?_
  obtain ⟨rfl, rfl⟩ := hp
  split
  · rename_i i hi; exact .ret ⟨rfl, hi⟩
  · exact .stuck'
theorem SRel.zeroValue' (hz : ZerosOk P) (t : TypeId) : SRel σ P (fun ρ v v' => VRel σ ρ v v' ∧ v = v' ∧ closedB 4 v = true) ρ (zeroValue t) (zeroValue t) := by
  unfold zeroValue
  refine SRel.bind' (SRel.typeInfoI t) fun ρ' _ i i' hi => ?_
  obtain ⟨rfl, hi⟩ := hi
  split
  · rename_i z hzz
    have := hz t i z hi hzz
    exact .ret ⟨closedB_rel 4 z this, rfl, this⟩
  · exact .unsupported'

/-! ### alloc, box -/
def NewA (ρ : Ren) (a a' : Addr) : Prop := ∃ p, ρ a.block = some p ∧ a' = ⟨p.blk, a.off, a.spot⟩ ∧ p.wide = false
theorem NewA.addr {a a' : Addr} (h : NewA ρ a a') : ARel ρ a a' := by obtain ⟨p, hp, e, _⟩ := h; exact ⟨p, hp, e⟩
theorem SRel.newRow' (e : TypeId) {c c' : Array Value} (h : VsRel σ ρ c.toList c'.toList) : SRel σ P NewA ρ (newRow e c) (newRow e c') := by
  unfold newRow
  refine SRel.bind' (R := NewR) (.inr ⟨_, _, rfl, .cells c c' e (0, 0) h, fun ρ' _ r r' hr => ⟨r', rfl, hr⟩⟩) fun ρ' hl r r' hr => ?_
  obtain ⟨p, hp, rfl, hw⟩ := hr
  exact .ret ⟨p, hp, rfl, hw⟩
theorem SRel.newVar' (e : TypeId) {v v' : Value} (h : VRel σ ρ v v') : SRel σ P NewA ρ (newVar e v) (newVar e v') := SRel.newRow' e h.cells'
theorem SRel.box' (e : TypeId) {v v' : Value} (h : VRel σ ρ v v') : SRel σ P (VR σ) ρ (Instr.box e v) (Instr.box e v') := by
  unfold Instr.box
  exact SRel.bind' (SRel.newVar' e h) fun ρ' _ a a' ha => .ret (.of_addr ha.addr)
theorem SRel.alloc' (hz : ZerosOk P) (e : TypeId) : SRel σ P (VR σ) ρ (Instr.alloc e true (.tuple #[])) (Instr.alloc e true (.tuple #[])) := by
  unfold Instr.alloc
  refine SRel.bind' (SRel.zeroValue' hz e) fun ρ' _ z z' hzz => ?_
  exact SRel.bind' (SRel.newVar' e hzz.1) fun ρ' _ a a' ha => .ret (.of_addr ha.addr)

/-! ### build -/
theorem foldl_set_rel {l l' : List Value} (h : VsRel σ ρ l l') : ∀ (j off : Nat) (cs cs' : Array Value), VsRel σ ρ cs.toList cs'.toList →
    VsRel σ ρ ((l.zipIdx j).foldl (fun cs (p : Value × Nat) => cs.setIfInBounds (off + p.2) p.1) cs).toList ((l'.zipIdx j).foldl (fun cs (p : Value × Nat) => cs.setIfInBounds (off + p.2) p.1) cs').toList := by
  induction h with
  | nil => intro j off cs cs' h; exact h
  | cons hv _ ih =>
    intro j off cs cs' h
    simp only [List.zipIdx_cons, List.foldl_cons]
    exact ih (j + 1) off _ _ (by simp only [Array.toList_setIfInBounds]; exact h.set _ hv)

theorem fill_rel (place : Nat → Option (Nat × Nat)) : ∀ (l l' : List (Nat × Value)), LRel (fun (x y : Nat × Value) => x.1 = y.1 ∧ VRel σ ρ x.2 y.2) l l' → ∀ (cs cs' : Array Value), VsRel σ ρ cs.toList cs'.toList →
    ∀ r, Instr.fill place cs l = some r → ∃ r', Instr.fill place cs' l' = some r' ∧ VsRel σ ρ r.toList r'.toList
  | _, _, .nil, cs, cs', h, r, e => by simp [Instr.fill] at e; subst e; exact ⟨cs', by simp [Instr.fill], h⟩
  | _, _, .cons (a := (i, v)) (b := (i', v')) ⟨hi, hv⟩ t, cs, cs', h, r, e => by
    simp only at hi hv
    subst hi
    have hc := hv.cells'
    have hs : v'.cells.size = v.cells.size := by have := hc.length; simpa using this.symm
    have hs2 : cs'.size = cs.size := by have := h.length; simpa using this.symm
    simp only [Instr.fill] at e ⊢
    split at e
    · cases e
    · rename_i off size hp
      rw [hs, hs2]
      split at e
      · cases e
      · rename_i hn
        rw [if_neg hn]
        refine fill_rel place _ _ t _ _ ?_ r e
        have := foldl_set_rel hc 0 off cs cs' h
        simp only [← Array.foldl_toList, Array.toList_zipIdx]
        exact this

theorem zip_rel (is : List Nat) : ∀ {l l' : List Value}, VsRel σ ρ l l' → LRel (fun (x y : Nat × Value) => x.1 = y.1 ∧ VRel σ ρ x.2 y.2) (is.zip l) (is.zip l') := by
  induction is with
  | nil => intro l l' _; simp; exact .nil
  | cons i is ih =>
    intro l l' h
    cases h with
    | nil => simp; exact .nil
    | cons h t => exact .cons ⟨rfl, h⟩ (ih t)

theorem SRel.same {α : Type} {s : Sem α} {a : α} (h : psem P s = some a) : SRel σ P EqR ρ s s := by
  induction s with
  | pure a => exact ⟨_, rfl, rfl⟩
  | program k ih => exact ⟨k, rfl, ih P h⟩
  | mark m k ih => exact ⟨m, k, rfl, ih h⟩
  | _ => simp [psem] at h

theorem SRel.build' (hz : ZerosOk P) (t : TypeId) (ho : placesOk P t = true) {ps ps' : Array (Nat × Value)} (h : LRel (fun (x y : Nat × Value) => x.1 = y.1 ∧ VRel σ ρ x.2 y.2) ps.toList ps'.toList) :
    SRel σ P (VR σ) ρ (Instr.build t ps) (Instr.build t ps') := by
  unfold Instr.build
  refine SRel.bind' (SRel.zeroValue' hz t) fun ρ₁ h₁ z z' hzz => ?_
  obtain ⟨hr, rfl, _⟩ := hzz
  have h1 : LRel (fun (x y : Nat × Value) => x.1 = y.1 ∧ VRel σ ρ₁ x.2 y.2) ps.toList ps'.toList := h.mono fun _ _ ⟨a, b⟩ => ⟨a, b.mono h₁⟩
  refine SRel.bind' (R := fun _ d d' => d = d' ∧ P.underlying t = some d) (by
    unfold underlying
    refine SRel.bind' (R := fun _ p p' => p = P ∧ p' = P) ⟨_, rfl, _, rfl, rfl, rfl⟩ fun ρ' _ p p' hp => ?_
    obtain ⟨rfl, rfl⟩ := hp
    split
    · rename_i i hi; exact .ret ⟨rfl, hi⟩
    · exact .stuck') fun ρ₂ h₂ d d' hd => ?_
  obtain ⟨rfl, hd⟩ := hd
  have h2 : LRel (fun (x y : Nat × Value) => x.1 = y.1 ∧ VRel σ ρ₂ x.2 y.2) ps.toList ps'.toList := h1.mono fun _ _ ⟨a, b⟩ => ⟨a, b.mono h₂⟩
  have hr2 := (hr.mono h₂).cells'
  have fin : ∀ (ρ₃ : Ren) (_ : Le ρ₂ ρ₃) (place : Nat → Option (Nat × Nat)) (msg : String), SRel σ P (VR σ) ρ₃
      (match Instr.fill place z.cells ps.toList with | some cells => pure (.agg cells) | _ => stuck msg)
      (match Instr.fill place z.cells ps'.toList with | some cells => pure (.agg cells) | _ => stuck msg) := by
    intro ρ₃ h₃ place msg
    cases e : Instr.fill place z.cells ps.toList with
    | none => exact .stuck'
    | some r =>
      obtain ⟨r', e', hv⟩ := fill_rel place _ _ (h2.mono fun _ _ ⟨a, b⟩ => ⟨a, b.mono h₃⟩) z.cells z.cells (hr2.mono fun _ _ => VRel.mono h₃) r e
      rw [e']
      exact .ret (.agg _ _ hv.to_array.1 hv.to_array.2)
  split
  · rename_i fields
    unfold placesOk at ho
    simp only [hd] at ho
    split at ho
    · rename_i pl hpl
      refine SRel.bind' (SRel.same hpl) fun ρ₃ h₃ q q' hq => ?_
      cases hq
      exact fin ρ₃ h₃ _ _
    · cases ho
  · refine SRel.bind' (SRel.sizeOf' _) fun ρ₃ h₃ q q' hq => ?_
    cases hq
    exact fin ρ₃ h₃ _ _
  · exact .stuck'

theorem VsRel.refl_closed {l : List Value} (h : ∀ v, v ∈ l → VRel σ ρ v v) : VsRel σ ρ l l := by
  induction l with
  | nil => exact .nil
  | cons a l ih => exact .cons (h a (by simp)) (ih fun v hv => h v (by simp [hv]))

theorem cells_closed {z : Value} (h : closedB 4 z = true) : ∀ v, v ∈ z.cells.toList → VRel σ ρ v v := by
  intro v hv
  have hr := (closedB_rel (σ := σ) (ρ := ρ) 4 z h).cells'
  obtain ⟨i, hi⟩ := List.mem_iff_getElem?.1 hv
  obtain ⟨b, hb, hb2⟩ := hr.get i v hi
  have : v = b := by rw [hi] at hb; exact Option.some.inj hb
  exact this ▸ hb2

theorem zeros_rel (z : Array Value) (hz : ∀ v, v ∈ z.toList → VRel σ ρ v v) (n : Nat) (hn : n = 0 ∨ 0 < z.size) : VsRel σ ρ ((Array.range n).map fun i => z[i % z.size]!).toList ((Array.range n).map fun i => z[i % z.size]!).toList := by
  refine VsRel.refl_closed fun v hv => ?_
  simp only [Array.toList_map, List.mem_map] at hv
  obtain ⟨i, hi, rfl⟩ := hv
  rcases hn with rfl | hn
  · simp at hi
  · have : i % z.size < z.size := Nat.mod_lt _ hn
    rw [getElem!_pos z _ this]
    exact hz _ (by simp)
end Go.Ri
namespace Go.Ri
variable {σ : Int → Int} {P : Program} {ρ : Ren}

theorem zeros_rel' (z : Array Value) (hz : ∀ v, v ∈ z.toList → VRel σ ρ v v) (n : Nat) : VsRel σ ρ ((Array.range n).map fun i => z[i % z.size]!).toList ((Array.range n).map fun i => z[i % z.size]!).toList := by
  rcases Nat.eq_zero_or_pos z.size with h | h
  · refine VsRel.refl_closed fun v hv => ?_
    simp only [Array.toList_map, List.mem_map] at hv
    obtain ⟨i, hi, rfl⟩ := hv
    have : z = #[] := by apply Array.eq_empty_of_size_eq_zero h
    subst this
    exact .bool _
  · exact zeros_rel z hz n (.inr h)

theorem SRel.underlyingI (t : TypeId) : SRel σ P (fun _ d d' => d = d' ∧ P.underlying t = some d) ρ (underlying t) (underlying t) := by
  unfold underlying
  refine SRel.bind' (R := fun _ p p' => p = P ∧ p' = P) ⟨_, rfl, _, rfl, rfl, rfl⟩ fun ρ' _ p p' hp => ?_
  obtain ⟨rfl, rfl⟩ := hp
  split
  · rename_i i hi; exact .ret ⟨rfl, hi⟩
  · exact .stuck'

/-- A slice of a new block. -/
theorem VRel.new_slice {a a' : Addr} (h : NewA ρ a a') (n c : Nat) : VRel σ ρ (.slice (some a) n c) (.slice (some a') n c) := by
  obtain ⟨p, hp, rfl, hw⟩ := h
  exact .sl a.block a.off a.spot p n c c hp (Nat.le_refl _) (fun _ => rfl) (fun e => by rw [hw] at e; cases e)

theorem SRel.buildSlice' (hz : ZerosOk P) (t : TypeId) (n : Nat) {ps ps' : Array (Nat × Value)} (h : LRel (fun (x y : Nat × Value) => x.1 = y.1 ∧ VRel σ ρ x.2 y.2) ps.toList ps'.toList) :
    SRel σ P (VR σ) ρ (Instr.buildSlice t n ps) (Instr.buildSlice t n ps') := by
  unfold Instr.buildSlice
  refine SRel.bind' (SRel.underlyingI t) fun ρ₁ h₁ d d' hd => ?_
  obtain ⟨rfl, hd⟩ := hd
  split
  · rename_i elem
    refine SRel.bind' (SRel.sizeOf' elem) fun ρ₂ h₂ q q' hq => ?_
    cases hq
    have tail : ∀ (ρ₃ : Ren) (_ : Le ρ ρ₃) (z : Array Value), (∀ v, v ∈ z.toList → VRel σ ρ₃ v v) →
          SRel σ P (VR σ) ρ₃ (match Instr.fill (fun i => some (i * q, q)) ((Array.range (n * q)).map fun i => z[i % z.size]!) ps.toList with
            | some cells => do pure (.slice (some (← newRow elem cells)) n n)
            | _ => stuck "buildSlice: a part of the wrong size") (match Instr.fill (fun i => some (i * q, q)) ((Array.range (n * q)).map fun i => z[i % z.size]!) ps'.toList with
            | some cells => do pure (.slice (some (← newRow elem cells)) n n)
            | _ => stuck "buildSlice: a part of the wrong size") := by
        intro ρ₃ h₃ z hz3
        have hl : LRel (fun (x y : Nat × Value) => x.1 = y.1 ∧ VRel σ ρ₃ x.2 y.2) ps.toList ps'.toList := h.mono fun _ _ ⟨a, b⟩ => ⟨a, b.mono h₃⟩
        cases e : Instr.fill (fun i => some (i * q, q)) ((Array.range (n * q)).map fun i => z[i % z.size]!) ps.toList with
        | none => exact .stuck'
        | some r =>
          obtain ⟨r', e', hv⟩ := fill_rel _ _ _ hl _ _ (zeros_rel' z hz3 (n * q)) r e
          rw [e']
          exact SRel.bind' (SRel.newRow' elem hv) fun ρ₄ _ a a' ha => .ret (VRel.new_slice ha n n)
    by_cases c1 : n * q > 2 ^ 24
    · simp only [if_pos c1]; exact trivial
    · simp only [if_neg c1]
      by_cases c2 : n * q = 0
      · simp only [if_pos c2]
        exact tail ρ₂ (h₁.trans h₂) #[] (by simp)
      · simp only [if_neg c2]
        refine SRel.bind' (SRel.zeroValue' hz elem) fun ρ₃ h₃ z z' hzz => ?_
        obtain ⟨_, rfl, hc⟩ := hzz
        exact tail ρ₃ (h₁.trans (h₂.trans h₃)) z.cells (cells_closed hc)
  · exact .stuck'

theorem SRel.makeMap' (t : TypeId) : SRel σ P (VR σ) ρ (Instr.makeMap t none) (Instr.makeMap t none) := by
  unfold Instr.makeMap
  refine SRel.bind' (R := NewR) (.inr ⟨_, _, rfl, .map #[] #[] 0 .nil, fun ρ' _ r r' hr => ⟨r', rfl, hr⟩⟩) fun ρ' hl r r' hr => ?_
  obtain ⟨p, hp, rfl, hw⟩ := hr
  exact .ret (.map r p hp)

theorem SRel.part' (t : TypeId) {cs cs' : Array Value} (h : VsRel σ ρ cs.toList cs'.toList) (off : Nat) : SRel σ P (VR σ) ρ (part t cs off) (part t cs' off) := by
  unfold part
  refine SRel.bind' (SRel.isAgg' t) fun ρ₁ h₁ b b' hb => ?_
  cases hb
  have h1 := h.mono fun _ _ => VRel.mono (σ := σ) h₁
  split
  · refine SRel.bind' (SRel.sizeOf' t) fun ρ₂ h₂ q q' hq => ?_
    cases hq
    refine .ret (.agg _ _ ?_ ?_)
    · have := h.length
      simp only [Array.size_extract]
      simp only [Array.length_toList] at this
      omega
    · intro i v v' hv hv'
      rw [Array.getElem?_extract] at hv hv'
      have h2 := (VsRel.to_array (h1.mono fun _ _ => VRel.mono (σ := σ) h₂)).2
      split at hv
      · split at hv'
        · exact h2 _ _ _ hv hv'
        · cases hv'
      · cases hv
  · have hl : cs'.size = cs.size := by have := h.length; simpa using this.symm
    cases e : cs[off]? with
    | none => exact .stuck'
    | some v =>
      obtain ⟨v', hv', hr⟩ := h1.get off v (by simpa using e)
      rw [show cs'[off]? = some v' by simpa using hv']
      exact .ret hr

theorem SRel.field' (t : TypeId) (f : Nat) {v v' : Value} (h : VRel σ ρ v v') : SRel σ P (VR σ) ρ (Instr.field t v f) (Instr.field t v' f) := by
  unfold Instr.field
  refine SRel.bind' (SRel.underlyingI t) fun ρ₁ h₁ d d' hd => ?_
  obtain ⟨rfl, hd⟩ := hd
  split
  · split
    · refine SRel.bind' (R := fun ρ c c' => VsRel σ ρ c.toList c'.toList) ?_ fun ρ₂ h₂ c c' hc => SRel.part' _ hc _
      cases h.mono h₁ with
      | agg a a' ha ra => exact .ret (VsRel.of_array ha ra)
      | _ => exact .stuck'
    · exact .stuck'
  · exact .stuck'

/-! ### maps -/
theorem findNow_rel (kind : TypeDesc) (k : Value) {es es' : List MapEntry} (h : LRel (ERel σ ρ) es es') : ∀ (i : Nat),
    (Instr.findNow kind k es i = none ∧ Instr.findNow kind k es' i = none) ∨ (Instr.findNow kind k es i = some none ∧ Instr.findNow kind k es' i = some none) ∨
    ∃ j v v', Instr.findNow kind k es i = some (some (j, v)) ∧ Instr.findNow kind k es' i = some (some (j, v')) ∧ VRel σ ρ v v' := by
  induction h with
  | nil => intro i; exact .inr (.inl ⟨rfl, rfl⟩)
  | @cons e e' _ _ h _ ih =>
    intro i
    simp only [Instr.findNow, h.key]
    cases Instr.sameNow kind k e.key with
    | none => exact .inl ⟨rfl, rfl⟩
    | some b => cases b with
      | true => exact .inr (.inr ⟨i, e.val, e'.val, rfl, rfl, h.val⟩)
      | false => exact ih (i + 1)
end Go.Ri
namespace Go.Ri
variable {σ : Int → Int} {P : Program} {ρ : Ren}

theorem SRel.ite' {α : Type} {R : Ren → α → α → Prop} {c : Prop} [Decidable c] {a b a' b' : Sem α} (h1 : c → SRel σ P R ρ a a') (h2 : ¬ c → SRel σ P R ρ b b') :
    SRel σ P R ρ (if c then a else b) (if c then a' else b') := by
  by_cases h : c
  · simp only [if_pos h]; exact h1 h
  · simp only [if_neg h]; exact h2 h

theorem SRel.equal_plain (t : TypeId) {x y : Value} (hx : plainS x = true) (hy : plainS y = true) : SRel σ P EqR ρ (Op.equal t x y) (Op.equal t x y) := by
  show SRel σ P EqR ρ (Op.equalIn (9999 + 1) t x y) (Op.equalIn (9999 + 1) t x y)
  unfold Op.equalIn
  refine SRel.bind' (SRel.underlying' t) fun ρ₁ h₁ d d' hd => ?_
  cases hd
  cases x <;> simp [plainS] at hx <;> cases y <;> simp [plainS] at hy <;> cases d <;> first
    | exact .stuck'
    | exact .ret rfl
    | exact .ite' (fun _ => .ret rfl) (fun _ => .stuck')
    | (dsimp only; split <;> first | exact .stuck' | exact .ret rfl)

theorem SRel.findAsking' (t : TypeId) {k : Value} (hk : plainS k = true) : ∀ (es es' : List MapEntry) (ρ : Ren), LRel (ERel σ ρ) es es' → ∀ (i : Nat),
    SRel σ P (fun ρ r r' => (r = none ∧ r' = none) ∨ ∃ j v v', r = some (j, v) ∧ r' = some (j, v') ∧ VRel σ ρ v v') ρ (Instr.findAsking t k es i) (Instr.findAsking t k es' i)
  | _, _, ρ, .nil, i => by unfold Instr.findAsking; exact .ret (.inl ⟨rfl, rfl⟩)
  | _, _, ρ, .cons (a := e) (b := e') h tl, i => by
    unfold Instr.findAsking
    rw [h.key]
    refine SRel.bind' (SRel.equal_plain t hk h.plain) fun ρ₁ h₁ b b' hb => ?_
    cases hb
    cases b
    · exact SRel.findAsking' t hk _ _ ρ₁ (tl.mono fun _ _ ⟨a, b, c, d⟩ => ⟨a, b, c.mono h₁, d⟩) (i + 1)
    · exact .ret (.inr ⟨i, e.val, e'.val, rfl, rfl, h.val.mono h₁⟩)

abbrev FoundR (σ : Int → Int) : Ren → Option (Nat × Value) → Option (Nat × Value) → Prop := fun ρ r r' => (r = none ∧ r' = none) ∨ ∃ j v v', r = some (j, v) ∧ r' = some (j, v') ∧ VRel σ ρ v v'

theorem SRel.findKey' (t : TypeId) {k : Value} (hk : plainS k = true) {es es' : List MapEntry} (h : LRel (ERel σ ρ) es es') : SRel σ P (FoundR σ) ρ (Instr.findKey t k es) (Instr.findKey t k es') := by
  unfold Instr.findKey
  refine SRel.bind' (SRel.underlying' t) fun ρ₁ h₁ d d' hd => ?_
  cases hd
  have h1 : LRel (ERel σ ρ₁) es es' := h.mono fun _ _ ⟨a, b, c, d⟩ => ⟨a, b, c.mono h₁, d⟩
  rcases findNow_rel d k h1 0 with ⟨e1, e2⟩ | ⟨e1, e2⟩ | ⟨j, v, v', e1, e2, hv⟩
  · rw [e1, e2]; exact SRel.findAsking' t hk _ _ ρ₁ h1 0
  · rw [e1, e2]; exact .ret (.inl ⟨rfl, rfl⟩)
  · rw [e1, e2]; exact .ret (.inr ⟨j, v, v', rfl, rfl, hv⟩)

theorem SRel.checkKey' (e : Bool) (n : Nat) (t : TypeId) {k : Value} (hk : plainS k = true) : SRel σ P EqR ρ (Instr.checkKey e n t k) (Instr.checkKey e n t k) := by
  cases n with
  | zero => exact .unsupported'
  | succ n =>
    unfold Instr.checkKey
    refine SRel.bind' (SRel.underlying' t) fun ρ₁ h₁ d d' hd => ?_
    cases hd
    cases k <;> simp [plainS] at hk <;> cases d <;> first | exact .stuck' | exact .ret rfl

theorem LRel.isEmpty {α β : Type} {R : α → β → Prop} {l : List α} {m : List β} (h : LRel R l m) : l.isEmpty = m.isEmpty := by cases h <;> rfl

theorem SRel.lookup' (hz : ZerosOk P) (t : TypeId) (ok : Bool) {v v' k k' : Value} (h : VRel σ ρ v v') (hkr : VRel σ ρ k k') (hk : plainS k = true) :
    SRel σ P (VR σ) ρ (Instr.lookup t v k ok) (Instr.lookup t v' k' ok) := by
  rw [hkr.plain hk]
  unfold Instr.lookup
  refine SRel.bind' (SRel.underlyingI t) fun ρ₁ h₁ d d' hd => ?_
  obtain ⟨rfl, hd⟩ := hd
  split
  · rename_i key elem
    have go : ∀ (ρ₂ : Ren) (es es' : Array MapEntry), LRel (ERel σ ρ₂) es.toList es'.toList →
        SRel σ P (VR σ) ρ₂ (do
          Instr.checkKey es.isEmpty 10000 key k
          let (v, ok₁) ← match ← Instr.findKey key k es.toList with
            | some (_, v) => pure (v, true)
            | none => pure (← zeroValue elem, false)
          pure (if ok then .tuple #[v, .bool ok₁] else v)) (do
          Instr.checkKey es'.isEmpty 10000 key k
          let (v, ok₁) ← match ← Instr.findKey key k es'.toList with
            | some (_, v) => pure (v, true)
            | none => pure (← zeroValue elem, false)
          pure (if ok then .tuple #[v, .bool ok₁] else v)) := by
      intro ρ₂ es es' hl
      have he : es'.isEmpty = es.isEmpty := by
        have := hl.length
        simp only [Array.length_toList] at this
        simp [Array.isEmpty, this]
      rw [he]
      have fin : ∀ (ρ₃ : Ren) (x x' : Value) (b : Bool), VRel σ ρ₃ x x' → SRel σ P (VR σ) ρ₃ (pure (if ok then .tuple #[x, .bool b] else x)) (pure (if ok then .tuple #[x', .bool b] else x')) := by
        intro ρ₃ x x' b hx
        cases ok
        · exact .ret hx
        · refine .ret ?_
          simp only [if_true]
          have : VsRel σ ρ₃ (#[x, .bool b] : Array Value).toList (#[x', .bool b] : Array Value).toList := .cons hx (.cons (.bool b) .nil)
          exact .tuple _ _ this.to_array.1 this.to_array.2
      refine SRel.bind' (SRel.checkKey' _ _ key hk) fun ρ₃ h₃ _ _ _ => ?_
      refine SRel.bind' (SRel.findKey' key hk (hl.mono fun _ _ ⟨a, b, c, d⟩ => ⟨a, b, c.mono h₃, d⟩)) fun ρ₄ h₄ r r' hr => ?_
      rcases hr with ⟨rfl, rfl⟩ | ⟨j, x, x', rfl, rfl, hx⟩
      · refine SRel.bind' (SRel.zeroValue' hz elem) fun ρ₅ h₅ z z' hzz => ?_
        obtain ⟨hr, rfl, _⟩ := hzz
        exact fin ρ₅ z z false hr
      · exact fin ρ₄ x x' true hx
    cases h.mono h₁ with
    | map0 => exact go ρ₁ #[] #[] .nil
    | map id p hp =>
      refine SRel.bind' (R := fun ρ o o' => ObjRel σ ρ o o') ⟨_, _, rfl, ⟨p, hp, rfl⟩, fun o o' ho => ⟨_, rfl, ho⟩⟩ fun ρ₂ h₂ o o' ho => ?_
      cases ho with
      | map es es' ck hl => exact go ρ₂ es es' hl
      | _ => exact .stuck'
    | _ => exact .stuck'
  · exact .stuck'

theorem SRel.keyThatStays' {old new : Value} (h' : plainS new = true) : SRel σ P (fun _ a b => a = b ∧ plainS a = true) ρ (Instr.keyThatStays old new) (Instr.keyThatStays old new) := by
  unfold Instr.keyThatStays
  split
  · exact .ret ⟨rfl, h'⟩
  · refine .inl rfl

theorem SRel.mapUpdate' (t : TypeId) {m m' k k' x x' : Value} (h : VRel σ ρ m m') (hkr : VRel σ ρ k k') (hx : VRel σ ρ x x') (hk : plainS k = true) :
    SRel σ P EqR ρ (Instr.mapUpdate t m k x) (Instr.mapUpdate t m' k' x') := by
  rw [hkr.plain hk]
  unfold Instr.mapUpdate
  refine SRel.bind' (SRel.underlyingI t) fun ρ₁ h₁ d d' hd => ?_
  obtain ⟨rfl, hd⟩ := hd
  split
  · rename_i key elem
    cases h.mono h₁ with
    | map id p hp =>
      refine SRel.bind' (R := fun ρ o o' => ObjRel σ ρ o o') ⟨_, _, rfl, ⟨p, hp, rfl⟩, fun o o' ho => ⟨_, rfl, ho⟩⟩ fun ρ₂ h₂ o o' ho => ?_
      cases ho with
      | map es es' ck hl =>
        refine SRel.bind' (SRel.checkKey' _ _ key hk) fun ρ₃ h₃ _ _ _ => ?_
        have hl3 : LRel (ERel σ ρ₃) es.toList es'.toList := hl.mono fun _ _ ⟨a, b, c, d⟩ => ⟨a, b, c.mono h₃, d⟩
        refine SRel.bind' (SRel.findKey' key hk hl3) fun ρ₄ h₄ r r' hr => ?_
        have hl4 : LRel (ERel σ ρ₄) es.toList es'.toList := hl3.mono fun _ _ ⟨a, b, c, d⟩ => ⟨a, b, c.mono h₄, d⟩
        have hle := h₁.trans (h₂.trans (h₃.trans h₄))
        rcases hr with ⟨rfl, rfl⟩ | ⟨j, y, y', rfl, rfl, hy⟩
        · refine ⟨_, _, _, rfl, ⟨p, (h₂.trans (h₃.trans h₄)) _ _ hp, rfl⟩, .map _ _ _ ?_, ⟨_, rfl, rfl⟩⟩
          simp only [Array.toList_push]
          exact hl4.append (.cons ⟨rfl, hk, hx.mono hle, rfl⟩ .nil)
        · have hold : ((es'[j]?).map (·.key)).getD k = ((es[j]?).map (·.key)).getD k ∧ plainS (((es[j]?).map (·.key)).getD k) = true := by
            cases e : es[j]? with
            | none =>
              have : es'[j]? = none := by
                have := hl4.length
                simp only [Array.length_toList] at this
                simp only [Array.getElem?_eq_none_iff] at e ⊢
                omega
              rw [this]; exact ⟨rfl, hk⟩
            | some en =>
              obtain ⟨en', h1, h2⟩ := hl4.get j en (by simpa using e)
              rw [show es'[j]? = some en' by simpa using h1]
              exact ⟨h2.key, h2.plain⟩
          dsimp only
          rw [hold.1]
          refine SRel.bind' (SRel.keyThatStays' (old := ((es[j]?).map (·.key)).getD k) hk) fun ρ₅ h₅ kk kk' hkk => ?_
          obtain ⟨rfl, hkp⟩ := hkk
          refine ⟨_, _, _, rfl, ⟨p, (h₂.trans (h₃.trans (h₄.trans h₅))) _ _ hp, rfl⟩, .map _ _ _ ?_, ⟨_, rfl, rfl⟩⟩
          refine LRel.of_get _ _ (by have := hl4.length; simpa using this) fun i a b ha hb => ?_
          simp only [Array.getElem?_toList, Array.getElem?_modify] at ha hb
          by_cases eij : j = i
          · subst eij
            simp only [if_true] at ha hb
            cases e : es[j]? with
            | none => rw [e] at ha; cases ha
            | some en =>
              obtain ⟨en', h1, h2⟩ := hl4.get j en (by simpa using e)
              rw [show es'[j]? = some en' by simpa using h1] at hb
              rw [e] at ha
              cases ha; cases hb
              exact ⟨rfl, hkp, hx.mono (hle.trans h₅), h2.born⟩
          · simp only [if_neg eij] at ha hb
            obtain ⟨en', h1, h2⟩ := hl4.get i a (by simpa using ha)
            have : b = en' := by rw [show es'[i]? = some en' by simpa using h1] at hb; exact (Option.some.inj hb).symm
            subst this
            exact ⟨h2.key, h2.plain, h2.val.mono h₅, h2.born⟩
      | _ => exact .stuck'
    | map0 => exact ⟨_, rfl, trivial⟩
    | _ => exact .stuck'
  · exact .stuck'
end Go.Ri
namespace Go.Ri
variable {σ : Int → Int} {P : Program} {ρ : Ren}

theorem SRel.asInt' {v : Value} : SRel σ P EqR ρ (asInt v) (asInt v) := by
  unfold asInt asIntOf
  cases v with
  | int k n => exact .ret rfl
  | pointer a => cases a with
    | none => exact trivial
    | some a => exact trivial
  | _ => exact trivial

theorem SRel.askRoom' (n : Nat) : SRel σ P EqR ρ (askRoom n) (askRoom n) := by
  unfold askRoom
  exact .ite' (fun _ => ⟨_, _, rfl, ⟨_, rfl, rfl⟩⟩) (fun _ => .ret rfl)

theorem SRel.runtimePanic' {α : Type} {R : Ren → α → α → Prop} (e : RuntimeError) (he : ∀ i c a m, e ≠ .typeAssertion i c a m) (h2 : e ≠ .panicNil) : SRel σ P R ρ (runtimePanic e) (runtimePanic e) := by
  unfold runtimePanic
  refine SRel.bind' SRel.program' fun ρ' _ p p' hp => ?_
  cases hp
  cases e with
  | typeAssertion i c a m => exact absurd rfl (he i c a m)
  | panicNil => exact absurd rfl h2
  | _ => exact trivial

theorem SRel.makeSlice' (hz : ZerosOk P) (t : TypeId) (l c : Value) : SRel σ P (VR σ) ρ (Instr.makeSlice t l c) (Instr.makeSlice t l c) := by
  unfold Instr.makeSlice
  refine SRel.bind' (SRel.underlying' t) fun ρ₁ h₁ d d' hd => ?_
  cases hd
  split
  · rename_i elem
    refine SRel.bind' SRel.asInt' fun ρ₂ h₂ l l' hl => ?_
    cases hl
    refine SRel.bind' SRel.asInt' fun ρ₃ h₃ c c' hc => ?_
    cases hc
    refine SRel.bind' (SRel.typeInfo' elem) fun ρ₄ h₄ i i' hi => ?_
    cases hi
    have go : ∀ ρ₅, SRel σ P (VR σ) ρ₅ (do
        askRoom ((IntKind.i64.wrap c).toNat * i.bytes)
        let n := (IntKind.i64.wrap c).toNat * (← sizeOf elem)
        let zero ← if n = 0 then pure #[] else do pure (← zeroValue elem).cells
        let a ← newRow elem ((Array.range n).map (zero[· % zero.size]!))
        pure (.slice (some a) (IntKind.i64.wrap l).toNat (IntKind.i64.wrap c).toNat)) (do
        askRoom ((IntKind.i64.wrap c).toNat * i.bytes)
        let n := (IntKind.i64.wrap c).toNat * (← sizeOf elem)
        let zero ← if n = 0 then pure #[] else do pure (← zeroValue elem).cells
        let a ← newRow elem ((Array.range n).map (zero[· % zero.size]!))
        pure (.slice (some a) (IntKind.i64.wrap l).toNat (IntKind.i64.wrap c).toNat)) := by
      intro ρ₅
      refine SRel.bind' (SRel.askRoom' _) fun ρ₆ h₆ _ _ _ => ?_
      refine SRel.bind' (SRel.sizeOf' elem) fun ρ₇ h₇ q q' hq => ?_
      cases hq
      have fin : ∀ (ρ₈ : Ren) (z : Array Value), (∀ v, v ∈ z.toList → VRel σ ρ₈ v v) → SRel σ P (VR σ) ρ₈ (do
          let a ← newRow elem ((Array.range ((IntKind.i64.wrap c).toNat * q)).map (z[· % z.size]!))
          pure (.slice (some a) (IntKind.i64.wrap l).toNat (IntKind.i64.wrap c).toNat)) (do
          let a ← newRow elem ((Array.range ((IntKind.i64.wrap c).toNat * q)).map (z[· % z.size]!))
          pure (.slice (some a) (IntKind.i64.wrap l).toNat (IntKind.i64.wrap c).toNat)) := fun ρ₈ z hz8 =>
        SRel.bind' (SRel.newRow' elem (zeros_rel' z hz8 _)) fun ρ₉ _ a a' ha => .ret (VRel.new_slice ha _ _)
      refine .ite' (fun _ => ?_) (fun _ => ?_)
      · exact fin ρ₇ #[] (by simp)
      · refine SRel.bind' (SRel.zeroValue' hz elem) fun ρ₈ h₈ z z' hzz => ?_
        obtain ⟨_, rfl, hc⟩ := hzz
        exact fin ρ₈ z.cells (cells_closed hc)
    refine SRel.ite' (fun _ => ?_) (fun _ => go ρ₄)
    refine SRel.ite' (fun _ => ?_) (fun _ => ?_)
    · exact SRel.bind' (R := EqR) (SRel.runtimePanic' _ (by simp) (by simp)) fun ρ₅ _ _ _ _ => go ρ₅
    · refine SRel.ite' (fun _ => ?_) (fun _ => .inl rfl)
      exact SRel.bind' (R := EqR) (SRel.runtimePanic' _ (by simp) (by simp)) fun ρ₅ _ _ _ _ => go ρ₅
  · exact .stuck'

/-! ### rows -/
theorem HRel.row {h : AH} {w : World} (H : HRel σ P ρ h w) {a a' : Addr} (ha : ARel ρ a a') {n : Nat} {l : List Value} (hl : cellsFrom h a n = some l) :
    l.length = n ∧ ∃ l', VsRel σ ρ l l' ∧ ∀ i, i < n → ∃ v, l'[i]? = some v ∧ w.cell? (a'.add i) = some v := by
  unfold cellsFrom at hl
  split at hl
  · cases hl; exact ⟨rfl, [], .nil, fun i hi => by omega⟩
  · rename_i n
    split at hl
    · rename_i c e lo hi wd hb hsp
      split at hl
      · rename_i hle
        have hle := ble_true.1 hle
        cases hl
        obtain ⟨p, hp, rfl⟩ := ha
        obtain ⟨c', hx, h1, h2, h3, h4, pre, rest, h5, h6⟩ := (H.live _ _ _ hb hp).cells_obj
        have hlen := h6.length
        refine ⟨by simp; omega, (pre.drop a.off).take (n + 1), ?_, ?_⟩
        · refine LRel.of_get _ _ (by simp; omega) fun i v v' hv hv' => ?_
          rw [List.getElem?_take, List.getElem?_drop] at hv hv'
          split at hv
          · rename_i hlt
            rw [if_pos hlt] at hv'
            obtain ⟨b, hb1, hb2⟩ := h6.get _ _ hv
            rw [hb1] at hv'
            exact Option.some.inj hv' ▸ hb2
          · cases hv
        · intro i hi
          have hlt : a.off + i < pre.length := by omega
          refine ⟨pre[a.off + i], ?_, ?_⟩
          · rw [List.getElem?_take, if_pos hi, List.getElem?_drop]
            exact List.getElem?_eq_getElem hlt
          · have he : (Addr.add ⟨p.blk, a.off, a.spot⟩ i) = ⟨p.blk, a.off + i, none⟩ := by
              unfold Addr.add
              split
              · rename_i h0; subst h0; simp [hsp]
              · rfl
            rw [he]
            unfold World.cell?
            simp only [hx, Option.isSome_none, Bool.false_eq_true, if_false]
            rw [← Array.getElem?_toList, h5, List.getElem?_append_left hlt]
            exact List.getElem?_eq_getElem hlt
      · cases hl
    · cases hl

theorem loadCellsFrom_run {w : World} {a : Addr} {l : List Value} : ∀ (n i : Nat) (acc : Array Value), (∀ j, j < n → ∃ v, l[i + j]? = some v ∧ w.cell? (a.add (i + j)) = some v) →
    (loadCellsFrom a i n acc).run P w = .ok (acc ++ ((l.drop i).take n).toArray) w
  | 0, i, acc, _ => by simp [loadCellsFrom, Sem.run, pure]
  | n + 1, i, acc, h => by
    obtain ⟨v, h1, h2⟩ := h 0 (by omega)
    have := loadCellsFrom_run (w := w) (a := a) (l := l) n (i + 1) (acc.push v) (fun j hj => by
      obtain ⟨v, h1, h2⟩ := h (j + 1) (by omega)
      exact ⟨v, by rw [← h1]; congr 1; omega, by rw [← h2]; congr 2; omega⟩)
    unfold loadCellsFrom
    simp only [bind, Sem.bind, load, Sem.run]
    simp only [Nat.add_zero] at h2 h1
    rw [h2]
    simp only
    rw [this]
    congr 1
    have hd : l.drop i = v :: l.drop (i + 1) := by
      obtain ⟨hi, e⟩ := List.getElem?_eq_some_iff.1 h1
      rw [List.drop_eq_getElem_cons hi, e]
    rw [hd, List.take_succ_cons]
    apply Array.toList_inj.1
    simp

theorem loadCells_run {h : AH} {w : World} (H : HRel σ P ρ h w) {a a' : Addr} (ha : ARel ρ a a') {n : Nat} {l : List Value} (hl : cellsFrom h a n = some l) :
    ∃ l', VsRel σ ρ l l' ∧ (loadCells a' n).run P w = .ok l'.toArray w := by
  obtain ⟨h1, l', h2, h3⟩ := H.row ha hl
  refine ⟨l', h2, ?_⟩
  unfold loadCells
  rw [loadCellsFrom_run (l := l') n 0 #[] (fun j hj => by simpa using h3 j hj)]
  have : l'.length = n := by rw [← h2.length]; exact h1
  simp [← this]

end Go.Ri
namespace Go.Ri
variable {σ : Int → Int} {P : Program} {ρ : Ren}

theorem SRel.lenOf' {v v' : Value} (h : VRel σ ρ v v') : SRel σ P EqR ρ (Builtin.lenOf v) (Builtin.lenOf v') := by
  cases h <;> first | exact .ret rfl | exact .stuck'

theorem SRel.firstCells' (sz n : Nat) {v v' : Value} (h : VRel σ ρ v v') : SRel σ P (fun ρ b b' => VsRel σ ρ b.toList b'.toList) ρ (Builtin.firstCells sz n v) (Builtin.firstCells sz n v') := by
  cases h with
  | sl0 m c => exact .ret .nil
  | sl id off sp p m c c' hp hc hn hw =>
    show SRel σ P _ ρ (loadCells _ (n * sz)) (loadCells _ (n * sz))
    unfold loadCells
    exact SRel.loadCellsFrom' _ 0 #[] #[] ρ _ _ ⟨p, hp, rfl⟩ .nil
  | string s =>
    refine .ret (VsRel.refl_closed fun v hv => ?_)
    simp only [Array.toList_map, List.mem_map] at hv
    obtain ⟨b, _, rfl⟩ := hv
    exact .int _ _ (by have : b.toNat < 256 := UInt8.toNat_lt b; unfold big; omega)
  | _ => exact .stuck'

theorem SRel.copy' (ts : Array TypeId) (t : TypeId) {x x' y y' : Value} (hb : ∀ b n c, x = .slice b n c → n < 2 ^ 62) (h : VRel σ ρ x x') (h' : VRel σ ρ y y') : SRel σ P (VR σ) ρ (Builtin.copy_ ts t #[x, y]) (Builtin.copy_ ts t #[x', y']) := by
  unfold Builtin.copy_
  cases e0 : (ts[0]? : Option TypeId) with
  | none => exact .stuck'
  | some dt =>
    refine SRel.bind' (SRel.underlying' dt) fun ρ₁ h₁ d d' hd => ?_
    cases hd
    split
    · rename_i elem
      cases h.mono h₁ with
      | sl0 m c =>
        have hm := hb _ _ _ rfl
        refine SRel.bind' (SRel.lenOf' (h'.mono h₁)) fun ρ₂ h₂ k k' hk => ?_
        cases hk
        refine SRel.bind' (SRel.sizeOf' elem) fun ρ₃ h₃ q q' hq => ?_
        cases hq
        refine SRel.bind' (SRel.firstCells' q _ (h'.mono (h₁.trans (h₂.trans h₃)))) fun ρ₄ h₄ cs cs' hcs => ?_
        exact .ret (.int _ _ (by have : Nat.min k m ≤ m := Nat.min_le_right k m; unfold big; show ((Nat.min k m : Nat) : Int) < _; omega))
      | sl id off sp p m c c' hp hc hn hw =>
        have hm := hb _ _ _ rfl
        refine SRel.bind' (SRel.lenOf' (h'.mono h₁)) fun ρ₂ h₂ k k' hk => ?_
        cases hk
        refine SRel.bind' (SRel.sizeOf' elem) fun ρ₃ h₃ q q' hq => ?_
        cases hq
        refine SRel.bind' (SRel.firstCells' q _ (h'.mono (h₁.trans (h₂.trans h₃)))) fun ρ₄ h₄ cs cs' hcs => ?_
        refine SRel.bind' (SRel.storeCells' _ _ 0 ρ₄ _ _ ⟨p, (h₂.trans (h₃.trans h₄)) _ _ hp, rfl⟩ hcs) fun ρ₅ h₅ _ _ _ => ?_
        exact .ret (.int _ _ (by have : Nat.min k m ≤ m := Nat.min_le_right k m; unfold big; show ((Nat.min k m : Nat) : Int) < _; omega))
      | _ => exact .stuck'
    · exact .stuck'

/-! ### a row of cells is written -/
theorem setIf_self (h : Array Obj) (b : Nat) (o : Obj) (hx : h[b]? = some o) : h.setIfInBounds b o = h := by
  obtain ⟨hi, e⟩ := Array.getElem?_eq_some_iff.1 hx
  apply Array.ext
  · simp
  · intro j h1 h2
    rw [Array.getElem_setIfInBounds (by simpa using h2)]
    by_cases ej : b = j
    · subst ej; simp [e]
    · simp [ej]

theorem storeCells_run {b off : Nat} {e : TypeId} {lo : Nat} : ∀ (vs : List Value) (i : Nat) (w : World) (c : Array Value), w.heap[b]? = some (.cells c e (lo, lo)) → off + i + vs.length ≤ c.size → (∀ v, v ∈ vs → oneCell v = true) →
    (storeCells ⟨b, off, none⟩ vs i).run P w = .ok () { w with heap := w.heap.setIfInBounds b (.cells (c.toList.take (off + i) ++ (vs ++ c.toList.drop (off + i + vs.length))).toArray e (lo, lo)) }
  | [], i, w, c, hb, _, _ => by
    simp only [storeCells, List.length_nil, Nat.add_zero, List.nil_append, List.take_append_drop]
    rw [setIf_self _ _ _ (by rw [hb])]
    rfl
  | v :: vs, i, w, c, hb, hl, h1 => by
    simp only [List.length_cons] at hl
    have hone := h1 v (by simp)
    have hadd : (Addr.add ⟨b, off, none⟩ i) = ⟨b, off + i, none⟩ := by
      unfold Addr.add; split
      · rename_i h0; subst h0; rfl
      · rfl
    have hcell : w.cell? ⟨b, off + i, none⟩ = some (c[off + i]'(by omega)) := by
      unfold World.cell?; simp only [hb, Option.isSome_none, Bool.false_eq_true, if_false]
      exact Array.getElem?_eq_getElem _
    have hfz : w.frozen? ⟨b, off + i, none⟩ = false := by
      unfold World.frozen?; simp only [hb]; simp <;> omega
    have hset : w.setCell ⟨b, off + i, none⟩ v = { w with heap := w.heap.setIfInBounds b (.cells (c.setIfInBounds (off + i) v) e (lo, lo)) } := by
      unfold World.setCell; simp only; rw [modify_eq _ _ _ _ hb]; simp
    have hb2 : b < w.heap.size := by obtain ⟨hi, _⟩ := Array.getElem?_eq_some_iff.1 hb; exact hi
    have ih := storeCells_run (b := b) (off := off) (e := e) (lo := lo) vs (i + 1) (w.setCell ⟨b, off + i, none⟩ v) (c.setIfInBounds (off + i) v) (by rw [hset]; simp [hb2]) (by simp; omega) (fun x hx => h1 x (by simp [hx]))
    unfold storeCells
    simp only [bind, Sem.bind, store, hadd]
    have hrun : (Sem.store .plain ⟨b, off + i, none⟩ v (storeCells ⟨b, off, none⟩ vs (i + 1))).run P w = (storeCells ⟨b, off, none⟩ vs (i + 1)).run P (w.setCell ⟨b, off + i, none⟩ v) := by
      cases v <;> simp [oneCell] at hone <;> simp [Sem.run, hcell, hfz]
    rw [hrun, ih, hset]
    congr 1
    simp only [World.mk.injEq, and_true]
    rw [Array.setIfInBounds_setIfInBounds]
    congr 2
    apply Array.toList_inj.1
    simp only [Array.toList_setIfInBounds, List.length_cons]
    have hlt : off + i < c.toList.length := by simp; omega
    rw [show off + (i + 1) = off + i + 1 by omega, List.take_set, List.take_succ_eq_append_getElem hlt]
    rw [List.set_append_right _ _ (by simp only [List.length_take]; omega)]
    simp only [List.length_take, Array.length_toList]
    rw [show min (off + i) c.size = off + i by omega, Nat.sub_self]
    simp only [List.set_cons_zero, List.append_assoc, List.cons_append, List.nil_append]
    rw [List.drop_set_of_lt (by omega), show off + i + 1 + vs.length = off + i + (vs.length + 1) by omega]
end Go.Ri
namespace Go.Ri
variable {σ : Int → Int} {P : Program} {ρ : Ren}

theorem bytes_extract (s : ByteArray) : s.extract 0 s.size = s := by
  apply ByteArray.ext
  rw [ByteArray.data_extract]
  show s.data.extract 0 s.data.size = s.data
  simp

theorem row_run {h : AH} {w : World} (H : HRel σ P ρ h w) {sz n : Nat} {x x' : Value} {l : List Value} (hr : VRel σ ρ x x') (hl : rowOf h sz x = some (n, l)) :
    (Builtin.lenOf x').run P w = .ok n w ∧ l.length = n * sz ∧ ∃ l', VsRel σ ρ l l' ∧ (Builtin.firstCells sz n x').run P w = .ok l'.toArray w := by
  cases hr with
  | sl0 m c =>
    simp only [rowOf] at hl
    split at hl
    · cases hl; exact ⟨rfl, by simp, [], .nil, rfl⟩
    · cases hl
  | sl id off sp p m c c' hp hc hn hw =>
    simp only [rowOf] at hl
    split at hl
    · rename_i l0 hc0
      cases hl
      obtain ⟨l', h1, h2⟩ := loadCells_run H ⟨p, hp, rfl⟩ hc0
      exact ⟨rfl, (H.row ⟨p, hp, rfl⟩ hc0).1, l', h1, h2⟩
    · cases hl
  | string s =>
    simp only [rowOf] at hl
    split at hl
    · cases hl
      refine ⟨rfl, (by show (s.data.toList.map _).length = s.data.size * 1; simp), bytesOf s, ?_, ?_⟩
      · refine VsRel.refl_closed fun v hv => ?_
        simp only [bytesOf, List.mem_map] at hv
        obtain ⟨b, _, rfl⟩ := hv
        exact .int _ _ (by have : b.toNat < 256 := UInt8.toNat_lt b; unfold big; omega)
      · simp only [Builtin.firstCells, bytes_extract, Sem.run, pure]
        congr 1
        apply Array.toList_inj.1
        simp [bytesOf]
    · cases hl
  | _ => simp [rowOf] at hl

theorem growBy_le (newLen : Nat) : ∀ (r c : Nat), c ≤ 2 * newLen + 1000 → Builtin.growBy newLen r c ≤ 2 * newLen + 1000
  | 0, c, h => h
  | r + 1, c, h => by
    unfold Builtin.growBy
    split
    · exact h
    · exact growBy_le newLen r _ (by omega)
theorem nextcap_le (newLen oldCap : Nat) (h : oldCap ≤ newLen) : Builtin.nextslicecap newLen oldCap ≤ 2 * newLen + 1000 := by
  unfold Builtin.nextslicecap
  split
  · omega
  · split
    · omega
    · exact growBy_le _ _ _ (by omega)

/-- What the program tells of the types of an append. -/
structure AppTy (P : Program) (ts : Array TypeId) (elem sz : Nat) : Prop where
  sT : ∃ t, ts[0]? = some t ∧ P.underlying t = some (.slice elem)
  xT : ∃ t d, ts[1]? = some t ∧ P.underlying t = some d ∧ ∀ k, d ≠ .int k
  info : ∃ i z, P.info? elem = some i ∧ i.size = sz ∧ i.bytes < 2 ^ 10 ∧ i.zero = some z ∧ z.cells.size = sz

theorem append_run_in {ts : Array TypeId} {ty : TypeId} {elem sz : Nat} (T : AppTy P ts elem sz) {w : World} {base : Option Addr} {sLen sCap n : Nat} {x : Value} {new : List Value}
    (hn : (Builtin.lenOf x).run P w = .ok n w) (hnew : (Builtin.firstCells sz n x).run P w = .ok new.toArray w) (hle : sLen + n ≤ sCap) :
    (Builtin.append_ ts ty #[.slice base sLen sCap, x]).run P w = match base with
      | none => .ok (.slice base (sLen + n) sCap) w
      | some a => match (storeCells (a.add (sLen * sz)) new).run P w with
        | .ok _ w' => .ok (.slice base (sLen + n) sCap) w'
        | .halt h w' => .halt h w' := by
  obtain ⟨t, ht, hu⟩ := T.sT
  obtain ⟨t2, d, ht2, hu2, hd⟩ := T.xT
  obtain ⟨i, z, hi, hs, hb, hz, hzs⟩ := T.info
  subst hs
  have hz0 : (match d with | .int _ => true | _ => false) = false := by
    cases d with
    | int k => exact absurd rfl (hd k)
    | _ => rfl
  cases base with
  | none => simp [Builtin.append_, ht, ht2, run_underlying hu, run_underlying hu2, sizeOf, typeInfo, hi, hz0, hn, hnew, hle]
  | some a =>
    simp [Builtin.append_, ht, ht2, run_underlying hu, run_underlying hu2, sizeOf, typeInfo, hi, hz0, hn, hnew, hle]
    cases (storeCells (a.add (sLen * i.size)) new).run P w <;> simp

theorem append_run_grow {ts : Array TypeId} {ty : TypeId} {elem sz : Nat} (T : AppTy P ts elem sz) {w : World} {base : Option Addr} {sLen sCap n : Nat} {x : Value} {old new : List Value}
    (hn : (Builtin.lenOf x).run P w = .ok n w) (hold : (Builtin.firstCells sz sLen (.slice base sLen sCap)).run P w.drew = .ok old.toArray w.drew) (hnew : (Builtin.firstCells sz n x).run P w.drew = .ok new.toArray w.drew)
    (hg : sCap < sLen + n) (hb30 : sLen + n < 2 ^ 30) :
    ∃ (cap : Nat) (rest : List Value) (z : Value), sLen + n ≤ cap ∧ rest.length = (cap - (sLen + n)) * sz ∧ 
      (Builtin.append_ ts ty #[.slice base sLen sCap, x]).run P w = .ok (.slice (some ⟨w.heap.size, 0, none⟩) (sLen + n) cap) (w.drew.alloc (.cells (old ++ (new ++ rest)).toArray elem)) := by
  obtain ⟨t, ht, hu⟩ := T.sT
  obtain ⟨t2, d, ht2, hu2, hd⟩ := T.xT
  obtain ⟨i, z, hi, hs, hb, hz, hzs⟩ := T.info
  subst hs
  have hz0 : (match d with | .int _ => true | _ => false) = false := by
    cases d with
    | int k => exact absurd rfl (hd k)
    | _ => rfl
  have h1 : ¬ (sLen + n ≤ sCap) := by omega
  have h63 : ¬ (9223372036854775807 < ((sLen : Int) + (n : Int))) := by omega
  have hcap : Builtin.nextslicecap (sLen + n) sCap ≤ 2 * (sLen + n) + 1000 := nextcap_le _ _ (by omega)
  have h48 : ¬ (281474976710656 < Builtin.nextslicecap (sLen + n) sCap * i.bytes) := by
    have : Builtin.nextslicecap (sLen + n) sCap * i.bytes ≤ (2 * 2 ^ 30 + 1000) * 2 ^ 10 := Nat.mul_le_mul (by omega) (by omega)
    omega
  refine ⟨grownCap w (sLen + n) sCap elem, (Builtin.zeroCells z.cells (grownCap w (sLen + n) sCap elem - (sLen + n))).toList, z, ?_, ?_, ?_⟩
  · unfold grownCap; simp only [Question.cut]; omega
  · unfold Builtin.zeroCells; simp [hzs]
  · simp [Builtin.append_, ht, ht2, run_underlying hu, run_underlying hu2, sizeOf, typeInfo, zeroValue, hi, hz, hz0, hn, hnew, hold, h1, h63, h48, Question.forced, newRow, grownCap]
    congr 2
    apply Array.ext'
    simp [List.append_assoc]
end Go.Ri
namespace Go.Ri
variable {σ : Int → Int} {P : Program} {ρ : Ren}

theorem eqNat_true {a b : Nat} : eqNat a b = true ↔ a = b := ⟨Nat.eq_of_beq_eq_true, fun h => by subst h; exact Nat.beq_refl a⟩

theorem Addr.add_none {a : Addr} (h : a.spot = none) (n : Nat) : a.add n = ⟨a.block, a.off + n, none⟩ := by
  obtain ⟨b, o, sp⟩ := a
  simp only at h; subst h
  unfold Addr.add; split
  · rename_i h0; subst h0; rfl
  · rfl

/-- A new block with more places than are told, on both sides. -/
theorem HRel.freshWide {h : AH} {w w' : World} (H : HRel σ P ρ h w) {l : List Value} {c : Array Value} {pre rest : List Value} {elem sz : Nat} (hr : h.next < roof) (hc : c.toList = pre ++ rest) (hl : VsRel σ ρ l pre)
    (hi : (P.info? elem).map (·.size) = some sz) (hw : w'.heap = w.heap.push (.cells c elem (0, 0))) (hos : w'.os = w.os) (ht : w'.tape = w.tape) (ho : w'.output = w.output) :
    HRel σ P (Ren.add ρ h.next ⟨w.heap.size, c.size, sz, true, none⟩) (h.push (.cells l elem 0 0 true)) w' ∧ Ext ρ h w (Ren.add ρ h.next ⟨w.heap.size, c.size, sz, true, none⟩) (h.push (.cells l elem 0 0 true)) w' :=
  H.fresh (x := .cells c elem (0, 0)) hr ⟨rfl, rfl, rfl, rfl, fun h => by (cases h), fun _ => hi, pre, rest, hc, hl⟩ hw hos ht ho

theorem appNew_value {elem sz : Nat} {base : Option Addr} {sLen n : Nat} {l : List Value} {h h' : AH} {v : Value} (he : appNew elem sz base sLen n l h = some (.value v h')) :
    v = .slice (some ⟨h.next, 0, none⟩) (sLen + n) (sLen + n) ∧ sLen + n < 2 ^ 30 ∧ h.next < roof ∧
    ((h' = h.push (.cells l elem 0 0 true) ∧ (base = none ∨ ∃ a c e lo hi, base = some a ∧ h.get a.block = some (.cells c e lo hi false))) ∨
     ∃ a c, base = some a ∧ h.get a.block = some (.cells c elem 0 0 true) ∧ a.off = 0 ∧ a.spot = none ∧ sLen * sz = c.length ∧ a.block < roof ∧ h' = (h.put a.block none).push (.cells l elem 0 0 true) ∧ l.all oneCell = true) := by
  unfold appNew at he
  split at he
  · rename_i h30 hroof
    have h30 := blt_true.1 h30
    have hroof := blt_true.1 hroof
    split at he
    · simp only [Option.some.injEq, Did.value.injEq] at he
      exact ⟨he.1.symm, h30, hroof, .inl ⟨he.2.symm, .inl rfl⟩⟩
    · rename_i a
      split at he
      · rename_i c e lo hi w hb
        split at he
        · simp only [Option.some.injEq, Did.value.injEq] at he
          exact ⟨he.1.symm, h30, hroof, .inl ⟨he.2.symm, .inr ⟨a, c, e, lo, hi, rfl, hb⟩⟩⟩
        · split at he
          · rename_i h0 h1 h2 h3 h4 h5 h6
            simp only [Option.some.injEq, Did.value.injEq] at he
            have e1 : lo = 0 ∧ hi = 0 := by
              split at h1
              · rename_i g; exact ⟨eqNat_true.1 g, eqNat_true.1 h1⟩
              · cases h1
            have e2 := eqNat_true.1 h2; have e3 := eqNat_true.1 h3; have e5 := blt_true.1 h5
            obtain ⟨rfl, rfl⟩ := e1; subst e2
            exact ⟨he.1.symm, h30, hroof, .inr ⟨a, c, rfl, hb, h0, h4, e3, e5, he.2.symm, h6⟩⟩
          · cases he
      · cases he
  · cases he

/-- One block is turned, and goes by another number from here on. -/
theorem HRel.move {h : AH} {w w' : World} (H : HRel σ P ρ h w) {r : Nat} {p : Place} {o : AObj} {x : Obj} (hp : ρ r = some p) (hl : h.get r ≠ none) (hr : r < roof) (hn : h.next < roof)
    (hm : OMatch σ P ρ p o (some x)) (hw : w'.heap = w.heap.setIfInBounds p.blk x) (hos : w'.os = w.os) (ht : w'.tape = w.tape) (ho : w'.output = w.output) :
    HRel σ P (Ren.add ρ h.next p) ((h.put r none).push o) w' ∧ Ext ρ h w (Ren.add ρ h.next p) ((h.put r none).push o) w' := by
  have hb : p.blk < w.heap.size := (H.dom _ _ hp).2
  have hfree : ρ h.next = none := by
    cases e : ρ h.next with
    | none => rfl
    | some p => have := (H.dom _ _ e).1; omega
  have hrn : r ≠ h.next := fun e => by rw [e, hfree] at hp; cases hp
  have hle : Le ρ (Ren.add ρ h.next p) := by
    intro id q hq
    unfold Ren.add
    rw [if_neg]
    · exact hq
    · intro e; subst e; rw [hfree] at hq; cases hq
  have hget : ∀ i, ((h.put r none).push o).get i = if i = h.next then some o else if i = r then none else h.get i := by
    intro i
    rw [AH.get_push _ _ (by exact hn), AH.get_put _ _ _ hr]
    rfl
  have htop : ∀ i, ((h.put r none).push o).get i ≠ none → i < ((h.put r none).push o).next := by
    intro i hi
    show i < h.next + 1
    rw [hget] at hi
    by_cases e : i = h.next
    · omega
    · rw [if_neg e] at hi
      by_cases e2 : i = r
      · rw [if_pos e2] at hi; exact absurd rfl hi
      · rw [if_neg e2] at hi; have := H.top i hi; omega
  refine ⟨⟨?_, ?_, ?_, htop⟩, hle, ?_, ?_, ?_, ?_, ?_, hos, ht, ho⟩
  · intro id oo q hg hq
    rw [hget] at hg
    by_cases e : id = h.next
    · subst e
      simp at hg
      simp [Ren.add] at hq
      subst hq; subst hg
      rw [hw]; simp [hb]; exact hm.mono hle
    · by_cases e2 : id = r
      · simp [e, e2, hrn] at hg
      · simp [e, e2] at hg
        simp [Ren.add, e] at hq
        have hne' : q.blk ≠ p.blk := fun eq => e2 (H.inj _ _ _ _ (by simp [hg]) hl hq hp eq)
        have := H.live _ _ _ hg hq
        rw [hw]; simp [Array.getElem?_setIfInBounds_ne (Ne.symm hne')]; exact this.mono hle
  · intro i j q s hi hj hq hs hqs
    rw [hget] at hi hj
    unfold Ren.add at hq hs
    by_cases ei : i = h.next <;> by_cases ej : j = h.next
    · rw [ei, ej]
    · simp [ei] at hq; simp [ej] at hs hj
      subst hq
      exact absurd (H.inj _ _ _ _ hj.2 hl hs hp hqs.symm) hj.1
    · simp [ei] at hq hi; simp [ej] at hs
      subst hs
      exact absurd (H.inj _ _ _ _ hi.2 hl hq hp hqs) hi.1
    · simp [ei] at hq hi; simp [ej] at hs hj
      exact H.inj i j q s hi.2 hj.2 hq hs hqs
  · intro id q hq
    unfold Ren.add at hq
    by_cases e : id = h.next
    · simp [e] at hq; subst hq; subst e
      refine ⟨?_, ?_⟩
      · show h.next < h.next + 1; omega
      · rw [hw]; simpa using hb
    · simp [e] at hq
      have := H.dom _ _ hq
      refine ⟨?_, ?_⟩
      · show id < h.next + 1; omega
      · rw [hw]; simpa using this.2
  · intro id hlt hnn
    refine ⟨?_, ?_⟩
    · unfold Ren.add; rw [if_neg (by omega)]; exact hnn
    · rw [hget, if_neg (by omega), if_neg]
      intro e; subst e; rw [hp] at hnn; cases hnn
  · show h.next ≤ h.next + 1; omega
  · intro b hb' hk
    have := hk r p hl hp
    rw [hw]; simp [Array.getElem?_setIfInBounds_ne this]
  · intro id q hq hli hb'
    unfold Ren.add at hq
    rw [hget] at hli
    by_cases e : id = h.next
    · simp [e] at hq; subst hq; exact ⟨r, p, hl, hp, rfl⟩
    · simp [e] at hq hli
      exact ⟨id, q, hli.2, hq, rfl⟩
  · rw [hw]; simp

theorem AppTy.size {ts : Array TypeId} {elem sz : Nat} (T : AppTy P ts elem sz) : (P.info? elem).map (·.size) = some sz := by
  obtain ⟨i, z, hi, hs, _⟩ := T.info
  rw [hi]; simp [hs]

theorem rowOf_slice {h : AH} {sz m sLen sCap : Nat} {base : Option Addr} {l : List Value} (e : rowOf h sz (.slice base sLen sCap) = some (m, l)) : m = sLen := by
  cases base with
  | none => simp only [rowOf] at e; split at e <;> simp at e; omega
  | some a => simp only [rowOf] at e; split at e <;> simp at e; exact e.1.symm

theorem rowOf_cells {h : AH} {sz m m' sCap : Nat} {a : Addr} {l : List Value} (e : rowOf h sz (.slice (some a) m sCap) = some (m', l)) : cellsFrom h a (m * sz) = some l := by
  simp only [rowOf] at e
  split at e
  · rename_i l0 h0; simp only [Option.some.injEq, Prod.mk.injEq] at e; rw [h0, e.2]
  · cases e
theorem cellsFrom_all {h : AH} {a : Addr} {n : Nat} {c l : List Value} {e lo hi : Nat} {wd : Bool} (hb : h.get a.block = some (.cells c e lo hi wd)) (hsp : a.spot = none) (hoff : a.off = 0) (hn : n = c.length) (hc : cellsFrom h a n = some l) : l = c := by
  unfold cellsFrom at hc
  split at hc
  · cases hc
    exact (List.length_eq_zero_iff.1 hn.symm).symm
  · rw [hb, hsp] at hc
    simp only [hoff, Nat.zero_add, List.drop_zero] at hc
    split at hc
    · simp only [Option.some.injEq] at hc
      rw [← hc]
      exact List.take_of_length_le (by omega)
    · cases hc

theorem append_sound {ts : Array TypeId} {ty : TypeId} {elem sz : Nat} (T : AppTy P ts elem sz) {h h' : AH} {w : World} (H : HRel σ P ρ h w) {s s' x x' v : Value} (hs : VRel σ ρ s s') (hx : VRel σ ρ x x')
    (he : aAppend elem sz s x h = some (.value v h')) :
    ∃ v' ρ' w', (Builtin.append_ ts ty #[s', x']).run P w = .ok v' w' ∧ VRel σ ρ' v v' ∧ HRel σ P ρ' h' w' ∧ Ext ρ h w ρ' h' w' := by
  unfold aAppend at he
  split at he
  · rename_i base sLen sCap
    split at he
    · rename_i n new m old hrx hrs
      obtain rfl := rowOf_slice hrs
      obtain ⟨hxl, hnl, new', hnr, hxc⟩ := row_run H hx hrx
      obtain ⟨base', cap', rfl, hcc, hbase⟩ : ∃ base' cap', s' = .slice base' m cap' ∧ sCap ≤ cap' ∧ ((base = none ∧ base' = none ∧ cap' = sCap) ∨
          ∃ a p, base = some a ∧ base' = some ⟨p.blk, a.off, a.spot⟩ ∧ ρ a.block = some p ∧ (p.wide = false → cap' = sCap) ∧ (p.wide = true → a.off + cap' * p.esz ≤ p.size)) := by
        cases hs with
        | sl0 m c => exact ⟨none, sCap, rfl, Nat.le_refl _, .inl ⟨rfl, rfl, rfl⟩⟩
        | sl id off sp p m c c' hp hc hn hw => exact ⟨_, c', rfl, hc, .inr ⟨⟨id, off, sp⟩, p, rfl, rfl, hp, hn, hw⟩⟩
      have hszs := T.size
      -- in place, in the world
      have inPlace : ∀ (a : Addr) (p : Place) (c : List Value) (lo : Nat) (wd : Bool) (o' : AObj), base = some a → ρ a.block = some p → h.get a.block = some (.cells c elem lo lo wd) → a.spot = none → a.block < roof →
          (∀ y, y ∈ new → oneCell y = true) → m + n ≤ cap' → a.off + (m + n) * sz ≤ p.size →
          (∀ c' pre rest : List Value, c' = pre ++ rest → VsRel σ ρ c pre → c'.length = p.size → p.wide = wd → (wd = false → c'.length = c.length) → (wd = true → (P.info? elem).map (·.size) = some p.esz) →
            OMatch σ P ρ p o' (some (.cells (c'.take (a.off + m * sz) ++ (new' ++ c'.drop (a.off + m * sz + new'.length))).toArray elem (lo, lo)))) →
          ∃ w', (Builtin.append_ ts ty #[.slice base' m cap', x']).run P w = .ok (.slice base' (m + n) cap') w' ∧ HRel σ P ρ (h.put a.block (some o')) w' ∧ Ext ρ h w ρ (h.put a.block (some o')) w' := by
        intro a p c lo wd o' hba hp hb hsp hroof hone hle hfit hm
        rcases hbase with ⟨h0, _⟩ | ⟨a2, p2, h1, h2, h3, _, _⟩
        · rw [h0] at hba; cases hba
        · rw [h1] at hba; cases hba
          rw [h3] at hp; cases hp
          obtain ⟨cc, hxx, k1, k2, k3, k4, pre, rest, k5, k6⟩ := (H.live _ _ _ hb h3).cells_obj
          have hnl' : new'.length = n * sz := by rw [← hnr.length]; exact hnl
          have hone' : ∀ y, y ∈ new' → oneCell y = true := by
            intro y hy
            obtain ⟨i, hi⟩ := List.mem_iff_getElem?.1 hy
            have hi2 : i < new.length := by rw [hnr.length]; exact (List.getElem?_eq_some_iff.1 hi).1
            obtain ⟨b, hb1, hb2⟩ := hnr.get i _ (List.getElem?_eq_getElem hi2)
            rw [hb1] at hi; cases hi
            rw [hb2.oneCell]
            exact hone _ (List.getElem_mem hi2)
          have hadd : (Addr.add ⟨p.blk, a.off, a.spot⟩ (m * sz)) = ⟨p.blk, a.off + m * sz, none⟩ := Addr.add_none (a := ⟨p.blk, a.off, a.spot⟩) hsp _
          have hmul : (m + n) * sz = m * sz + n * sz := Nat.add_mul _ _ _
          have hst := storeCells_run (P := P) (b := p.blk) (off := a.off + m * sz) (e := elem) (lo := lo) new' 0 w cc hxx (by omega) hone'
          simp only [Nat.add_zero] at hst
          have hm' := hm cc.toList pre rest k5 k6 (by simpa using k1) k2 (fun e => by simpa using k3 e) k4
          obtain ⟨H', E'⟩ := H.turn (w' := { w with heap := w.heap.setIfInBounds p.blk (.cells (cc.toList.take (a.off + m * sz) ++ (new' ++ cc.toList.drop (a.off + m * sz + new'.length))).toArray elem (lo, lo)) })
            h3 (by rw [hb]; simp) hroof hm' rfl rfl rfl rfl
          refine ⟨_, ?_, H', E'⟩
          rw [append_run_in T hxl hxc hle, h2]
          simp only [hadd, hst]
      split at he
      · -- surely in place
        rename_i hle
        have hle := ble_true.1 hle
        split at he
        · -- nothing is added
          simp only [Option.some.injEq, Did.value.injEq] at he
          obtain ⟨rfl, rfl⟩ := he
          have hnew0 : new' = [] := by
            have : new'.length = 0 := by rw [← hnr.length, hnl]; simp
            simpa using this
          have hrun := append_run_in (ty := ty) T (base := base') (sLen := m) (sCap := cap') hxl hxc (by omega)
          subst hnew0
          refine ⟨.slice base' (m + 0) cap', ρ, w, ?_, by simpa using hs, H, .refl _ _ _⟩
          rw [hrun]
          cases base' <;> simp [storeCells]
        · cases he
        · rename_i n' a _
          simp only [Nat.succ_eq_add_one] at *
          unfold appIn at he
          split at he
          · rename_i c e lo hi wd hb hsp hchk
            have hroof : a.block < roof ∧ new.all oneCell = true := by
              split at hchk
              · rename_i h1; exact ⟨blt_true.1 h1, hchk⟩
              · cases hchk
            have hone : ∀ y, y ∈ new → oneCell y = true := List.all_eq_true.1 hroof.2
            split at he
            · rename_i g1 g2 g3
              have e1 := eqNat_true.1 g1; have e2 := eqNat_true.1 g2; have e3 := ble_true.1 g3
              subst e1; subst e2
              simp only [Option.some.injEq, Did.value.injEq] at he
              obtain ⟨rfl, rfl⟩ := he
              rcases hbase with ⟨h0, _⟩ | ⟨a2, p, h1, h2, h3, h4, h5⟩
              · cases h0
              · cases h1
                have hplen : c.length ≤ p.size := by
                  obtain ⟨cc, hxx, k1, k2, k3, k4, pre, rest, k5, k6⟩ := (H.live _ _ _ hb h3).cells_obj
                  have : pre.length ≤ cc.size := by rw [← Array.length_toList, k5]; simp
                  rw [k6.length, ← k1]; exact this
                obtain ⟨w', hw1, hw2, hw3⟩ := inPlace a p c lo wd (.cells (c.take (a.off + m * sz) ++ (new ++ c.drop (a.off + (m + (n' + 1)) * sz))) e lo lo wd) rfl h3 hb hsp hroof.1 hone (by omega) (by omega) (fun c' pre rest hc' hpre hlen hwd hcl hk => by
                  have hl := hpre.length
                  have hnl' : new'.length = (n' + 1) * sz := by rw [← hnr.length]; exact hnl
                  have hmul : (m + (n' + 1)) * sz = m * sz + (n' + 1) * sz := Nat.add_mul _ _ _
                  refine ⟨rfl, rfl, ?_, hwd, ?_, hk, pre.take (a.off + m * sz) ++ (new' ++ pre.drop (a.off + m * sz + new'.length)), rest, ?_, ?_⟩
                  · simp; omega
                  · intro hf; have := hcl hf; simp; omega
                  · subst hc'
                    simp only
                    rw [List.take_append_of_le_length (by omega), List.drop_append_of_le_length (by omega)]
                    simp [List.append_assoc]
                  · refine LRel.append ?_ (LRel.append hnr ?_)
                    · exact LRel.of_get _ _ (by simp; omega) fun i u u' hu hu' => by
                        rw [List.getElem?_take] at hu hu'
                        split at hu
                        · rename_i hlt; rw [if_pos hlt] at hu'; obtain ⟨b, hb1, hb2⟩ := hpre.get _ _ hu; rw [hb1] at hu'; cases hu'; exact hb2
                        · cases hu
                    · exact LRel.of_get _ _ (by simp; omega) fun i u u' hu hu' => by
                        rw [List.getElem?_drop] at hu hu'
                        rw [show a.off + (m + (n' + 1)) * sz + i = a.off + m * sz + new'.length + i by omega] at hu
                        obtain ⟨b, hb1, hb2⟩ := hpre.get _ _ hu; rw [hb1] at hu'; cases hu'; exact hb2)
                refine ⟨_, ρ, w', hw1, ?_, hw2, hw3⟩
                rw [h2]
                exact .sl a.block a.off a.spot p _ _ _ h3 hcc h4 h5
            · rename_i g1 g2 g3
              split at he
              · rename_i g4
                have e1 := eqNat_true.1 g1; have e2 := eqNat_true.1 g2; have e4 := eqNat_true.1 g4
                subst e1; subst e2
                simp only [Option.some.injEq, Did.value.injEq] at he
                obtain ⟨rfl, rfl⟩ := he
                rcases hbase with ⟨h0, _⟩ | ⟨a2, p, h1, h2, h3, h4, h5⟩
                · cases h0
                · cases h1
                  have hpw : p.wide = true ∧ (P.info? e).map (·.size) = some p.esz := by
                    obtain ⟨cc, hxx, k1, k2, k3, k4, pre, rest, k5, k6⟩ := (H.live _ _ _ hb h3).cells_obj
                    exact ⟨k2, k4 rfl⟩
                  have hesz : p.esz = sz := by rw [hszs] at hpw; exact (Option.some.inj hpw.2).symm
                  have h5' := h5 hpw.1
                  rw [hesz] at h5'
                  have hfit : a.off + (m + (n' + 1)) * sz ≤ p.size := by
                    have : (m + (n' + 1)) * sz ≤ cap' * sz := Nat.mul_le_mul_right _ (by omega)
                    omega
                  obtain ⟨w', hw1, hw2, hw3⟩ := inPlace a p c lo true (.cells (c ++ new) e lo lo true) rfl h3 hb hsp hroof.1 hone (by omega) hfit (fun c' pre rest hc' hpre hlen hwd hcl _ => by
                    have hl := hpre.length
                    have hnl' : new'.length = (n' + 1) * sz := by rw [← hnr.length]; exact hnl
                    have hmul : (m + (n' + 1)) * sz = m * sz + (n' + 1) * sz := Nat.add_mul _ _ _
                    refine ⟨rfl, rfl, ?_, hwd, fun hf => by (cases hf), fun _ => hpw.2, pre ++ new', (c'.drop (a.off + m * sz + new'.length)), ?_, hpre.append hnr⟩
                    · simp; omega
                    · subst hc'
                      simp only
                      rw [List.take_append_of_le_length (by omega), List.take_of_length_le (by omega)]
                      simp [List.append_assoc])
                  refine ⟨_, ρ, w', hw1, ?_, hw2, hw3⟩
                  rw [h2]
                  exact .sl a.block a.off a.spot p _ _ _ h3 hcc h4 h5
              · cases he
            · cases he
          · cases he
      · -- not surely in place
        rename_i hle
        have hgt := ble_false.1 hle
        obtain ⟨rfl, h30, hroof, hcase⟩ := appNew_value he
        -- growth, in the world
        have grow : cap' < m + n → ∀ h₁, HRel σ P ρ h₁ w → h₁.next = h.next → ∃ v' ρ' w', (Builtin.append_ ts ty #[.slice base' m cap', x']).run P w = .ok v' w' ∧ VRel σ ρ' (.slice (some ⟨h.next, 0, none⟩) (m + n) (m + n)) v' ∧
            HRel σ P ρ' (h₁.push (.cells (old ++ new) elem 0 0 true)) w' ∧ Ext ρ h₁ w ρ' (h₁.push (.cells (old ++ new) elem 0 0 true)) w' := by
          intro hg h₁ H₁ hn₁
          obtain ⟨_, hol, old', hor, hoc⟩ := row_run (H.drew (w.drawn + 1)) hs hrs
          obtain ⟨_, _, new2, hnr2, hxc2⟩ := row_run (H.drew (w.drawn + 1)) hx hrx
          obtain ⟨cap, rest, _, hcap, hrl, hrun⟩ := append_run_grow (ty := ty) T (base := base') (sLen := m) (sCap := cap') hxl hoc hxc2 hg h30
          have hol' : old'.length = m * sz := by rw [← hor.length]; exact hol
          have hnl' : new2.length = n * sz := by rw [← hnr2.length]; exact hnl
          obtain ⟨H', E'⟩ := H₁.freshWide (w' := w.drew.alloc (.cells (old' ++ (new2 ++ rest)).toArray elem)) (c := (old' ++ (new2 ++ rest)).toArray) (pre := old' ++ new2) (rest := rest) (by rw [hn₁]; exact hroof) (by simp [List.append_assoc]) (hor.append hnr2) hszs rfl rfl rfl rfl
          refine ⟨_, _, _, hrun, ?_, H', E'⟩
          rw [hn₁]
          refine .sl h.next 0 none ⟨w.heap.size, (old' ++ (new2 ++ rest)).toArray.size, sz, true, none⟩ _ _ _ (by simp [Ren.add]) hcap (fun e => by (cases e)) (fun _ => ?_)
          have e1 : cap * sz = (cap - (m + n)) * sz + (m + n) * sz := by rw [← Nat.add_mul]; congr 1; omega
          have e2 : (m + n) * sz = m * sz + n * sz := Nat.add_mul _ _ _
          simp
          omega
        rcases hcase with ⟨rfl, hcl⟩ | ⟨a, c, hba, hb, hoff, hsp, hlen, hbr, rfl, hall⟩
        · have hg : cap' < m + n := by
            rcases hbase with ⟨h0, _, h2⟩ | ⟨a, p, h1, h2, h3, h4, h5⟩
            · omega
            · rcases hcl with h0 | ⟨a2, c, e, lo, hi, h6, h7⟩
              · rw [h0] at h1; cases h1
              · rw [h6] at h1; cases h1
                obtain ⟨cc, hxx, k1, k2, _⟩ := (H.live _ _ _ h7 h3).cells_obj
                have := h4 k2
                omega
          exact grow hg h H rfl
        · rcases hbase with ⟨h0, _⟩ | ⟨a2, p, h1, h2, h3, h4, h5⟩
          · rw [h0] at hba; cases hba
          · rw [h1] at hba; cases hba
            obtain ⟨Hs, Es⟩ := H.strike h3 hbr
            by_cases hg : cap' < m + n
            · obtain ⟨v', ρ', w', g1, g2, g3, g4⟩ := grow hg (h.put a.block none) Hs rfl
              exact ⟨v', ρ', w', g1, g2, g3, Es.trans g4⟩
            · have hle' : m + n ≤ cap' := by omega
              have hone : ∀ y, y ∈ new → oneCell y = true := fun y hy => List.all_eq_true.1 hall y (by simp [hy])
              rw [h1] at hrs
              have holdc : old = c := cellsFrom_all hb hsp hoff hlen (rowOf_cells hrs)
              subst holdc
              obtain ⟨cc, hxx, k1, k2, k3, k4, pre, rest, k5, k6⟩ := (H.live _ _ _ hb h3).cells_obj
              have hesz : p.esz = sz := by have := k4 rfl; rw [hszs] at this; exact (Option.some.inj this).symm
              have h5' := h5 k2
              rw [hesz, hoff] at h5'
              have hmul : (m + n) * sz = m * sz + n * sz := Nat.add_mul _ _ _
              have hfit : (m + n) * sz ≤ p.size := Nat.le_trans (Nat.mul_le_mul_right _ hle') (by omega)
              have hnl' : new'.length = n * sz := by rw [← hnr.length]; exact hnl
              have hpl := k6.length
              have hcc2 : pre.length ≤ cc.size := by rw [← Array.length_toList, k5]; simp
              have hone' : ∀ y, y ∈ new' → oneCell y = true := by
                intro y hy
                obtain ⟨i, hi⟩ := List.mem_iff_getElem?.1 hy
                have hi2 : i < new.length := by rw [hnr.length]; exact (List.getElem?_eq_some_iff.1 hi).1
                obtain ⟨b, hb1, hb2⟩ := hnr.get i _ (List.getElem?_eq_getElem hi2)
                rw [hb1] at hi; cases hi
                rw [hb2.oneCell]
                exact hone _ (List.getElem_mem hi2)
              have hadd : (Addr.add ⟨p.blk, a.off, a.spot⟩ (m * sz)) = ⟨p.blk, a.off + m * sz, none⟩ := Addr.add_none (a := ⟨p.blk, a.off, a.spot⟩) hsp _
              have hst := storeCells_run (P := P) (b := p.blk) (off := a.off + m * sz) (e := elem) (lo := 0) new' 0 w cc hxx (by omega) hone'
              simp only [Nat.add_zero, hoff, Nat.zero_add] at hst
              have hm : OMatch σ P ρ p (.cells (old ++ new) elem 0 0 true) (some (.cells (cc.toList.take (m * sz) ++ (new' ++ cc.toList.drop (m * sz + new'.length))).toArray elem (0, 0))) := by
                refine ⟨rfl, rfl, ?_, k2, fun hf => by (cases hf), fun _ => k4 rfl, pre ++ new', cc.toList.drop (m * sz + new'.length), ?_, k6.append hnr⟩
                · simp; omega
                · simp only
                  rw [k5, List.take_append_of_le_length (by omega), List.take_of_length_le (by omega)]
                  simp [List.append_assoc]
              obtain ⟨H', E'⟩ := H.move (w' := { w with heap := w.heap.setIfInBounds p.blk (.cells (cc.toList.take (m * sz) ++ (new' ++ cc.toList.drop (m * sz + new'.length))).toArray elem (0, 0)) })
                h3 (by rw [hb]; simp) hbr hroof hm rfl rfl rfl rfl
              refine ⟨.slice base' (m + n) cap', _, _, ?_, ?_, H', E'⟩
              · rw [append_run_in T hxl hxc hle', h2]
                simp only [hadd]
                simp only [hoff, Nat.zero_add, hst]
              · rw [h2, hoff, hsp]
                exact .sl h.next 0 none p _ _ _ (by simp [Ren.add]) (by omega) (fun e => by rw [k2] at e; cases e) (fun _ => by rw [hesz]; omega)
    · cases he
  · cases he
end Go.Ri
namespace Go.Ri
variable {σ : Int → Int} {P : Program} {ρ : Ren}

theorem sizeP_size {t n : Nat} (h : sizeP P t = some n) : ∃ i, P.info? t = some i ∧ i.size = n := by
  unfold sizeP at h
  cases e : P.info? t with
  | none => rw [e] at h; cases h
  | some i => rw [e] at h; exact ⟨i, rfl, by simpa using h⟩

theorem run_sizeOf {t n : Nat} (h : sizeP P t = some n) (w : World) : (sizeOf t).run P w = .ok n w := by
  obtain ⟨i, hi, hs⟩ := sizeP_size h
  simp [sizeOf, typeInfo, hi, hs]

theorem run_fieldAt {s f off : Nat} (h : fieldOff P s f = some off) (a : Addr) (w : World) : (Instr.fieldAt s (.pointer (some a)) f).run P w = .ok (.pointer (some (a.add off))) w := by
  unfold fieldOff at h
  split at h
  · rename_i fields hu
    split at h
    · rename_i fd hf
      split at h
      · rename_i k hs
        cases h
        simp [Instr.fieldAt, run_underlying hu, hf, Instr.sureAddr, fieldPlace, run_sizeOf hs]
      · cases h
    · cases h
  · cases h

theorem idx_sl {t e sz : Nat} (h : idxInfo P t = some (.sl e sz)) : P.underlying t = some (.slice e) ∧ sizeP P e = some sz := by
  unfold idxInfo at h
  split at h
  · rename_i e' hu
    split at h
    · rename_i s hs; cases h; exact ⟨hu, hs⟩
    · cases h
  · split at h <;> cases h
  · cases h
theorem idx_ar {t e sz len : Nat} (h : idxInfo P t = some (.ar e sz len)) : P.underlying t = some (.array len e) ∧ sizeP P e = some sz := by
  unfold idxInfo at h
  split at h
  · split at h <;> cases h
  · rename_i len' e' hu
    split at h
    · rename_i s hs; cases h; exact ⟨hu, hs⟩
    · cases h
  · cases h

theorem run_indexSl {t e sz : Nat} (h : idxInfo P t = some (.sl e sz)) (a : Addr) (len cap n : Nat) (k : IntKind) (hn : n < len) (w : World) :
    (Instr.indexAt t (.slice (some a) len cap) (.int k (Int.ofNat n))).run P w = .ok (.pointer (some (a.add (n * sz)))) w := by
  obtain ⟨hu, hs⟩ := idx_sl h
  have h1 : (0 : Int) ≤ (n : Int) ∧ (n : Int) < (len : Int) := by omega
  simp [Instr.indexAt, asIntOf, run_underlying hu, hn, run_sizeOf hs]
theorem run_indexAr {t e sz len : Nat} (h : idxInfo P t = some (.ar e sz len)) (a : Addr) (n : Nat) (k : IntKind) (hn : n < len) (w : World) :
    (Instr.indexAt t (.pointer (some a)) (.int k (Int.ofNat n))).run P w = .ok (.pointer (some (a.add (n * sz)))) w := by
  obtain ⟨hu, hs⟩ := idx_ar h
  simp [Instr.indexAt, asIntOf, run_underlying hu, hn, run_sizeOf hs, Instr.sureAddr]

theorem run_isAgg {t : Nat} {b : Bool} (h : isAggP P t = some b) (w : World) : (isAgg t).run P w = .ok b w := by
  unfold isAggP at h
  split at h
  · rename_i fs hu; cases h; simp [isAgg, run_underlying hu]
  · rename_i n e hu; cases h; simp [isAgg, run_underlying hu]
  · rename_i d h1 h2 hu
    cases h
    cases d with
    | struct fs => exact absurd rfl (h1 fs)
    | array n e => exact absurd rfl (h2 n e)
    | _ => simp [isAgg, run_underlying hu]
  · cases h

theorem natOr_int {x : Option Value} {top d n : Nat} (h : natOr x top d = some n) : (x = none ∧ n = d) ∨ ∃ k, x = some (.int k (Int.ofNat n)) ∧ n ≤ top ∧ n < small := by
  cases x with
  | none => simp [natOr] at h; exact .inl ⟨rfl, h.symm⟩
  | some v =>
    right
    simp only [natOr, natIn] at h
    split at h
    · rename_i k m
      split at h
      · rename_i h1 h2; cases h; exact ⟨k, rfl, ble_true.1 h1, blt_true.1 h2⟩
      · cases h
    · cases h

/-- Two bounds. -/
def BoundR (σ : Int → Int) (ρ : Ren) (x x' : Option Value) : Prop := (x = none ∧ x' = none) ∨ ∃ a b, x = some a ∧ x' = some b ∧ VRel σ ρ a b
theorem VRel.int_small {k : IntKind} {n : Nat} {v' : Value} (h : VRel σ ρ (.int k (Int.ofNat n)) v') (hn : n < small) : v' = .int k (Int.ofNat n) :=
  h.plain (by simp [plainS]; unfold small at hn; unfold big; omega)
theorem natOr_rel {x x' : Option Value} {top d n : Nat} (h : natOr x top d = some n) (hr : BoundR σ ρ x x') : (x = none ∧ x' = none ∧ n = d) ∨ ∃ k, x = some (.int k (Int.ofNat n)) ∧ x' = some (.int k (Int.ofNat n)) ∧ n ≤ top := by
  rcases natOr_int h with ⟨h1, h2⟩ | ⟨k, h1, h2, h3⟩
  · rcases hr with ⟨_, h4⟩ | ⟨a, b, h4, _, _⟩
    · exact .inl ⟨h1, h4, h2⟩
    · rw [h1] at h4; cases h4
  · rcases hr with ⟨h4, _⟩ | ⟨a, b, h4, h5, h6⟩
    · rw [h1] at h4; cases h4
    · rw [h1] at h4; cases h4
      exact .inr ⟨k, h1, by rw [h5, h6.int_small h3], h2⟩

theorem run_sliceBound (k : IntKind) (n y : Nat) (c : BoundsCode) (h : n ≤ y) (w : World) : (Instr.sliceBound (.int k (n : Int)) y c).run P w = .ok n w := by
  simp [Instr.sliceBound, asIntOf, h]

/-- The bounds of a slice expression, with whatever capacity at least as great. -/
theorem run_sliceBounds {lo hi mx lo' hi' mx' : Option Value} {len cap cap' l hh m : Nat} (s : Bool) (hl : BoundR σ ρ lo lo') (hh' : BoundR σ ρ hi hi') (hm : BoundR σ ρ mx mx') (h1 : natOr mx cap cap = some m) (h2 : natOr hi m len = some hh) (h3 : natOr lo hh 0 = some l)
    (hx : mx ≠ none → hi ≠ none) (hc : cap ≤ cap') (w : World) :
    ∃ m', (Instr.sliceBounds s len cap' lo' hi' mx').run P w = .ok (l, hh, m') w ∧ m ≤ m' ∧ ((mx = none ∧ m = cap ∧ m' = cap') ∨ m' = m) := by
  rcases natOr_rel h1 hm with ⟨e1, e2, e3⟩ | ⟨k, e1, e2, e3⟩
  · refine ⟨cap', ?_, by omega, .inl ⟨e1, e3, rfl⟩⟩
    subst e2
    rcases natOr_rel h2 hh' with ⟨f1, f2, f3⟩ | ⟨k2, f1, f2, f3⟩
    · subst f2
      rcases natOr_rel h3 hl with ⟨g1, g2, g3⟩ | ⟨k3, g1, g2, g3⟩
      · subst g2; simp [Instr.sliceBounds, f3, g3]
      · subst g2; subst f3
        simp only [Instr.sliceBounds]
        simp [run_sliceBound _ _ _ _ g3]
    · subst f2
      have f3' : hh ≤ cap' := by omega
      rcases natOr_rel h3 hl with ⟨g1, g2, g3⟩ | ⟨k3, g1, g2, g3⟩
      · subst g2
        simp only [Instr.sliceBounds]
        simp [run_sliceBound _ _ _ _ f3', g3]
      · subst g2
        simp only [Instr.sliceBounds]
        simp [run_sliceBound _ _ _ _ f3', run_sliceBound _ _ _ _ g3]
  · refine ⟨m, ?_, Nat.le_refl _, .inr rfl⟩
    subst e2
    have e3' : m ≤ cap' := by omega
    rcases natOr_rel h2 hh' with ⟨f1, f2, f3⟩ | ⟨k2, f1, f2, f3⟩
    · exact absurd f1 (hx (by rw [e1]; simp))
    · subst f2
      rcases natOr_rel h3 hl with ⟨g1, g2, g3⟩ | ⟨k3, g1, g2, g3⟩
      · subst g2
        simp only [Instr.sliceBounds]
        simp [run_sliceBound _ _ _ _ e3', run_sliceBound _ _ _ _ f3, g3]
      · subst g2
        simp only [Instr.sliceBounds]
        simp [run_sliceBound _ _ _ _ e3', run_sliceBound _ _ _ _ f3, run_sliceBound _ _ _ _ g3]

theorem slice_sound {t e sz : Nat} (hi : idxInfo P t = some (.sl e sz)) {h : AH} {w : World} (H : HRel σ P ρ h w) {x x' v : Value} {lo hi' mx lo₁ hi₁ mx₁ : Option Value} (hx : VRel σ ρ x x')
    (hl : BoundR σ ρ lo lo₁) (hh : BoundR σ ρ hi' hi₁) (hm : BoundR σ ρ mx mx₁) (hxm : mx ≠ none → hi' ≠ none) (he : aSlice e sz x lo hi' mx h = some v) :
    ∃ v', (Instr.sliceAt t x' lo₁ hi₁ mx₁).run P w = .ok v' w ∧ VRel σ ρ v v' := by
  obtain ⟨hu, hs⟩ := idx_sl hi
  unfold aSlice at he
  split at he
  · rename_i base len cap
    split at he
    · cases he
    · rename_i m hm1
      split at he
      · cases he
      · rename_i hhv hh1
        split at he
        · rename_i l hl1 hle
          have hle := ble_true.1 hle
          have hll : l ≤ hhv := by
            rcases natOr_int hl1 with ⟨_, h0⟩ | ⟨_, _, h0, _⟩ <;> omega
          have key : ∀ (base' : Option Addr) (cap' : Nat), cap ≤ cap' → ∃ m', (Instr.sliceAt t (.slice base' len cap') lo₁ hi₁ mx₁).run P w = .ok (.slice (if m' = l then base' else base'.map (·.add (l * sz))) (hhv - l) (m' - l)) w ∧ m ≤ m' ∧ ((mx = none ∧ m = cap ∧ m' = cap') ∨ m' = m) := by
            intro base' cap' hcc
            obtain ⟨m', h1, h2, h3⟩ := run_sliceBounds (P := P) (len := len) true hl hh hm hm1 hh1 hl1 hxm hcc w
            refine ⟨m', ?_, h2, h3⟩
            simp [Instr.sliceAt, Instr.slice, run_underlying hu, h1, run_sizeOf hs]
          cases hx with
          | sl0 _ _ =>
            simp only [Option.some.injEq] at he
            obtain ⟨m', h1, h2, h3⟩ := key none cap (Nat.le_refl _)
            refine ⟨_, h1, ?_⟩
            rw [← he]
            have : m' = m := by rcases h3 with ⟨_, a, b⟩ | h3 <;> omega
            subst this
            split <;> exact .sl0 _ _
          | sl id off sp p _ _ c' hp hcc hn hw =>
            simp only at he
            split at he
            · rename_i hcut
              simp only [Option.some.injEq] at he
              obtain ⟨m', h1, h2, h3⟩ := key (some ⟨p.blk, off, sp⟩) c' hcc
              refine ⟨_, h1, ?_⟩
              rw [← he]
              unfold cutOk at hcut
              split at hcut
              · rename_i c0 e0 lo0 hi0 w0 hb
                obtain ⟨cc, hxx, k1, k2, k3, k4, k5⟩ := (H.live _ _ _ hb hp).cells_obj
                have same : p.wide = false → m' = m := fun hf => by
                  rcases h3 with ⟨_, a, b⟩ | h3
                  · have := hn hf; omega
                  · exact h3
                have addr : ∀ n, Addr.add ⟨p.blk, off, sp⟩ n = ⟨p.blk, (Addr.add ⟨id, off, sp⟩ n).off, (Addr.add ⟨id, off, sp⟩ n).spot⟩ := by
                  intro n; unfold Addr.add; split <;> rfl
                have blk : ∀ n, (Addr.add ⟨id, off, sp⟩ n).block = id := by intro n; unfold Addr.add; split <;> rfl
                split at hcut
                · -- a closed block
                  have hm' := same k2
                  subst hm'
                  unfold cutAt
                  by_cases hml : m' = l
                  · rw [if_pos hml, eqNat_true.2 hml]
                    exact .sl id off sp p _ _ _ hp (Nat.le_refl _) (fun _ => rfl) (fun e => by rw [k2] at e; cases e)
                  · rw [if_neg hml, show eqNat m' l = false by rw [← Bool.not_eq_true, eqNat_true]; exact hml]
                    simp only [Option.map_some]
                    rw [addr]
                    have := VRel.sl (σ := σ) (ρ := ρ) (Addr.add ⟨id, off, sp⟩ (l * sz)).block (Addr.add ⟨id, off, sp⟩ (l * sz)).off (Addr.add ⟨id, off, sp⟩ (l * sz)).spot p (hhv - l) (m' - l) (m' - l) (by rw [blk]; exact hp) (Nat.le_refl _) (fun _ => rfl) (fun e => by rw [k2] at e; cases e)
                    exact this
                · -- one that may be longer
                  have hesz : ∀ (_ : e0 = e), p.esz = sz := by
                    intro e1; subst e1
                    have := k4 rfl
                    obtain ⟨i, hi2, hs2⟩ := sizeP_size hs
                    rw [hi2] at this; simp at this; omega
                  have hwide := hw k2
                  split at hcut
                  · rename_i e1
                    have e1 := eqNat_true.1 e1
                    have hz := hesz e1
                    rw [hz] at hwide
                    have hmc : m' ≤ c' := by
                      rcases natOr_int hm1 with ⟨_, h0⟩ | ⟨_, _, h0, _⟩ <;> rcases h3 with ⟨_, a, b⟩ | h3 <;> omega
                    have hmul : m' * sz ≤ c' * sz := Nat.mul_le_mul_right _ hmc
                    have hres : (if m' = 0 then some (⟨p.blk, off, sp⟩ : Addr) else Option.map (fun x => Addr.add x (0 * sz)) (some ⟨p.blk, off, sp⟩)) = some ⟨p.blk, off, sp⟩ := by
                      split
                      · rfl
                      · simp [Addr.add]
                    have hres2 : cutAt ⟨id, off, sp⟩ sz 0 m = ⟨id, off, sp⟩ := by
                      unfold cutAt; split
                      · rfl
                      · simp [Addr.add]
                    rw [hres, hres2]
                    exact .sl id off sp p _ _ _ hp (by omega) (fun e => by rw [k2] at e; cases e) (fun _ => by rw [hz]; simp; omega)
                  · rename_i l2 e1
                    have e1 := eqNat_true.1 e1
                    have hz := hesz e1
                    rw [hz] at hwide
                    split at hcut
                    · cases hcut
                    · rename_i hml
                      have hml' : m ≠ l2 + 1 := by intro e; rw [eqNat_true.2 e] at hml; cases hml
                      unfold cutAt
                      rw [if_neg (by omega), show eqNat m (l2 + 1) = false from hml]
                      simp only [Option.map_some]
                      rw [addr]
                      have hmc : m' ≤ c' := by
                        rcases natOr_int hm1 with ⟨_, h0⟩ | ⟨_, _, h0, _⟩ <;> rcases h3 with ⟨_, a, b⟩ | h3 <;> omega
                      have hmul : m' * sz ≤ c' * sz := Nat.mul_le_mul_right _ hmc
                      have hsub : (m' - (l2 + 1)) * sz + (l2 + 1) * sz = m' * sz := by rw [← Nat.add_mul]; congr 1; omega
                      have hoff : (Addr.add ⟨id, off, sp⟩ ((l2 + 1) * sz)).off = off + (l2 + 1) * sz := by
                        unfold Addr.add; split
                        · rename_i h0; simp [h0]
                        · rfl
                      have := VRel.sl (σ := σ) (ρ := ρ) (Addr.add ⟨id, off, sp⟩ ((l2 + 1) * sz)).block (Addr.add ⟨id, off, sp⟩ ((l2 + 1) * sz)).off (Addr.add ⟨id, off, sp⟩ ((l2 + 1) * sz)).spot p (hhv - (l2 + 1)) (m - (l2 + 1)) (m' - (l2 + 1)) (by rw [blk]; exact hp) (by omega) (fun e => by rw [k2] at e; cases e) (fun _ => by rw [hz, hoff]; omega)
                      exact this
                  · cases hcut
              · cases hcut
            · cases he
        · cases he
  · cases he
end Go.Ri
namespace Go.Ri
variable {σ : Int → Int} {P : Program} {ρ : Ren}

theorem sla_sound {t e sz len : Nat} (hi : idxInfo P t = some (.ar e sz len)) {h : AH} {w : World} (H : HRel σ P ρ h w) {a : Addr} {x' v : Value} {lo hi' mx lo₁ hi₁ mx₁ : Option Value} (hx : VRel σ ρ (.pointer (some a)) x')
    {c : List Value} {e0 l0 h0 : Nat} (hb : h.get a.block = some (.cells c e0 l0 h0 false))
    (hl : BoundR σ ρ lo lo₁) (hh : BoundR σ ρ hi' hi₁) (hm : BoundR σ ρ mx mx₁) (hxm : mx ≠ none → hi' ≠ none) (he : aSlice 0 sz (.slice (some a) len len) lo hi' mx h = some v) :
    ∃ v', (Instr.sliceAt t x' lo₁ hi₁ mx₁).run P w = .ok v' w ∧ VRel σ ρ v v' := by
  obtain ⟨hu, hs⟩ := idx_ar hi
  obtain ⟨a', rfl, p, hp, rfl⟩ := hx.to_addr
  obtain ⟨cc, hxx, k1, k2, k3, k4, k5⟩ := (H.live _ _ _ hb hp).cells_obj
  unfold aSlice at he
  simp only at he
  split at he
  · cases he
  · rename_i m hm1
    split at he
    · cases he
    · rename_i hhv hh1
      split at he
      · rename_i l hl1 hle
        split at he
        · simp only [Option.some.injEq] at he
          obtain ⟨m', h1, h2, h3⟩ := run_sliceBounds (P := P) (len := len) false hl hh hm hm1 hh1 hl1 hxm (Nat.le_refl len) w
          have hmm : m' = m := by rcases h3 with ⟨_, a, b⟩ | h3 <;> omega
          subst hmm
          refine ⟨.slice (some (if m' = l then ⟨p.blk, a.off, a.spot⟩ else Addr.add ⟨p.blk, a.off, a.spot⟩ (l * sz))) (hhv - l) (m' - l), ?_, ?_⟩
          · simp [Instr.sliceAt, run_underlying hu, Instr.sureAddr, h1, run_sizeOf hs]
          · rw [← he]
            unfold cutAt
            have addr : ∀ n, Addr.add ⟨p.blk, a.off, a.spot⟩ n = ⟨p.blk, (Addr.add a n).off, (Addr.add a n).spot⟩ := by
              intro n; unfold Addr.add; split <;> rfl
            have blk : ∀ n, (Addr.add a n).block = a.block := by intro n; unfold Addr.add; split <;> rfl
            by_cases hml : m' = l
            · rw [if_pos hml, eqNat_true.2 hml]
              exact .sl a.block a.off a.spot p _ _ _ hp (Nat.le_refl _) (fun _ => rfl) (fun e => by rw [k2] at e; cases e)
            · rw [if_neg hml, show eqNat m' l = false by rw [← Bool.not_eq_true, eqNat_true]; exact hml, addr]
              exact VRel.sl (σ := σ) (ρ := ρ) (Addr.add a (l * sz)).block (Addr.add a (l * sz)).off (Addr.add a (l * sz)).spot p (hhv - l) (m' - l) (m' - l) (by rw [blk]; exact hp) (Nat.le_refl _) (fun _ => rfl) (fun e => by rw [k2] at e; cases e)
        · cases he
      · cases he

/-! ### '==' with nil -/
theorem eqNil_rel {d : Option TypeDesc} {x y x' y' : Value} {b : Bool} (hx : VRel σ ρ x x') (hy : VRel σ ρ y y') (h : eqNil d x y = some b) : eqNil d x' y' = some b := by
  unfold eqNil at h
  split at h
  · cases hx; cases hy <;> (simp only [Option.some.injEq] at h; subst h; rfl)
  · cases hx; cases hy; exact h
  · cases hx; cases hy <;> (simp only [Option.some.injEq] at h; subst h; rfl)
  · cases hx; cases hy; exact h
  · cases hx; cases hy <;> (simp only [Option.some.injEq] at h; subst h; rfl)
  · cases hx; cases hy; exact h
  · cases h

theorem run_eqNil {t : TypeId} {x y : Value} {b : Bool} (h : eqNil (P.underlying t) x y = some b) (w : World) : (Op.equal t x y).run P w = .ok b w := by
  show (Op.equalIn (9999 + 1) t x y).run P w = .ok b w
  unfold Op.equalIn
  unfold eqNil at h
  split at h <;> first
    | (cases h; done)
    | (rename_i hu; simp only [Option.some.injEq] at h; subst h; simp [run_underlying hu]; done)

theorem eqGuard_nil {d : Option TypeDesc} {op : BinOp} {t : TypeId} {x y : Operand} {a b : Value} {r : Bool} (h : eqNil d a b = some r) (w : World) : (eqGuard op t x y a b).run P w = .ok () w := by
  unfold eqNil at h
  unfold eqGuard
  split at h <;> first | (cases h; done) | (cases op <;> simp [Sem.run, pure])

theorem eqGuard_plain {op : BinOp} {t : TypeId} {x y : Operand} {a b : Value} (ha : plainS a = true) (w : World) : (eqGuard op t x y a b).run P w = .ok () w := by
  unfold eqGuard
  cases a <;> simp [plainS] at ha <;> cases op <;> simp [Sem.run, pure]

theorem binOp_nil {op : BinOp} {t : TypeId} {x y : Value} {b : Bool} (h : eqNil (P.underlying t) x y = some b) (w : World) :
    (op = .eql → (binOp op t x y).run P w = .ok (.bool b) w) ∧ (op = .neq → (binOp op t x y).run P w = .ok (.bool (!b)) w) := by
  have hr := run_eqNil h w
  constructor
  · rintro rfl
    unfold eqNil at h
    split at h <;> first | (cases h; done) | (simp only [binOp]; simp [hr])
  · rintro rfl
    unfold eqNil at h
    split at h <;> first | (cases h; done) | (simp only [binOp]; simp [hr])
end Go.Ri
