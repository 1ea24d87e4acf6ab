/-
  Ri, part YA: for regions whose order is drawn: what may be moved.
  Ri, part YB: an operation that lays a block, where it stands in its region.
  Ri, part YC: regions whose order is drawn: what stands, whatever has been done.
  Ri, part YD: regions whose order is drawn: one step.
  Ri, part YE: two stores, one beside the other.
  Ri, part Y: regions whose order is drawn.
-/
import Derived.Test.YtojhgdpmbpgdgaaGreatDoorRi6
namespace Go.Ri
variable {σ : Int → Int} {P : Program} {C : Cfg} {β : Type}

/-! ### bits -/
theorem bitIn_eq (m i : Nat) : bitIn m i = m.testBit i := by
  rw [Nat.testBit_eq_decide_div_mod_eq]
  show Nat.beq ((m >>> i) % 2) 1 = _
  rw [Nat.shiftRight_eq_div_pow]
  by_cases h : m / 2 ^ i % 2 = 1
  · rw [h]; rfl
  · rw [decide_eq_false h]
    cases e : Nat.beq (m / 2 ^ i % 2) 1 with
    | false => rfl
    | true => exact absurd (Nat.eq_of_beq_eq_true e) h
theorem bitOr_test (m i j : Nat) : (bitOr m i).testBit j = (m.testBit j || decide (i = j)) := by
  show (m ||| (1 <<< i)).testBit j = _
  rw [Nat.testBit_or, Nat.one_shiftLeft, Nat.testBit_two_pow]
theorem lor_test (a b j : Nat) : (Nat.lor a b).testBit j = (a.testBit j || b.testBit j) := Nat.testBit_or a b j
theorem subset_test {a b : Nat} (h : subset a b = true) {i : Nat} (hi : a.testBit i = true) : b.testBit i = true := by
  have h1 : a ||| b = b := Nat.eq_of_beq_eq_true h
  rw [← h1, Nat.testBit_or, hi]
  rfl

theorem sameP_iff : ∀ p q : Pos, sameP p q = true ↔ p = q
  | .z, .z => by simp [sameP]
  | .a p, .a q => by simp [sameP, sameP_iff p q]
  | .b p, .b q => by simp [sameP, sameP_iff p q]
  | .z, .a _ => by simp [sameP]
  | .z, .b _ => by simp [sameP]
  | .a _, .z => by simp [sameP]
  | .a _, .b _ => by simp [sameP]
  | .b _, .z => by simp [sameP]
  | .b _, .a _ => by simp [sameP]

theorem befU_test (l : List Info) (i : Nat) : ∀ (js : List Nat) (m : Nat), (js.foldl (fun m j => Nat.lor (bitOr m j) (match l[j]? with | some y => y.bef | none => 0)) m).testBit i = true →
    m.testBit i = true ∨ ∃ j, j ∈ js ∧ (j = i ∨ ∃ y, l[j]? = some y ∧ y.bef.testBit i = true)
  | [], m, h => .inl h
  | j :: js, m, h => by
    simp only [List.foldl_cons] at h
    rcases befU_test l i js _ h with h | ⟨j', hj', h⟩
    · rw [lor_test, bitOr_test] at h
      simp only [Bool.or_eq_true, decide_eq_true_eq] at h
      rcases h with (h | h) | h
      · exact .inl h
      · exact .inr ⟨j, by simp, .inl h⟩
      · split at h
        · rename_i y hy; exact .inr ⟨j, by simp, .inr ⟨y, hy, h⟩⟩
        · simp at h
    · exact .inr ⟨j', by simp [hj'], h⟩

/-! ### values that are one -/
theorem sameB_eq : ∀ a b : List UInt8, sameB a b = true → a = b
  | [], [], _ => rfl
  | a :: l, b :: m, h => by
    simp only [sameB] at h
    split at h
    · rename_i e
      have := Nat.eq_of_beq_eq_true e
      rw [UInt8.toNat_inj.1 this, sameB_eq l m h]
    · cases h
  | [], _ :: _, h => by cases h
  | _ :: _, [], h => by cases h
theorem sameI_eq : ∀ a b : Int, sameI a b = true → a = b
  | .ofNat a, .ofNat b, h => by rw [Nat.eq_of_beq_eq_true h]
  | .negSucc a, .negSucc b, h => by rw [Nat.eq_of_beq_eq_true h]
  | .ofNat _, .negSucc _, h => by cases h
  | .negSucc _, .ofNat _, h => by cases h
theorem sameA_eq (a b : Addr) (h : sameA a b = true) : a = b := by
  obtain ⟨ab, ao, asp⟩ := a
  obtain ⟨bb, bo, bsp⟩ := b
  unfold sameA at h
  simp only at h
  split at h
  · split at h
    · rename_i e
      rw [Nat.eq_of_beq_eq_true e, Nat.eq_of_beq_eq_true h]
    · cases h
  · cases h
theorem sameL_eq {f : Value → Value → Bool} (hf : ∀ a b, f a b = true → a = b) : ∀ l m : List Value, sameL f l m = true → l = m
  | [], [], _ => rfl
  | a :: l, b :: m, h => by
    simp only [sameL] at h
    split at h
    · rename_i e; rw [hf a b e, sameL_eq hf l m h]
    · cases h
  | [], _ :: _, h => by cases h
  | _ :: _, [], h => by cases h
theorem sameV_eq : ∀ (n : Nat) (a b : Value), sameV n a b = true → a = b
  | 0, _, _, h => by cases h
  | n + 1, a, b, h => by
    unfold sameV at h
    split at h
    · split at h <;> first | rfl | cases h
    · split at h
      · rename_i e; rw [of_decide_eq_true e, sameI_eq _ _ h]
      · cases h
    · split at h
      · rename_i e; rw [of_decide_eq_true e, Nat.eq_of_beq_eq_true h]
      · cases h
    · have := sameB_eq _ _ h
      congr 1
      exact ByteArray.ext (Array.toList_inj.1 this)
    · rfl
    · rw [sameA_eq _ _ h]
    · rfl
    · rw [Nat.eq_of_beq_eq_true h]
    · split at h
      · rename_i e; rw [Nat.eq_of_beq_eq_true e, Nat.eq_of_beq_eq_true h]
      · cases h
    · split at h
      · rename_i e1 e2; rw [Nat.eq_of_beq_eq_true e1, Nat.eq_of_beq_eq_true e2, sameA_eq _ _ h]
      · cases h
    · rw [Array.toList_inj.1 (sameL_eq (fun a b => sameV_eq n a b) _ _ h)]
    · rw [Array.toList_inj.1 (sameL_eq (fun a b => sameV_eq n a b) _ _ h)]
    · rfl
    · rfl
    · cases h

/-! ### values without a change of the memory -/
theorem psem_asem {α : Type} : ∀ (s : Sem α) (a : α), psem P s = some a → ∀ h, asem P s h = some (a, h) := by
  intro s
  induction s with
  | pure a => intro b e h; simp [psem] at e; subst e; rfl
  | program k ih => intro b e h; simp only [psem] at e; simp only [asem]; exact ih P b e h
  | mark m k ih => intro b e h; simp only [psem] at e; simp only [asem]; exact ih b e h
  | _ => intro b e; simp [psem] at e

theorem rsem_asem : ∀ (s : Sem Value) (h : AH) (v : Value), rsem P s h = some v → asem P s h = some (v, h) := by
  intro s
  induction s with
  | pure a => intro h v e; simp [rsem] at e; subst e; rfl
  | program k ih => intro h v e; simp only [rsem] at e; simp only [asem]; exact ih P h v e
  | mark m k ih => intro h v e; simp only [rsem] at e; simp only [asem]; exact ih h v e
  | load m a k ih =>
    intro h v e
    simp only [rsem] at e
    simp only [asem]
    split at e
    · rename_i x hx; simp only [hx]; exact ih _ h v e
    · cases e
  | shape r k ih =>
    intro h v e
    simp only [rsem] at e
    simp only [asem]
    split at e
    · rename_i hx; simp only [hx]; exact ih _ h v e
    · rename_i hx; simp only [hx]; exact ih _ h v e
    · cases e
  | frozen a k ih =>
    intro h v e
    simp only [rsem] at e
    simp only [asem]
    split at e
    · rename_i hx; simp only [hx]; exact ih _ h v e
    · cases e
  | getObj r k ih =>
    intro h v e
    simp only [rsem] at e
    simp only [asem]
    split at e
    · rename_i hx; simp only [hx]; exact ih _ h v e
    · cases e
  | choose q k ih =>
    intro h v e
    simp only [rsem] at e
    simp only [asem]
    split at e
    · rename_i hx; simp only [hx]; exact ih _ h v e
    · cases e
  | _ => intro h v e; simp [rsem] at e

theorem aPure_dyn {o : AOp} {t : T Value} {v : Value} (h : AH) (e : aPure P o t = some v) : dyn P o t h = some (.value v h) := by
  unfold aPure at e
  cases o <;> simp only [Option.some.injEq, reduceCtorEq] at e
  case mv x => simp only [dyn, e]
  case pk c a b => simp only [dyn]; unfold dPk at e ⊢; split at e <;> simp_all [didVal]
  case fa off x => simp only [dyn]; unfold dFa at e ⊢; split at e <;> simp_all [didVal]
  case ixs sz x i => simp only [dyn]; unfold dIxs dIx at e ⊢; split at e <;> (try split at e) <;> simp_all [didVal]
  case ixa sz len x i => simp only [dyn]; unfold dIxa dIx at e ⊢; split at e <;> (try split at e) <;> simp_all [didVal]
  case nc x => simp only [dyn]; unfold dNc at e ⊢; split at e <;> simp_all [didVal]
  case ex i x => simp only [dyn]; unfold dEx at e ⊢; split at e <;> (try split at e) <;> simp_all [didVal]
  case mf f a b => simp only [dyn]; unfold dMf at e ⊢; simp_all [didVal]
  case tree f xs => simp only [dyn, dTree, psem_asem _ _ e]
  case plain f xs => simp only [dyn]; unfold dPlain dPlainL dPlainV at e ⊢; (repeat' split at e) <;> simp_all [didVal]
  case bin sm op ty d x y => simp only [dyn]; unfold dBin dBinV dAgg dSym dPlainV dNil at e ⊢; (repeat' split at e) <;> simp_all [didVal]
  case nilI n x => simp only [dyn]; unfold dNilI at e ⊢; split at e <;> simp_all [didVal]
  case len str x => simp only [dyn]; unfold dLen dLenN at e ⊢; (repeat' split at e) <;> simp_all [didVal]
  case sld x => simp only [dyn]; unfold dSld at e ⊢; split at e <;> simp_all [didVal]

theorem aRead_dyn {o : AOp} {t : T Value} {v : Value} {h : AH} (e : aRead P o t h = some v) : dyn P o t h = some (.value v h) := by
  unfold aRead at e
  split at e
  · rename_i x
    simp only [dyn]; unfold dLd at e ⊢; (repeat' split at e) <;> simp_all [didVal]
  · simp only [dyn]; unfold dSl at e ⊢; (repeat' split at e) <;> simp_all [didVal]
  · simp only [dyn]; unfold dSla dSlaA at e ⊢; (repeat' split at e) <;> simp_all [didVal]
  · simp only [dyn]; unfold dB2s aBytes at e ⊢; (repeat' split at e) <;> simp_all [didVal]
  · simp only [dyn, dLook, dLookV]
    unfold rLook at e
    split at e
    · rename_i hp
      rw [hp]
      simp only [rsem_asem _ _ _ e]
    · cases e
  · simp only [dyn, dTree, rsem_asem _ _ _ e]
  · exact aPure_dyn h e

theorem valK_dyn {k : Kind} {o : AOp} {t : T Value} {v : Value} {h : AH} (e : valK P k o t h = some v) : dyn P o t h = some (.value v h) := by
  cases k with
  | pure => exact aPure_dyn h e
  | read => exact aRead_dyn e
  | _ => cases e

theorem aPure_congr {t t' : T Value} (o : AOp) (hh : ∀ x, x ∈ o.opds → evO t x = evO t' x) : aPure P o t = aPure P o t' := by
  cases o <;> simp only [AOp.opds, List.mem_cons, List.not_mem_nil, or_false, List.mem_append, Option.mem_toList, forall_eq_or_imp, forall_eq] at hh <;> simp only [aPure]
  case mv x => simp only [hh]
  case pk c a b => simp only [dPk, hh.1, hh.2.1, hh.2.2]
  case fa off x => simp only [dFa, hh]
  case ixs sz x i => simp only [dIxs, hh.1, hh.2]
  case ixa sz len x i => simp only [dIxa, hh.1, hh.2]
  case nc x => simp only [dNc, hh]
  case ex i x => simp only [dEx, hh]
  case mf f a b => simp only [dMf, evs_congr a fun x hx => hh x (.inl hx), evs_congr b fun x hx => hh x (.inr hx)]
  case tree f xs => simp only [evs_congr xs hh]
  case plain f xs => simp only [dPlain, evs_congr xs hh]
  case bin sm op ty d x y => simp only [dBin, hh.1, hh.2]
  case nilI n x => simp only [dNilI, hh]
  case len str x => simp only [dLen, hh]
  case sld x => simp only [dSld, hh]
theorem aRead_congr {t t' : T Value} {h : AH} (o : AOp) (hh : ∀ x, x ∈ o.opds → evO t x = evO t' x) : aRead P o t h = aRead P o t' h := by
  have hp := aPure_congr (P := P) o hh
  unfold aRead
  cases o <;> simp only [AOp.opds, List.mem_cons, List.not_mem_nil, or_false, List.mem_append, Option.mem_toList, forall_eq_or_imp, forall_eq] at hh <;> (try exact hp)
  case ld x => simp only [dLd, hh]
  case tree f xs => simp only [evs_congr xs hh]
  case look ty ok x k => simp only [hh.1, hh.2]
  case sl e sz x lo hi mx =>
    simp only [dSl, hh.1, map_congr_opt lo fun y e => hh.2 y (.inl e), map_congr_opt hi fun y e => hh.2 y (.inr (.inl e)), map_congr_opt mx fun y e => hh.2 y (.inr (.inr e))]
  case sla sz len x lo hi mx =>
    simp only [dSla, hh.1, map_congr_opt lo fun y e => hh.2 y (.inl e), map_congr_opt hi fun y e => hh.2 y (.inr (.inl e)), map_congr_opt mx fun y e => hh.2 y (.inr (.inr e))]
  case b2s x => simp only [dB2s, hh]
theorem aNew_congr {t t' : T Value} (o : AOp) (hh : ∀ x, x ∈ o.opds → evO t x = evO t' x) : aNew P o t = aNew P o t' := by
  unfold aNew
  cases o <;> simp only [AOp.opds] at hh <;> (try rfl)
  case tree f xs => simp only [evs_congr xs hh]

theorem valD_congr {k : Kind} {d : DOp} {t t' : T Value} {h : AH} (hA : Alike d t t') : valD P k d t h = valD P k d t' h := by
  obtain ⟨g, dd, o⟩ := d
  unfold valD
  simp only [hA.wanted]
  have : valK P k o t h = valK P k o t' h := by
    unfold valK
    cases k with
    | pure => exact aPure_congr o hA.evs
    | read => exact aRead_congr o hA.evs
    | _ => rfl
  rw [this]

theorem valD_pure {d : DOp} {t : T Value} {h h' : AH} : valD P .pure d t h = valD P .pure d t h' := by
  obtain ⟨g, dd, o⟩ := d
  rfl

/-- An operation without effect, where it stands. -/
theorem valD_ok (hC : CfgOk σ C P) {ops : Array Oper} {i : Nat} {o : Oper} (ho : ops[i]? = some o) {sz : Nat} {k : Kind} {t : T Value} {h : AH} {v : Value} (e : valD P k (decOp C P sz ops o) t h = some v) :
    OpOk σ P ops i sz t h (putT (dstD (decOp C P sz ops o)) v t) h := by
  rcases decOp_good (C := C) (P := P) (sz := sz) (ops := ops) (o := o) with ⟨hd, hg, e1⟩ | e1
  · rw [e1] at e ⊢
    simp only [valD] at e
    split at e
    · rename_i hw
      exact opOk_do hC ho hd hg hw (.inl (valK_dyn e))
    · rename_i hw
      cases e
      exact opOk_skip ho hd hg hw
  · rw [e1] at e
    simp only [valD, wantedA] at e
    have := valK_dyn e
    simp [dyn] at this

/-! ### Blocks that are laid later than told -/
theorem HRel.ghost {ρ : Ren} {h : AH} {w : World} (H : HRel σ P ρ h w) (o : AObj) (hr : h.next < roof) : HRel σ P ρ (h.push o) w := by
  have hfree : ρ h.next = none := by
    cases e : ρ h.next with
    | none => rfl
    | some p => have := (H.dom _ _ e).1; omega
  have htop : ∀ i, (h.push o).get i ≠ none → i < (h.push o).next := by
    intro i hi
    show i < h.next + 1
    rw [AH.get_push _ _ hr] at hi
    by_cases e : i = h.next
    · omega
    · rw [if_neg e] at hi; have := H.top i hi; omega
  refine ⟨?_, ?_, ?_, htop⟩
  · intro id oo q hg hq
    rw [AH.get_push _ _ hr] at hg
    by_cases e : id = h.next
    · subst e; rw [hfree] at hq; cases hq
    · rw [if_neg e] at hg; exact H.live _ _ _ hg hq
  · intro i j q s hi hj hq hs hqs
    rw [AH.get_push _ _ hr] at hi hj
    have ei : i ≠ h.next := by rintro rfl; rw [hfree] at hq; cases hq
    have ej : j ≠ h.next := by rintro rfl; rw [hfree] at hs; cases hs
    rw [if_neg ei] at hi; rw [if_neg ej] at hj
    exact H.inj i j q s hi hj hq hs hqs
  · intro id q hq
    have := H.dom _ _ hq
    exact ⟨Nat.lt_succ_of_lt this.1, this.2⟩

theorem Ext.ghost {ρ₀ ρ : Ren} {h₀ h : AH} {w₀ w : World} (E : Ext ρ₀ h₀ w₀ ρ h w) (H : HRel σ P ρ h w) (o : AObj) (hr : h.next < roof) : Ext ρ₀ h₀ w₀ ρ (h.push o) w where
  le := E.le
  old := fun id hi hn => by
    obtain ⟨h1, h2⟩ := E.old id hi hn
    refine ⟨h1, ?_⟩
    rw [AH.get_push _ _ hr, if_neg (by have := E.next; omega)]
    exact h2
  next := Nat.le_succ_of_le E.next
  kept := E.kept
  src := fun id p hp hl hb => by
    rw [AH.get_push _ _ hr] at hl
    have : id ≠ h.next := by rintro rfl; have := (H.dom _ _ hp).1; omega
    rw [if_neg this] at hl
    exact E.src id p hp hl hb
  size := E.size
  os := E.os
  tape := E.tape
  output := E.output

theorem Le.add {ρ : Ren} {m : Nat} (hn : ρ m = none) (p : Place) : Le ρ (Ren.add ρ m p) := by
  intro id q hq
  unfold Ren.add
  rw [if_neg]
  · exact hq
  · rintro rfl; rw [hn] at hq; cases hq

/-- A block that is told already is laid. -/
theorem HRel.laid {ρ : Ren} {h : AH} {w w' : World} (H : HRel σ P ρ h w) {m : Nat} {o : AObj} {x : Obj} {sz esz : Nat} {wd : Bool} (hm : m < h.next) (hn : ρ m = none) (hg : h.get m = some o)
    (hma : OMatch σ P ρ ⟨w.heap.size, sz, esz, wd, none⟩ o (some x)) (hw : w'.heap = w.heap.push x) : HRel σ P (Ren.add ρ m ⟨w.heap.size, sz, esz, wd, none⟩) h w' := by
  have hle := Le.add hn ⟨w.heap.size, sz, esz, wd, none⟩
  refine ⟨?_, ?_, ?_, H.top⟩
  · intro id oo q hgo hq
    by_cases e : id = m
    · subst e
      rw [hg] at hgo
      simp [Ren.add] at hq
      cases hgo; subst hq
      rw [hw]; simp; exact hma.mono hle
    · simp [Ren.add, e] at hq
      have hlt := (H.dom _ _ hq).2
      have := H.live _ _ _ hgo hq
      rw [hw, Array.getElem?_push, if_neg (by omega)]
      exact this.mono hle
  · intro i j q s hi hj hq hs hqs
    unfold Ren.add at hq hs
    by_cases ei : i = m <;> by_cases ej : j = m
    · rw [ei, ej]
    · simp [ei] at hq; simp [ej] at hs
      have := (H.dom _ _ hs).2
      subst hq; simp at hqs; omega
    · simp [ei] at hq; simp [ej] at hs
      have := (H.dom _ _ hq).2
      subst hs; simp at hqs; omega
    · simp [ei] at hq; simp [ej] at hs
      exact H.inj i j q s hi hj hq hs hqs
  · intro id q hq
    unfold Ren.add at hq
    by_cases e : id = m
    · simp [e] at hq; subst hq; subst e
      exact ⟨hm, by rw [hw]; simp⟩
    · simp [e] at hq
      have := H.dom _ _ hq
      exact ⟨this.1, by rw [hw]; simp; omega⟩

theorem Ext.laid {ρ₀ ρ : Ren} {h₀ h : AH} {w₀ w w' : World} (E : Ext ρ₀ h₀ w₀ ρ h w) {m : Nat} {x : Obj} {p : Place} (hm : h₀.next ≤ m) (hn : ρ m = none) (hp : p.blk = w.heap.size) (hw : w'.heap = w.heap.push x)
    (hos : w'.os = w.os) (ht : w'.tape = w.tape) (ho : w'.output = w.output) : Ext ρ₀ h₀ w₀ (Ren.add ρ m p) h w' where
  le := E.le.trans (Le.add hn p)
  old := fun id hi hnn => by
    obtain ⟨h1, h2⟩ := E.old id hi hnn
    exact ⟨by unfold Ren.add; rw [if_neg (by omega)]; exact h1, h2⟩
  next := E.next
  kept := fun b hb hk => by
    rw [hw, Array.getElem?_push, if_neg (by have := E.size; omega)]
    exact E.kept b hb hk
  src := fun id q hq hl hb => by
    unfold Ren.add at hq
    by_cases e : id = m
    · simp [e] at hq; subst hq; have := E.size; omega
    · simp [e] at hq; exact E.src id q hq hl hb
  size := by rw [hw]; simp; have := E.size; omega
  os := hos.trans E.os
  tape := ht.trans E.tape
  output := ho.trans E.output

theorem rsem_like {R : Ren → Value → Value → Prop} : ∀ (s s' : Sem Value) {ρ : Ren} {v : Value}, psem P s = some v → SRel σ P R ρ s s' → ∀ w : World, ∃ v', s'.run P w = .ok v' w ∧ R ρ v v' := by
  intro s
  induction s with
  | pure a => rintro s' ρ v e ⟨a', rfl, hr⟩ w; simp [psem] at e; subst e; exact ⟨a', rfl, hr⟩
  | program k ih => rintro s' ρ v e ⟨k', rfl, h1⟩ w; simp only [psem] at e; exact ih P _ e h1 w
  | mark m k ih => rintro s' ρ v e ⟨m', k', rfl, h1⟩ w; simp only [psem] at e; exact ih _ e h1 w
  | _ => intro s' ρ v e; simp [psem] at e

theorem nsem_run {R : Ren → Value → Value → Prop} : ∀ (s s' : Sem Value) (ρ : Ren) (ob : AObj) (f : Nat → Option Value), SRel σ P R ρ s s' → nsem P s = some (ob, f) → ∀ (h : AH) (w : World) (m : Nat) (v : Value), HRel σ P ρ h w → m < h.next → ρ m = none → h.get m = some ob → f m = some v →
    ∃ (v' : Value) (w' : World) (p : Place) (x : Obj), s'.run P w = .ok v' w' ∧ R (Ren.add ρ m p) v v' ∧ HRel σ P (Ren.add ρ m p) h w' ∧ p.blk = w.heap.size ∧ w'.heap = w.heap.push x ∧ w'.os = w.os ∧ w'.tape = w.tape ∧ w'.output = w.output := by
  intro s
  induction s with
  | program k ih => rintro s' ρ ob f ⟨k', rfl, h1⟩ he h w m v H hm hn hg hf; simp only [nsem] at he; exact ih P _ ρ ob f h1 he h w m v H hm hn hg hf
  | mark mm k ih => rintro s' ρ ob f ⟨m', k', rfl, h1⟩ he h w m v H hm hn hg hf; simp only [nsem] at he; exact ih _ ρ ob f h1 he h w m v H hm hn hg hf
  | new o k ih =>
    rintro s' ρ ob f hs he h w m v H hm hn hg hf
    simp only [nsem] at he
    rcases hs with hs | ⟨o', k', rfl, ho, hk⟩
    · rw [hs] at he; cases he
    · split at he
      · rename_i ao hao
        simp only [Option.some.injEq, Prod.mk.injEq] at he
        obtain ⟨rfl, rfl⟩ := he
        cases ho with
        | cells c c' el ff hc =>
          simp only [AObj.of, Option.some.injEq] at hao
          subst hao
          have H' := H.laid (w' := { w with heap := w.heap.push (.cells c' el ff) }) (x := .cells c' el ff) (sz := c'.size) (esz := 0) (wd := false) hm hn hg
            ⟨rfl, rfl, rfl, rfl, fun _ => (by have := hc.length; simpa using this.symm), (fun h => (by cases h)), c'.toList, [], (by simp), hc⟩ rfl
          have hs := hk _ (Le.add hn ⟨w.heap.size, c'.size, 0, false, none⟩) m w.heap.size ⟨⟨w.heap.size, c'.size, 0, false, none⟩, by simp [Ren.add], rfl, rfl⟩
          have hrun := rsem_like _ _ hf hs
          obtain ⟨v', h1, h2⟩ := hrun { w with heap := w.heap.push (.cells c' el ff) }
          exact ⟨v', _, _, _, by simp only [Sem.run]; exact h1, h2, H', rfl, rfl, rfl, rfl, rfl⟩
        | map es es' ck hc =>
          simp only [AObj.of, Option.some.injEq] at hao
          subst hao
          have H' := H.laid (w' := { w with heap := w.heap.push (.map es' ck) }) (x := .map es' ck) (sz := 0) (esz := 0) (wd := false) hm hn hg
            ⟨rfl, hc⟩ rfl
          have hs := hk _ (Le.add hn ⟨w.heap.size, 0, 0, false, none⟩) m w.heap.size ⟨⟨w.heap.size, 0, 0, false, none⟩, by simp [Ren.add], rfl, rfl⟩
          have hrun := rsem_like _ _ hf hs
          obtain ⟨v', h1, h2⟩ := hrun { w with heap := w.heap.push (.map es' ck) }
          exact ⟨v', _, _, _, by simp only [Sem.run]; exact h1, h2, H', rfl, rfl, rfl, rfl, rfl⟩
      · cases he
  | _ => intro s' ρ ob f _ he; simp [nsem] at he
end Go.Ri
namespace Go.Ri
variable {σ : Int → Int} {P : Program} {C : Cfg} {β : Type}

theorem tree_rel (hC : CfgOk σ C P) {ρ : Ren} {t : T Value} {h : AH} {sz : Nat} {a : Act} {w : World} (S : Sim σ P ρ t h sz a w) (o : Oper) {f : List Value → Sem Value} {xs : List Opd} (hd : decode C P o = .tree f xs) :
    ∃ s', execOp a.eval o = (do pure (.value (← s'))) ∧ SRel σ P (VR σ) ρ (f (evs t xs)) s' := by
  unfold decode at hd
  split at hd
  case h_2 => cases hd
  rename_i hall
  have hall : ∀ x, x ∈ o.op.operands.toList → opdOk P x = true := List.all_eq_true.1 hall
  obtain ⟨dst, op, type, pos, after, guard⟩ := o
  have one : ∀ (x : Operand) (g : Value → Sem Value), opdOk P x = true → (∀ v v', VRel σ ρ v v' → SRel σ P (VR σ) ρ (g v) (g v')) → AOp.tree (semOne g) [opd x] = .tree f xs → SRel σ P (VR σ) ρ (f (evs t xs)) (g (a.eval x)) := by
    intro x g hx hg e
    cases e
    exact hg _ _ (S.ev x hx)
  have zip : ∀ (parts : Array (Nat × Operand)) (g : Array (Nat × Value) → Sem Value), (∀ x, x ∈ parts.toList.map (·.2) → opdOk P x = true) →
      (∀ ps ps' : Array (Nat × Value), LRel (fun (x y : Nat × Value) => x.1 = y.1 ∧ VRel σ ρ x.2 y.2) ps.toList ps'.toList → SRel σ P (VR σ) ρ (g ps) (g ps')) →
      AOp.tree (semZip (parts.toList.map (·.1)) g) (parts.toList.map fun p => opd p.2) = .tree f xs → SRel σ P (VR σ) ρ (f (evs t xs)) (g (parts.map fun (i, x) => (i, a.eval x))) := by
    intro parts g hp hg e
    cases e
    have hev := S.evs (parts.toList.map (·.2)) hp
    rw [List.map_map] at hev
    have := semZip_rel (is := parts.toList.map (·.1)) hg hev
    unfold semZip at this ⊢
    rw [zip_map] at this
    exact this
  cases op with
  | load ty x =>
    simp only [decodeOp] at hd
    split at hd
    · cases hd
    · exact ⟨_, rfl, one x (Instr.loadAt ty) (hall x (by simp [Op.operands])) (fun v v' hv => SRel.loadAt' ty hv) hd⟩
  | alloc ty =>
    simp only [decodeOp] at hd
    cases hd
    exact ⟨_, rfl, SRel.alloc' hC.zeros ty⟩
  | makeMap ty r =>
    cases r with
    | none =>
      simp only [decodeOp] at hd
      cases hd
      exact ⟨_, rfl, SRel.makeMap' ty⟩
    | some r => simp [decodeOp] at hd
  | box ty x => exact ⟨_, rfl, one x (Instr.box ty) (hall x (by simp [Op.operands])) (fun v v' hv => SRel.box' ty hv) hd⟩
  | field ty x fd => exact ⟨_, rfl, one x (fun v => Instr.field ty v fd) (hall x (by simp [Op.operands])) (fun v v' hv => SRel.field' ty fd hv) hd⟩
  | build ty parts =>
    simp only [decodeOp] at hd
    split at hd
    · rename_i hpo
      exact ⟨_, rfl, zip parts (Instr.build ty) (fun x hx => hall x (by simpa [Op.operands] using hx)) (fun ps ps' hps => SRel.build' hC.zeros ty hpo hps) hd⟩
    · cases hd
  | buildSlice ty n parts =>
    exact ⟨_, rfl, zip parts (Instr.buildSlice ty n) (fun x hx => hall x (by simpa [Op.operands] using hx)) (fun ps ps' hps => SRel.buildSlice' hC.zeros ty n hps) hd⟩
  | indexAddr => simp only [decodeOp] at hd; split at hd <;> cases hd
  | fieldAddr => simp only [decodeOp] at hd; split at hd <;> cases hd
  | slice ty x lo hi mx =>
    simp only [decodeOp] at hd
    split at hd
    · cases hd
    · cases hd
    · cases hd
    · split at hd <;> cases hd
  | binOp op ty x y yt => simp only [decodeOp] at hd; split at hd <;> cases hd
  | store ty x y => simp only [decodeOp] at hd; split at hd <;> cases hd
  | convert s d x => simp only [decodeOp] at hd; (repeat' split at hd) <;> cases hd
  | makeFunc fn p q => cases fn <;> simp [decodeOp] at hd
  | call c =>
    exfalso
    simp only [decodeOp] at hd
    unfold decCall at hd
    (repeat' split at hd) <;> cases hd
  | _ => simp [decodeOp] at hd

theorem new_ok (hC : CfgOk σ C P) {ops : Array Oper} {i : Nat} {o : Oper} (ho : ops[i]? = some o) {sz : Nat} {d : Option Pos} {ao : AOp} (hdec : decOp C P sz ops o = .mk none d ao) {t : T Value} {h : AH} {ob : AObj} {f : Nat → Option Value} (hn : aNew P ao t = some (ob, f))
    {m : Nat} {v : Value} (hf : f m = some v) {ρ : Ren} {a : Act} {w : World} (S : Sim σ P ρ t h sz a w) (hm : m < h.next) (hno : ρ m = none) (hg : h.get m = some ob) {Q : Exit → Act → World → Prop} {K : Act → World → Prop}
    (hK : ∀ (p : Place) (x : Obj) a' w', Sim σ P (Ren.add ρ m p) (putT d v t) h sz a' w' → p.blk = w.heap.size → w'.heap = w.heap.push x → w'.os = w.os → w'.tape = w.tape → w'.output = w.output → K a' w') : wpOp P ops Q i K a w := by
  rcases decOp_good (C := C) (P := P) (sz := sz) (ops := ops) (o := o) with ⟨hd, hgd, e1⟩ | e1
  · rw [e1] at hdec
    simp only [DOp.mk.injEq] at hdec
    obtain ⟨hgn, rfl, rfl⟩ := hdec
    have hw := wanted_iff S hgd
    rw [hgn] at hw
    unfold wpOp
    simp only [ho, ← hw, wantedA, if_true]
    refine .inl ?_
    unfold aNew at hn
    split at hn
    · rename_i ff xs hdc
      obtain ⟨s', hs', hrel⟩ := tree_rel hC S o hdc
      obtain ⟨v', w', p, x, h1, h2, h3, h4, h5, h6, h7, h8⟩ := nsem_run _ _ ρ ob f hrel hn h w m v S.heap hm hno hg hf
      unfold Oper.wp
      rw [hs', Sem.run_bind, h1]
      exact hK p x _ w' (S.putT (Le.add hno p) h3 hd h2) h4 h5 h6 h7 h8
    · cases hn
  · rw [e1] at hdec
    simp only [DOp.mk.injEq] at hdec
    obtain ⟨_, _, rfl⟩ := hdec
    simp [aNew] at hn
end Go.Ri
namespace Go.Ri
variable {σ : Int → Int} {P : Program} {C : Cfg} {β : Type}

theorem infoOf_get (C : Cfg) (P : Program) (sz : Nat) (ops : Array Oper) (i : Nat) :
    (infoOf C P sz ops)[i]? = (ops[i]?).map fun o => ⟨i, kindOf o, (Region.before ops).getD i 0, edgesIn o, dstD (decOp C P sz ops o), (decOp C P sz ops o).reads⟩ := by
  unfold infoOf
  simp only [List.getElem?_map, List.getElem?_zipIdx, Array.getElem?_toList, Option.map_map]
  cases ops[i]? with
  | none => rfl
  | some o => simp

structure Static (l : List Info) : Prop where
  num : ∀ (i : Nat) (x : Info), l[i]? = some x → x.i = i
  sub : ∀ (i : Nat) (x : Info), l[i]? = some x → ∀ j, j ∈ x.after → x.bef.testBit j = true
  why : ∀ (i : Nat) (x : Info), l[i]? = some x → ∀ k, x.bef.testBit k = true → ∃ j, j ∈ x.after ∧ (j = k ∨ ∃ y : Info, l[j]? = some y ∧ y.bef.testBit k = true)
  one : ∀ (i j : Nat) (x y : Info) (p : Pos), l[i]? = some x → l[j]? = some y → x.dst = some p → y.dst = some p → i = j
  wire : ∀ (i j : Nat) (x y : Info) (p : Pos), l[i]? = some x → l[j]? = some y → i ≠ j → y.dst = some p → p ∈ x.reads → x.bef.testBit j = true ∨ y.bef.testBit i = true

theorem Static.of (l : List Info) (hn : ∀ (i : Nat) (x : Info), l[i]? = some x → x.i = i) (h : staticOk l = true) : Static l := by
  unfold staticOk at h
  simp only [Bool.and_eq_true, List.all_eq_true] at h
  obtain ⟨h1, h2⟩ := h
  have hw : ∀ (i j : Nat) (x y : Info) (p : Pos), l[i]? = some x → l[j]? = some y → i ≠ j → y.dst = some p → x.dst ≠ some p ∧ (p ∈ x.reads → x.bef.testBit j = true ∨ y.bef.testBit i = true) := by
    intro i j x y p hi hj hij hy
    have := h2 x (List.mem_of_getElem? hi) y (List.mem_of_getElem? hj)
    unfold wires at this
    rw [hy] at this
    simp only at this
    have hb : Nat.beq x.i y.i = false := by
      rw [hn i x hi, hn j y hj]
      cases e : Nat.beq i j with
      | false => rfl
      | true => exact absurd (Nat.eq_of_beq_eq_true e) hij
    rw [hb] at this
    simp only at this
    split at this
    · cases this
    · rename_i e1 e2
      refine ⟨?_, ?_⟩
      · intro hx
        rw [hx] at e1
        simp only at e1
        rw [(sameP_iff p p).2 rfl] at e1
        cases e1
      · intro hp
        have : x.reads.any (sameP p) = true := List.any_eq_true.2 ⟨p, hp, (sameP_iff p p).2 rfl⟩
        rw [e2] at this
        cases this
    · rename_i e1 e2
      refine ⟨?_, ?_⟩
      · intro hx
        rw [hx] at e1
        simp only at e1
        rw [(sameP_iff p p).2 rfl] at e1
        cases e1
      · intro _
        split at this
        · rename_i e3
          rw [bitIn_eq, hn j y hj] at e3
          exact .inl e3
        · rw [bitIn_eq, hn i x hi] at this
          exact .inr this
  refine ⟨hn, ?_, ?_, ?_, ?_⟩
  · intro i x hi j hj
    have := h1 x (List.mem_of_getElem? hi)
    unfold befOk at this
    split at this
    · rename_i e
      have := List.all_eq_true.1 e j hj
      rwa [bitIn_eq] at this
    · cases this
  · intro i x hi k hk
    have := h1 x (List.mem_of_getElem? hi)
    unfold befOk at this
    split at this
    · rcases befU_test l k x.after 0 (subset_test this hk) with h | h
      · simp at h
      · exact h
    · cases this
  · intro i j x y p hi hj hx hy
    by_cases e : i = j
    · exact e
    · exact absurd hx (hw i j x y p hi hj e hy).1
  · intro i j x y p hi hj hij hy hp
    exact (hw i j x y p hi hj hij hy).2 hp

/-! ### what the frame shows -/
open Classical in
noncomputable def env (l : List Info) (t₀ : T Value) (v : Nat → Value) (S : Nat → Prop) (p : Pos) : Value :=
  if h : ∃ j, S j ∧ ∃ y : Info, l[j]? = some y ∧ y.dst = some p then v h.choose else getP t₀ p

section
variable {l : List Info} {t₀ : T Value} {v v' : Nat → Value} {S S' : Nat → Prop} {p : Pos}
theorem env_in (st : Static l) {j : Nat} {y : Info} (hj : S j) (hl : l[j]? = some y) (hd : y.dst = some p) : env l t₀ v S p = v j := by
  have h : ∃ j, S j ∧ ∃ y : Info, l[j]? = some y ∧ y.dst = some p := ⟨j, hj, y, hl, hd⟩
  unfold env
  rw [dif_pos h]
  obtain ⟨_, z, hz, hzd⟩ := h.choose_spec
  rw [st.one _ _ _ _ _ hz hl hzd hd]
theorem env_out (h : ∀ (j : Nat) (y : Info), S j → l[j]? = some y → y.dst = some p → False) : env l t₀ v S p = getP t₀ p := by
  unfold env
  rw [dif_neg]
  rintro ⟨j, h1, y, h2, h3⟩
  exact h j y h1 h2 h3
theorem env_eq (st : Static l) (hS : ∀ (j : Nat) (y : Info), l[j]? = some y → y.dst = some p → (S j ↔ S' j)) (hv : ∀ j, S j → v j = v' j) : env l t₀ v S p = env l t₀ v' S' p := by
  by_cases h : ∃ j, S j ∧ ∃ y : Info, l[j]? = some y ∧ y.dst = some p
  · obtain ⟨j, h1, y, h2, h3⟩ := h
    rw [env_in st h1 h2 h3, env_in st ((hS j y h2 h3).1 h1) h2 h3, hv j h1]
  · rw [env_out fun j y h1 h2 h3 => h ⟨j, h1, y, h2, h3⟩, env_out fun j y h1 h2 h3 => h ⟨j, (hS j y h2 h3).2 h1, y, h2, h3⟩]

theorem env_put (st : Static l) {t : T Value} (ht : ∀ p, getP t p = env l t₀ v S p) {i : Nat} {x : Info} (hi : l[i]? = some x) (hS : ∀ j, S' j ↔ S j ∨ j = i) (hv : ∀ j, S j → j ≠ i → v' j = v j) (p : Pos) :
    getP (putT x.dst (v' i) t) p = env l t₀ v' S' p := by
  have other : x.dst ≠ some p → getP t p = env l t₀ v' S' p := by
    intro hne
    rw [ht]
    by_cases h : ∃ j, S j ∧ ∃ y : Info, l[j]? = some y ∧ y.dst = some p
    · obtain ⟨j, h1, y, h2, h3⟩ := h
      have hji : j ≠ i := by rintro rfl; rw [hi] at h2; cases h2; exact hne h3
      rw [env_in st h1 h2 h3, env_in st ((hS j).2 (.inl h1)) h2 h3, hv j h1 hji]
    · rw [env_out fun j y h1 h2 h3 => h ⟨j, h1, y, h2, h3⟩, env_out fun j y h1 h2 h3 => by
        rcases (hS j).1 h1 with h4 | rfl
        · exact h ⟨j, h4, y, h2, h3⟩
        · rw [hi] at h2; cases h2; exact hne h3]
  cases hd : x.dst with
  | none => exact other (by rw [hd]; simp)
  | some q =>
    show getP (setP (v' i) q t) p = _
    rw [getP_setP]
    by_cases e : p = q
    · subst e
      rw [if_pos rfl, env_in st ((hS i).2 (.inr rfl)) hi hd]
    · rw [if_neg e]
      exact other (by rw [hd]; intro h; cases h; exact e rfl)

/-- What an operation looks at: whatever else has been done. -/
theorem env_reads (st : Static l) {i : Nat} {x : Info} (hi : l[i]? = some x) (hni : ¬ S i) (hb : ∀ j, x.bef.testBit j = true → S j) (hc : ∀ (j : Nat) (y : Info), l[j]? = some y → S j → ∀ k, y.bef.testBit k = true → S k) {p : Pos} (hp : p ∈ x.reads) :
    env l t₀ v S p = env l t₀ v (fun j => x.bef.testBit j = true) p := by
  refine env_eq st (fun j y hj hd => ⟨fun hs => ?_, fun h => hb j h⟩) fun _ _ => rfl
  have hij : i ≠ j := by rintro rfl; exact hni hs
  rcases st.wire i j x y p hi hj hij hd hp with h | h
  · exact h
  · exact absurd (hc j y hj hs i h) hni
end

/-! ### what stands -/
section
variable (σ P) (C : Cfg) (ops : Array Oper) (sz : Nat) (l : List Info) (t₀ : T Value) (h₀ : AH)

structure CInv (s : PSt) (t : T Value) (h : AH) (v : Nat → Value) (M : Nat → Nat) : Prop where
  canon : ∀ p, getP t p = env l t₀ v (fun i => s.dn.testBit i = true) p
  cl : ∀ (i : Nat) (x : Info), l[i]? = some x → s.dn.testBit i = true → ∀ j, x.bef.testBit j = true → s.dn.testBit j = true
  ind : ∀ L : Nat → Prop, (∀ (i : Nat) (x : Info), l[i]? = some x → s.dn.testBit i = true → (∀ j, x.bef.testBit j = true → L j) → L i) → ∀ i, s.dn.testBit i = true → L i
  rng : ∀ i, s.dn.testBit i = true → ∃ x, l[i]? = some x
  ids : ∀ (i : Nat) (x : Info), l[i]? = some x → x.kind = .new → s.dn.testBit i = true → h₀.next ≤ M i ∧ M i < h.next
  inj : ∀ (i j : Nat) (x y : Info), l[i]? = some x → l[j]? = some y → x.kind = .new → y.kind = .new → s.dn.testBit i = true → s.dn.testBit j = true → M i = M j → i = j
  nx : h₀.next ≤ h.next
  es : ∀ i, s.es.testBit i = true → s.must.testBit i = true
  st : ∀ (i : Nat) (x : Info), l[i]? = some x → s.st.testBit i = true → s.ok.testBit i = true ∧ (x.kind = .pure ∨ x.kind = .new)

def Pend (v : Nat → Value) (M : Nat → Nat) (h : AH) (i : Nat) (x : Info) : Prop :=
  ∃ o ti, ops[i]? = some o ∧ (∀ p, p ∈ x.reads → getP ti p = env l t₀ v (fun j => x.bef.testBit j = true) p) ∧
    ((x.kind = .pure ∧ valD P .pure (decOp C P sz ops o) ti h = some (v i)) ∨ (x.kind = .read ∧ valD P .read (decOp C P sz ops o) ti h = some (v i)) ∨
      (x.kind = .new ∧ ∃ d ao ob f, decOp C P sz ops o = .mk none d ao ∧ aNew P ao ti = some (ob, f) ∧ f (M i) = some (v i) ∧ h.get (M i) = some ob))

structure RInv (s : PSt) (h : AH) (v : Nat → Value) (M : Nat → Nat) (ρ₀ : Ren) (w₀ : World) (fuel : Nat) (listed : Array Bool) (a : Act) (w : World) (ρ : Ren) : Prop where
  size : listed.size = ops.size
  cnt : ∃ U : List Nat, U.Nodup ∧ (∀ j, j ∈ U ↔ listed.getD j true = false) ∧ U.length = fuel
  closed : ∀ (i : Nat) (x : Info), l[i]? = some x → listed.getD i false = true → ∀ j, x.bef.testBit j = true → listed.getD j false = true
  sub : ∀ i, listed.getD i false = true → s.dn.testBit i = true
  must : ∀ i, s.must.testBit i = true → listed.getD i false = true
  real : ∃ tD, (∀ p, getP tD p = env l t₀ v (fun i => listed.getD i false = true) p) ∧ Sim σ P ρ tD h sz a w
  ext : Ext ρ₀ h₀ w₀ ρ h w
  pend : ∀ (i : Nat) (x : Info), l[i]? = some x → s.dn.testBit i = true → listed.getD i false = false → s.ok.testBit i = true → Pend P C ops sz l t₀ v M h i x
  ghost : ∀ (i : Nat) (x : Info), l[i]? = some x → x.kind = .new → s.dn.testBit i = true → listed.getD i false = false → ρ (M i) = none
end
end Go.Ri
namespace Go.Ri
variable {σ : Int → Int} {P : Program} {C : Cfg} {β : Type}

theorem set_getD {listed : Array Bool} {i : Nat} (hi : i < listed.size) (j : Nat) : (listed.setIfInBounds i true).getD j false = true ↔ (listed.getD j false = true ∨ j = i) := by
  by_cases e : j = i
  · subst e; simp [hi]
  · rw [getD_set_ne false (Ne.symm e)]; simp [e]
theorem set_getD_un {listed : Array Bool} {i : Nat} (hi : i < listed.size) (j : Nat) : (listed.setIfInBounds i true).getD j true = false ↔ (listed.getD j true = false ∧ j ≠ i) := by
  by_cases e : j = i
  · subst e; simp [hi]
  · rw [getD_set_ne true (Ne.symm e)]; simp [e]
theorem un_lt {listed : Array Bool} {i : Nat} (h : listed.getD i true = false) : i < listed.size := by
  rcases Nat.lt_or_ge i listed.size with h' | h'
  · exact h'
  · simp [Array.getElem?_eq_none h'] at h
theorem un_iff {listed : Array Bool} {i : Nat} (hi : i < listed.size) : listed.getD i true = false ↔ listed.getD i false = false := by simp [hi]
theorem set_getD_false {listed : Array Bool} {i : Nat} (hi : i < listed.size) {j : Nat} (h : (listed.setIfInBounds i true).getD j false = false) : listed.getD j false = false ∧ j ≠ i := by
  have h1 := set_getD hi j
  rw [h] at h1
  simp only [Bool.false_eq_true, false_iff, not_or] at h1
  exact ⟨by simpa using h1.1, h1.2⟩

theorem cnt_next {listed : Array Bool} {i fuel : Nat} (hu : listed.getD i true = false) (h : ∃ U : List Nat, U.Nodup ∧ (∀ j, j ∈ U ↔ listed.getD j true = false) ∧ U.length = fuel + 1) :
    ∃ U : List Nat, U.Nodup ∧ (∀ j, j ∈ U ↔ (listed.setIfInBounds i true).getD j true = false) ∧ U.length = fuel := by
  obtain ⟨U, h1, h2, h3⟩ := h
  refine ⟨U.erase i, h1.erase i, fun j => ?_, ?_⟩
  · rw [h1.mem_erase_iff, set_getD_un (un_lt hu), h2 j]
    exact And.comm
  · rw [List.length_erase_of_mem ((h2 i).2 hu), h3]; rfl

section
variable {ops : Array Oper} {sz : Nat} {t₀ : T Value} {h₀ : AH} {s : PSt} {t : T Value} {h : AH} {v : Nat → Value} {M : Nat → Nat} {ρ₀ : Ren} {w₀ : World} {fuel : Nat} {listed : Array Bool} {a : Act} {w : World} {ρ : Ren}

theorem info_some {i : Nat} {x : Info} (hi : (infoOf C P sz ops)[i]? = some x) : ∃ o, ops[i]? = some o ∧ x = ⟨i, kindOf o, (Region.before ops).getD i 0, edgesIn o, dstD (decOp C P sz ops o), (decOp C P sz ops o).reads⟩ := by
  rw [infoOf_get] at hi
  cases ho : ops[i]? with
  | none => rw [ho] at hi; cases hi
  | some o => rw [ho] at hi; simp only [Option.map_some, Option.some.injEq] at hi; exact ⟨o, rfl, hi.symm⟩
theorem info_lt {i : Nat} {x : Info} (hi : (infoOf C P sz ops)[i]? = some x) : i < ops.size := by
  obtain ⟨o, ho, _⟩ := info_some hi
  exact (Array.getElem?_eq_some_iff.1 ho).1

theorem edges_mem {o : Oper} {j : Nat} : j ∈ edgesIn o ↔ ∃ e, e ∈ o.after ∧ Region.binds .any e = true ∧ e.on = j := by
  unfold edgesIn
  simp only [List.mem_map, List.mem_filter, Array.mem_toList_iff]
  constructor
  · rintro ⟨e, ⟨h1, h2⟩, h3⟩; exact ⟨e, h1, h2, h3⟩
  · rintro ⟨e, h1, h2, h3⟩; exact ⟨e, ⟨h1, h2⟩, h3⟩

theorem ready_of (st : Static (infoOf C P sz ops)) {i : Nat} {x : Info} (hi : (infoOf C P sz ops)[i]? = some x) (hu : listed.getD i true = false) (hb : ∀ j, x.bef.testBit j = true → listed.getD j false = true) : i ∈ Region.ready .any ops listed := by
  rw [mem_ready]
  obtain ⟨o, ho, hx⟩ := info_some hi
  refine ⟨hu, o, ho, fun e he hbd => hb _ (st.sub i x hi _ ?_)⟩
  subst hx
  exact edges_mem.2 ⟨e, he, hbd, rfl⟩

theorem ready_bef (st : Static (infoOf C P sz ops)) (R : RInv σ P C ops sz (infoOf C P sz ops) t₀ h₀ s h v M ρ₀ w₀ fuel listed a w ρ) {i : Nat} {x : Info} (hi : (infoOf C P sz ops)[i]? = some x) (hr : i ∈ Region.ready .any ops listed) :
    ∀ j, x.bef.testBit j = true → listed.getD j false = true := by
  intro k hk
  obtain ⟨hu, o, ho, hall⟩ := mem_ready.1 hr
  obtain ⟨o', ho', hx⟩ := info_some hi
  rw [ho] at ho'; cases ho'
  obtain ⟨j, hj, hk⟩ := st.why i x hi k hk
  have hjl : listed.getD j false = true := by
    subst hx
    obtain ⟨e, he, hbd, rfl⟩ := edges_mem.1 hj
    exact hall e he hbd
  rcases hk with rfl | ⟨y, hy, hk⟩
  · exact hjl
  · exact R.closed j y hy hjl k hk

theorem done_all (st : Static (infoOf C P sz ops)) (Cv : CInv (infoOf C P sz ops) t₀ h₀ s t h v M) (R : RInv σ P C ops sz (infoOf C P sz ops) t₀ h₀ s h v M ρ₀ w₀ fuel listed a w ρ) (hr : Region.ready .any ops listed = []) :
    ∀ i, s.dn.testBit i = true → listed.getD i false = true := by
  refine Cv.ind _ fun i x hi hd hb => ?_
  cases e : listed.getD i false with
  | true => rfl
  | false =>
    have hu := (un_iff (by rw [R.size]; exact info_lt hi)).2 e
    have := ready_of st hi hu hb
    rw [hr] at this
    cases this

theorem closed_next (R : RInv σ P C ops sz (infoOf C P sz ops) t₀ h₀ s h v M ρ₀ w₀ fuel listed a w ρ) {i : Nat} {x : Info} (hi : (infoOf C P sz ops)[i]? = some x) (hb : ∀ j, x.bef.testBit j = true → listed.getD j false = true) :
    ∀ (k : Nat) (y : Info), (infoOf C P sz ops)[k]? = some y → (listed.setIfInBounds i true).getD k false = true → ∀ j, y.bef.testBit j = true → (listed.setIfInBounds i true).getD j false = true := by
  have hlt : i < listed.size := by rw [R.size]; exact info_lt hi
  intro k y hk hl j hj
  rw [set_getD hlt] at hl ⊢
  rcases hl with hl | rfl
  · exact .inl (R.closed k y hk hl j hj)
  · rw [hi] at hk; cases hk
    exact .inl (hb j hj)

/-- An operation that is waiting is done. -/
theorem pend_step (hC : CfgOk σ C P) (st : Static (infoOf C P sz ops)) (Cv : CInv (infoOf C P sz ops) t₀ h₀ s t h v M) (R : RInv σ P C ops sz (infoOf C P sz ops) t₀ h₀ s h v M ρ₀ w₀ (fuel + 1) listed a w ρ)
    (hok : ∀ i, s.dn.testBit i = true → s.ok.testBit i = true ∨ s.must.testBit i = true) {i : Nat} (hr : i ∈ Region.ready .any ops listed) (hd : s.dn.testBit i = true) {Q : Exit → Act → World → Prop} :
    wpOp P ops Q i (fun a' w' => ∃ ρ', RInv σ P C ops sz (infoOf C P sz ops) t₀ h₀ s h v M ρ₀ w₀ fuel (listed.setIfInBounds i true) a' w' ρ') a w := by
  obtain ⟨x, hi⟩ := Cv.rng i hd
  have hu := (mem_ready.1 hr).1
  have hlt := un_lt hu
  have huf := (un_iff hlt).1 hu
  have hbef := ready_bef st R hi hr
  have hoki : s.ok.testBit i = true := by
    rcases hok i hd with h | h
    · exact h
    · have := R.must i h; rw [huf] at this; cases this
  obtain ⟨o, ti, ho, hreads, hkind⟩ := R.pend i x hi hd huf hoki
  obtain ⟨o', ho', hx⟩ := info_some hi
  rw [ho] at ho'; cases ho'
  obtain ⟨tD, htD, S⟩ := R.real
  have hni : ¬ (listed.getD i false = true) := by rw [huf]; simp
  have hA : Alike (decOp C P sz ops o) tD ti := by
    intro p hp
    have hp' : p ∈ x.reads := by rw [hx]; exact hp
    rw [htD p, hreads p hp', env_reads (S := fun j => listed.getD j false = true) st hi hni hbef (fun j y hj hs k hk => R.closed j y hj hs k hk) hp']
  have hdst : x.dst = dstD (decOp C P sz ops o) := by rw [hx]
  have hreal : ∀ p, getP (putT x.dst (v i) tD) p = env (infoOf C P sz ops) t₀ v (fun j => (listed.setIfInBounds i true).getD j false = true) p :=
    env_put st htD hi (fun j => set_getD hlt j) (fun j _ _ => rfl)
  have next : ∀ ρ' a' w', Sim σ P ρ' (putT x.dst (v i) tD) h sz a' w' → Ext ρ₀ h₀ w₀ ρ' h w' → (∀ (j : Nat) (y : Info), (infoOf C P sz ops)[j]? = some y → y.kind = .new → s.dn.testBit j = true → listed.getD j false = false → j ≠ i → ρ' (M j) = none) →
      RInv σ P C ops sz (infoOf C P sz ops) t₀ h₀ s h v M ρ₀ w₀ fuel (listed.setIfInBounds i true) a' w' ρ' := by
    intro ρ' a' w' S' E' G'
    refine ⟨by simp [R.size], cnt_next hu R.cnt, closed_next R hi hbef, ?_, ?_, ⟨_, hreal, S'⟩, E', ?_, ?_⟩
    · intro j hj
      rcases (set_getD hlt j).1 hj with hj | rfl
      · exact R.sub j hj
      · exact hd
    · intro j hj
      exact (set_getD hlt j).2 (.inl (R.must j hj))
    · intro j y hj hdj hun hokj
      exact R.pend j y hj hdj (set_getD_false hlt hun).1 hokj
    · intro j y hj hk hdj hun
      exact G' j y hj hk hdj (set_getD_false hlt hun).1 (set_getD_false hlt hun).2
  have plainStep : ∀ k, valD P k (decOp C P sz ops o) ti h = some (v i) → wpOp P ops Q i (fun a' w' => ∃ ρ', RInv σ P C ops sz (infoOf C P sz ops) t₀ h₀ s h v M ρ₀ w₀ fuel (listed.setIfInBounds i true) a' w' ρ') a w := by
    intro k hk
    have hk' : valD P k (decOp C P sz ops o) tD h = some (v i) := by rw [valD_congr hA]; exact hk
    refine valD_ok hC ho hk' ρ a w S Q _ fun ρ' a' w' S' E' => ?_
    rw [← hdst] at S'
    refine ⟨ρ', next ρ' a' w' S' (R.ext.trans E') fun j y hj hkd hdj hun hne => ?_⟩
    exact (E'.old (M j) (Cv.ids j y hj hkd hdj).2 (R.ghost j y hj hkd hdj hun)).1
  rcases hkind with ⟨_, hv⟩ | ⟨_, hv⟩ | ⟨hkn, d, ao, ob, f, hdec, hnew, hf, hg⟩
  · exact plainStep _ hv
  · exact plainStep _ hv
  · have hev : ∀ y, y ∈ ao.opds → evO tD y = evO ti y := by
      rw [hdec] at hA
      exact hA.evs
    have hnew' : aNew P ao tD = some (ob, f) := by rw [aNew_congr ao hev]; exact hnew
    have hgi := R.ghost i x hi hkn hd huf
    obtain ⟨hm1, hm2⟩ := Cv.ids i x hi hkn hd
    refine new_ok hC ho hdec hnew' hf S hm2 hgi hg fun p xo a' w' S' hp1 hp2 hp3 hp4 hp5 => ?_
    have hdd : x.dst = d := by rw [hdst, hdec]; rfl
    rw [← hdd] at S'
    refine ⟨_, next _ a' w' S' (R.ext.laid hm1 hgi hp1 hp2 hp3 hp4 hp5) fun j y hj hkd hdj hun hne => ?_⟩
    unfold Ren.add
    rw [if_neg]
    · exact R.ghost j y hj hkd hdj hun
    · exact fun e => hne (Cv.inj j i y x hj hi hkd hkn hdj hd e)
end
end Go.Ri
namespace Go.Ri

theorem T.set_comm {α : Type} (x y : Option α) : ∀ (f n m : Nat) (t : T α), n ≠ m → T.set f n x (T.set f m y t) = T.set f m y (T.set f n x t)
  | 0, _, _, _, _ => rfl
  | f + 1, n, m, t, h => by
    have ih := fun n m t => T.set_comm x y f n m t
    cases n with
    | zero => cases m with
      | zero => exact absurd rfl h
      | succ m =>
        cases t with
        | leaf =>
          rw [T.set_leaf_zero, T.set_leaf_succ, T.set_node_succ]
          split <;> rw [T.set_node_zero]
        | node l v r =>
          rw [T.set_node_zero, T.set_node_succ, T.set_node_succ]
          split <;> rw [T.set_node_zero]
    | succ n => cases m with
      | zero =>
        cases t with
        | leaf =>
          rw [T.set_leaf_zero, T.set_leaf_succ, T.set_node_succ]
          split <;> rw [T.set_node_zero]
        | node l v r =>
          rw [T.set_node_zero, T.set_node_succ, T.set_node_succ]
          split <;> rw [T.set_node_zero]
      | succ m =>
        cases t with
        | leaf =>
          rw [T.set_leaf_succ, T.set_leaf_succ]
          by_cases hn : n % 2 = 0 <;> by_cases hm : m % 2 = 0
          · rw [if_pos hn, if_pos hm, T.set_node_succ, T.set_node_succ, if_pos hn, if_pos hm, ih _ _ _ (by omega)]
          · rw [if_pos hn, if_neg hm, T.set_node_succ, T.set_node_succ, if_pos hn, if_neg hm]
          · rw [if_neg hn, if_pos hm, T.set_node_succ, T.set_node_succ, if_neg hn, if_pos hm]
          · rw [if_neg hn, if_neg hm, T.set_node_succ, T.set_node_succ, if_neg hn, if_neg hm, ih _ _ _ (by omega)]
        | node l v r =>
          rw [T.set_node_succ, T.set_node_succ]
          by_cases hn : n % 2 = 0 <;> by_cases hm : m % 2 = 0
          · rw [if_pos hn, if_pos hm, T.set_node_succ, T.set_node_succ, if_pos hn, if_pos hm, ih _ _ _ (by omega)]
          · rw [if_pos hn, if_neg hm, T.set_node_succ, T.set_node_succ, if_pos hn, if_neg hm]
          · rw [if_neg hn, if_pos hm, T.set_node_succ, T.set_node_succ, if_neg hn, if_pos hm]
          · rw [if_neg hn, if_neg hm, T.set_node_succ, T.set_node_succ, if_neg hn, if_neg hm, ih _ _ _ (by omega)]

theorem AH.put_comm (h : AH) {r r' : Nat} (o o' : Option AObj) (hne : r ≠ r') : (h.put r o).put r' o' = (h.put r' o').put r o := by
  show AH.mk (T.set 40 r' o' (T.set 40 r o h.t)) h.next = AH.mk (T.set 40 r o (T.set 40 r' o' h.t)) h.next
  rw [T.set_comm _ _ _ _ _ _ (Ne.symm hne)]

theorem setCell_some {h h' : AH} {a : Addr} {v : Value} (e : h.setCell? a v = some h') : ∃ c el lo hi w, h.get a.block = some (.cells c el lo hi w) ∧ a.block < roof ∧ h' = h.put a.block (some (.cells (c.set a.off v) el lo hi w)) ∧
    ∀ h₂ : AH, h₂.get a.block = h.get a.block → h₂.setCell? a v = some (h₂.put a.block (some (.cells (c.set a.off v) el lo hi w))) := by
  unfold AH.setCell? at e
  split at e
  · rename_i c el lo hi w hb
    split at e
    · rename_i hsp
      split at e
      · rename_i h1 h2 h3
        cases e
        refine ⟨c, el, lo, hi, w, hb, blt_true.1 h3, rfl, fun h₂ hh => ?_⟩
        unfold AH.setCell?
        rw [hh, hb]
        simp only [hsp, h1, h2, h3]
      · cases e
    · cases e
  · cases e

theorem setCell_put {h : AH} {a : Addr} {v : Value} {r : Nat} {o : Option AObj} (hr : r < roof) (hne : a.block ≠ r) : (h.put r o).setCell? a v = (h.setCell? a v).map (·.put r o) := by
  have hg : (h.put r o).get a.block = h.get a.block := by rw [AH.get_put _ _ _ hr, if_neg hne]
  unfold AH.setCell?
  rw [hg]
  split
  · split
    · split
      · simp only [Option.map_some]
        rw [AH.put_comm _ _ _ (Ne.symm hne)]
      · rfl
    · rfl
  · rfl

theorem add_block (a : Addr) (i : Nat) : (a.add i).block = a.block := by unfold Addr.add; split <;> rfl

theorem storeL_put {a : Addr} {r : Nat} {o : Option AObj} (hr : r < roof) (hne : a.block ≠ r) : ∀ (l : List Value) (i : Nat) (h : AH), storeL a l i (h.put r o) = (storeL a l i h).map (·.put r o)
  | [], i, h => rfl
  | v :: l, i, h => by
    unfold storeL
    rw [setCell_put hr (by rw [add_block]; exact hne)]
    split
    · cases h.setCell? (a.add i) v with
      | none => rfl
      | some h' => exact storeL_put hr hne l (i + 1) h'
    · rfl
theorem storeL_get {a : Addr} {r : Nat} (hne : a.block ≠ r) : ∀ (l : List Value) (i : Nat) (h h' : AH), storeL a l i h = some h' → h'.get r = h.get r ∧ h'.next = h.next
  | [], i, h, h', e => by cases e; exact ⟨rfl, rfl⟩
  | v :: l, i, h, h', e => by
    unfold storeL at e
    split at e
    · split at e
      · rename_i h1 hs
        obtain ⟨c, el, lo, hi, w, g, hroof, rfl, _⟩ := setCell_some hs
        obtain ⟨k1, k2⟩ := storeL_get hne l (i + 1) _ _ e
        refine ⟨k1.trans ?_, k2⟩
        rw [add_block] at hroof ⊢
        rw [AH.get_put _ _ _ hroof, if_neg (Ne.symm hne)]
      · cases e
    · cases e
theorem storeL_next {a : Addr} (l : List Value) (i : Nat) (h h' : AH) (e : storeL a l i h = some h') : h'.next = h.next := (storeL_get (r := a.block + 1) (by omega) l i h h' e).2

theorem storeL_two {a b : Addr} (hne : a.block ≠ b.block) (m : List Value) (j : Nat) : ∀ (l : List Value) (i : Nat) (h h₁ : AH), storeL a l i h = some h₁ → storeL b m j h₁ = (storeL b m j h).bind (storeL a l i)
  | [], i, h, h₁, e => by
    cases e
    cases storeL b m j h <;> rfl
  | v :: l, i, h, h₁, e => by
    unfold storeL at e
    split at e
    · rename_i ho
      split at e
      · rename_i h' hs
        rw [storeL_two hne m j l (i + 1) h' h₁ e]
        obtain ⟨c, el, lo, hi, w, g, hroof, rfl, hf⟩ := setCell_some hs
        rw [add_block] at g hroof hf ⊢
        rw [storeL_put hroof (Ne.symm hne)]
        cases hk : storeL b m j h with
        | none => rfl
        | some k =>
          have hg := (storeL_get (r := a.block) (Ne.symm hne) m j h k hk).1
          have := hf k hg
          show storeL a l (i + 1) _ = storeL a (v :: l) i k
          conv => rhs; unfold storeL
          rw [this]
          simp only [ho]
      · cases e
    · cases e

theorem dSt_some {n : Nat} {x y : Opd} {t : T Value} {h : AH} {did : Did} (e : dSt n x y t h = some did) : ∃ a h', evO t x = .pointer (some a) ∧ Nat.beq (evO t y).cells.size n = true ∧ storeL a (evO t y).cells.toList 0 h = some h' ∧ did = .value undef h' := by
  unfold dSt at e
  split at e
  · rename_i a ea
    unfold dStA at e
    split at e
    · rename_i ho
      split at e
      · rename_i h' hs; cases e; exact ⟨a, h', ea, ho, hs, rfl⟩
      · cases e
    · cases e
  · cases e
theorem dSt_of {n : Nat} {x y : Opd} {t : T Value} {h h' : AH} {a : Addr} (ea : evO t x = .pointer (some a)) (ho : Nat.beq (evO t y).cells.size n = true) (hs : storeL a (evO t y).cells.toList 0 h = some h') : dSt n x y t h = some (.value undef h') := by
  unfold dSt dStA
  rw [ea]
  simp only [ho, hs]

/-- Two stores into two blocks: one order is as the other. -/
theorem two_stores {n n' : Nat} {x y x' y' : Opd} {t : T Value} {h h₁ h₂ : AH} {v₁ v₂ : Value} (hap : apartV (evO t x) (evO t x') = true) (e1 : dSt n x y t h = some (.value v₁ h₁)) (e2 : dSt n' x' y' t h₁ = some (.value v₂ h₂)) :
    v₁ = undef ∧ v₂ = undef ∧ h₁.next = h.next ∧ h₂.next = h₁.next ∧ ∃ h₁', dSt n' x' y' t h = some (.value undef h₁') ∧ dSt n x y t h₁' = some (.value undef h₂) ∧ h₁'.next = h.next := by
  obtain ⟨a, k1, ea, oa, sa, ed⟩ := dSt_some e1
  cases ed
  obtain ⟨b, k2, eb, ob, sb, ed⟩ := dSt_some e2
  cases ed
  have hne : a.block ≠ b.block := by
    rw [ea, eb] at hap
    intro e
    unfold apartV at hap
    simp only [e] at hap
    have : Nat.beq b.block b.block = true := Nat.beq_refl _
    rw [this] at hap
    cases hap
  have h2 := storeL_two hne (evO t y').cells.toList 0 (evO t y).cells.toList 0 h h₁ sa
  rw [sb] at h2
  cases hk : storeL b (evO t y').cells.toList 0 h with
  | none => rw [hk] at h2; cases h2
  | some k =>
    rw [hk] at h2
    exact ⟨rfl, rfl, storeL_next _ _ _ _ sa, storeL_next _ _ _ _ sb, k, dSt_of eb ob hk, dSt_of ea oa h2.symm, storeL_next _ _ _ _ hk⟩
end Go.Ri
namespace Go.Ri
variable {σ : Int → Int} {P : Program} {C : Cfg} {β : Type}

def upd {α : Type} (v : Nat → α) (i : Nat) (x : α) : Nat → α := fun j => if j = i then x else v j
theorem upd_at {α : Type} (v : Nat → α) (i : Nat) (x : α) : upd v i x i = x := if_pos rfl
theorem upd_ne {α : Type} (v : Nat → α) {i j : Nat} (x : α) (h : j ≠ i) : upd v i x j = v j := if_neg h

section
variable {ops : Array Oper} {sz : Nat} {t₀ : T Value} {h₀ : AH} {s : PSt} {t : T Value} {h : AH} {v : Nat → Value} {M : Nat → Nat}

theorem bitIn_false {m i : Nat} (h : bitIn m i = false) : ¬ (m.testBit i = true) := by rw [bitIn_eq] at h; rw [h]; simp
theorem bitOr_iff {m i j : Nat} : (bitOr m i).testBit j = true ↔ (m.testBit j = true ∨ j = i) := by
  rw [bitOr_test]; simp only [Bool.or_eq_true, decide_eq_true_eq]; constructor <;> (rintro (h | h); exact .inl h; exact .inr h.symm)

theorem chkAll_spec {l : List Info} (h : chkAll l s = true) : ∀ i, s.dn.testBit i = true → s.ok.testBit i = true ∨ s.must.testBit i = true := by
  intro i hi
  unfold chkAll at h
  split at h
  · rename_i e
    have := subset_test e hi
    rw [lor_test] at this
    simpa using this
  · cases h

/-- One more operation of the told order. -/
theorem CInv.add (st : Static (infoOf C P sz ops)) (Cv : CInv (infoOf C P sz ops) t₀ h₀ s t h v M) {i : Nat} {x : Info} (hi : (infoOf C P sz ops)[i]? = some x) (hn : ¬ (s.dn.testBit i = true)) (hb : ∀ j, x.bef.testBit j = true → s.dn.testBit j = true) {val : Value}
    {h' : AH} {M' : Nat → Nat} {s' : PSt} (hdn : s'.dn = bitOr s.dn i) (hM : ∀ j, j ≠ i → M' j = M j) (hh : h.next ≤ h'.next) (hMi : x.kind = .new → M' i = h.next ∧ h.next < h'.next)
    (hes : ∀ j, s'.es.testBit j = true → s'.must.testBit j = true) (hst : ∀ (j : Nat) (y : Info), (infoOf C P sz ops)[j]? = some y → s'.st.testBit j = true → s'.ok.testBit j = true ∧ (y.kind = .pure ∨ y.kind = .new)) :
    CInv (infoOf C P sz ops) t₀ h₀ s' (putT x.dst val t) h' (upd v i val) M' where
  canon := by
    have := env_put (v' := upd v i val) (S' := fun j => s'.dn.testBit j = true) st Cv.canon hi (fun j => by rw [hdn]; exact bitOr_iff) (fun j _ hj => upd_ne v val hj)
    rw [upd_at] at this
    exact this
  cl := by
    intro j y hj hd k hk
    rw [hdn, bitOr_iff] at hd ⊢
    rcases hd with hd | rfl
    · exact .inl (Cv.cl j y hj hd k hk)
    · rw [hi] at hj; cases hj; exact .inl (hb k hk)
  ind := by
    intro L hL j hd
    rw [hdn, bitOr_iff] at hd
    have h1 : ∀ j, s.dn.testBit j = true → L j := Cv.ind L fun k y hk hdk hbk => hL k y hk (by rw [hdn, bitOr_iff]; exact .inl hdk) hbk
    rcases hd with hd | rfl
    · exact h1 j hd
    · exact hL j x hi (by rw [hdn, bitOr_iff]; exact .inr rfl) fun k hk => h1 k (hb k hk)
  rng := by
    intro j hd
    rw [hdn, bitOr_iff] at hd
    rcases hd with hd | rfl
    · exact Cv.rng j hd
    · exact ⟨x, hi⟩
  ids := by
    intro j y hj hk hd
    rw [hdn, bitOr_iff] at hd
    by_cases e : j = i
    · subst e
      rw [hi] at hj; cases hj
      obtain ⟨h1, h2⟩ := hMi hk
      rw [h1]; exact ⟨Cv.nx, h2⟩
    · rw [hM j e]
      have := Cv.ids j y hj hk (hd.resolve_right e)
      exact ⟨this.1, Nat.lt_of_lt_of_le this.2 hh⟩
  inj := by
    intro j k y z hj hk hyk hzk hdj hdk e
    rw [hdn, bitOr_iff] at hdj hdk
    by_cases ej : j = i <;> by_cases ek : k = i
    · rw [ej, ek]
    · subst ej
      rw [hi] at hj; cases hj
      rw [(hMi hyk).1, hM k ek] at e
      have := (Cv.ids k z hk hzk (hdk.resolve_right ek)).2
      omega
    · subst ek
      rw [hi] at hk; cases hk
      rw [(hMi hzk).1, hM j ej] at e
      have := (Cv.ids j y hj hyk (hdj.resolve_right ej)).2
      omega
    · rw [hM j ej, hM k ek] at e
      exact Cv.inj j k y z hj hk hyk hzk (hdj.resolve_right ej) (hdk.resolve_right ek) e
  nx := Nat.le_trans Cv.nx hh
  es := hes
  st := hst

theorem env_upd (st : Static (infoOf C P sz ops)) {S : Nat → Prop} {i : Nat} (hi : ¬ S i) (val : Value) (p : Pos) : env (infoOf C P sz ops) t₀ v S p = env (infoOf C P sz ops) t₀ (upd v i val) S p :=
  env_eq st (fun _ _ _ _ => Iff.rfl) fun j hj => (upd_ne v val (by rintro rfl; exact hi hj)).symm

theorem pend_upd (st : Static (infoOf C P sz ops)) {i j : Nat} {y : Info} (hij : j ≠ i) (hb : ¬ (y.bef.testBit i = true)) {val : Value} {M' : Nat → Nat} (hM : M' j = M j) (hp : Pend P C ops sz (infoOf C P sz ops) t₀ v M h j y) :
    Pend P C ops sz (infoOf C P sz ops) t₀ (upd v i val) M' h j y := by
  obtain ⟨o, ti, h1, h2, h3⟩ := hp
  refine ⟨o, ti, h1, fun p hp => by rw [h2 p hp]; exact env_upd (S := fun k => y.bef.testBit k = true) st hb val p, ?_⟩
  rw [upd_ne v val hij, hM]
  exact h3

/-- What waits still, when the memory is another: what is pure, what lays blocks. -/
theorem pend_mem {j : Nat} {y : Info} {h' : AH} (hk : y.kind = .pure ∨ y.kind = .new) (hg : y.kind = .new → h'.get (M j) = h.get (M j)) (hp : Pend P C ops sz (infoOf C P sz ops) t₀ v M h j y) : Pend P C ops sz (infoOf C P sz ops) t₀ v M h' j y := by
  obtain ⟨o, ti, h1, h2, h3⟩ := hp
  refine ⟨o, ti, h1, h2, ?_⟩
  rcases h3 with ⟨k1, k2⟩ | ⟨k1, k2⟩ | ⟨k1, d, ao, ob, f, k2, k3, k4, k5⟩
  · exact .inl ⟨k1, by rw [valD_pure (h' := h)]; exact k2⟩
  · rw [k1] at hk; rcases hk with hk | hk <;> cases hk
  · exact .inr (.inr ⟨k1, d, ao, ob, f, k2, k3, k4, by rw [hg k1]; exact k5⟩)

/-- Real states, when the told order goes on and nothing is done. -/
theorem RInv.told (st : Static (infoOf C P sz ops)) (Cv : CInv (infoOf C P sz ops) t₀ h₀ s t h v M) {ρ₀ ρ : Ren} {w₀ w : World} {fuel : Nat} {listed : Array Bool} {a : Act} (R : RInv σ P C ops sz (infoOf C P sz ops) t₀ h₀ s h v M ρ₀ w₀ fuel listed a w ρ)
    {i : Nat} {x : Info} (hi : (infoOf C P sz ops)[i]? = some x) (hn : ¬ (s.dn.testBit i = true)) {val : Value} {h' : AH} {M' : Nat → Nat} {s' : PSt} (hdn : s'.dn = bitOr s.dn i) (hmust : s'.must = s.must) (hM : ∀ j, j ≠ i → M' j = M j)
    (hH : ∀ tD, Sim σ P ρ tD h sz a w → Sim σ P ρ tD h' sz a w) (hE : Ext ρ₀ h₀ w₀ ρ h' w) (hgi : x.kind = .new → ρ (M' i) = none)
    (hok : ∀ (j : Nat) (y : Info), (infoOf C P sz ops)[j]? = some y → s'.ok.testBit j = true → j ≠ i → s.dn.testBit j = true → s.ok.testBit j = true ∧ (Pend P C ops sz (infoOf C P sz ops) t₀ (upd v i val) M' h j y → Pend P C ops sz (infoOf C P sz ops) t₀ (upd v i val) M' h' j y))
    (hpi : Pend P C ops sz (infoOf C P sz ops) t₀ (upd v i val) M' h' i x) :
    RInv σ P C ops sz (infoOf C P sz ops) t₀ h₀ s' h' (upd v i val) M' ρ₀ w₀ fuel listed a w ρ where
  size := R.size
  cnt := R.cnt
  closed := R.closed
  sub := fun j hj => by rw [hdn, bitOr_iff]; exact .inl (R.sub j hj)
  must := fun j hj => R.must j (by rw [← hmust]; exact hj)
  real := by
    obtain ⟨tD, h1, h2⟩ := R.real
    exact ⟨tD, fun p => by rw [h1 p]; exact env_upd (S := fun k => listed.getD k false = true) st (fun hl => hn (R.sub i hl)) val p, hH tD h2⟩
  ext := hE
  pend := fun j y hj hd hu ho => by
    by_cases e : j = i
    · subst e; rw [hi] at hj; cases hj; exact hpi
    · rw [hdn, bitOr_iff] at hd
      have hdj := hd.resolve_right e
      obtain ⟨h1, h2⟩ := hok j y hj ho e hdj
      exact h2 (pend_upd st e (fun hb => hn (Cv.cl j y hj hdj i hb)) (hM j e) (R.pend j y hj hdj hu h1))
  ghost := fun j y hj hk hd hu => by
    by_cases e : j = i
    · subst e; rw [hi] at hj; cases hj; exact hgi hk
    · rw [hdn, bitOr_iff] at hd
      rw [hM j e]
      exact R.ghost j y hj hk (hd.resolve_right e) hu

theorem getP_env_bef (st : Static (infoOf C P sz ops)) (Cv : CInv (infoOf C P sz ops) t₀ h₀ s t h v M) {i : Nat} {x : Info} (hi : (infoOf C P sz ops)[i]? = some x) (hn : ¬ (s.dn.testBit i = true)) (hb : ∀ j, x.bef.testBit j = true → s.dn.testBit j = true) (val : Value) :
    ∀ p, p ∈ x.reads → getP t p = env (infoOf C P sz ops) t₀ (upd v i val) (fun j => x.bef.testBit j = true) p := by
  intro p hp
  rw [Cv.canon p, env_reads (S := fun j => s.dn.testBit j = true) st hi hn hb (fun j y hj hs k hk => Cv.cl j y hj hs k hk) hp]
  exact env_upd (S := fun j => x.bef.testBit j = true) st (fun hbi => hn (hb i hbi)) val p
end

section
variable {ops : Array Oper} {sz : Nat} {t₀ : T Value} {h₀ : AH} {s : PSt} {t : T Value} {h : AH} {v : Nat → Value} {M : Nat → Nat}

theorem eff_cinv (st : Static (infoOf C P sz ops)) (Cv : CInv (infoOf C P sz ops) t₀ h₀ s t h v M) {e : Nat} {x : Info} (hi : (infoOf C P sz ops)[e]? = some x) (hn : ¬ (s.dn.testBit e = true)) (hb : ∀ j, x.bef.testBit j = true → s.dn.testBit j = true) (ek : x.kind = .eff)
    {val : Value} {h' : AH} (hgrow : h.next ≤ h'.next) : CInv (infoOf C P sz ops) t₀ h₀ (aft s x e) (putT x.dst val t) h' (upd v e val) M :=
  CInv.add (val := val) (h' := h') (M' := M) (s' := aft s x e) st Cv hi hn hb rfl (fun _ _ => rfl) hgrow (fun ee => by rw [ek] at ee; cases ee) (by
      intro j hj
      rcases bitOr_iff.1 hj with hj | rfl
      · exact bitOr_iff.2 (.inl (by rw [lor_test, Cv.es j hj]; rfl))
      · exact bitOr_iff.2 (.inr rfl)) (by
      intro j y hj hs
      exact ⟨hs, (Cv.st j y hj hs).2⟩)

/-- The operation with effect is done. -/
theorem eff_real (st : Static (infoOf C P sz ops)) (Cv : CInv (infoOf C P sz ops) t₀ h₀ s t h v M) {i : Nat} {x : Info} {o : Oper} (ho : ops[i]? = some o) (hx : x = ⟨i, kindOf o, (Region.before ops).getD i 0, edgesIn o, dstD (decOp C P sz ops o), (decOp C P sz ops o).reads⟩)
    (hi : (infoOf C P sz ops)[i]? = some x) (hn : ¬ (s.dn.testBit i = true)) (hb : ∀ j, x.bef.testBit j = true → s.dn.testBit j = true) {val : Value} {h' : AH}
    (hop : ∀ t₁, Alike (decOp C P sz ops o) t₁ t → OpOk σ P ops i sz t₁ h (putT x.dst val t₁) h') {ρ₀ : Ren} {w₀ : World} {fuel : Nat} {listed : Array Bool} {a : Act} {w : World} {ρ : Ren}
    (R : RInv σ P C ops sz (infoOf C P sz ops) t₀ h₀ s h v M ρ₀ w₀ (fuel + 1) listed a w ρ) (hir : i ∈ Region.ready .any ops listed) {Q : Exit → Act → World → Prop} :
    wpOp P ops Q i (fun a' w' => ∃ ρ', RInv σ P C ops sz (infoOf C P sz ops) t₀ h₀ (aft s x i) h' (upd v i val) M ρ₀ w₀ fuel (listed.setIfInBounds i true) a' w' ρ') a w := by
  have hlt : i < listed.size := by rw [R.size]; exact info_lt hi
  have hnl : ¬ (listed.getD i false = true) := fun ee => hn (R.sub i ee)
  have hu : listed.getD i true = false := (un_iff hlt).2 (by simpa using hnl)
  have hbl := ready_bef st R hi hir
  obtain ⟨tD, htD, S⟩ := R.real
  have hA : Alike (decOp C P sz ops o) tD t := by
    intro p hp
    have hp' : p ∈ x.reads := by rw [hx]; exact hp
    rw [htD p, Cv.canon p, env_reads (S := fun j => listed.getD j false = true) st hi hnl hbl (fun j y hj hs k hk => R.closed j y hj hs k hk) hp',
      env_reads (S := fun j => s.dn.testBit j = true) st hi hn hb (fun j y hj hs k hk => Cv.cl j y hj hs k hk) hp']
  refine hop tD hA ρ a w S Q _ fun ρ' a' w' S' E' => ?_
  have hreal := env_put (v' := upd v i val) (S' := fun j => (listed.setIfInBounds i true).getD j false = true) st htD hi (fun j => set_getD hlt j) (fun j _ hj => upd_ne v val hj)
  rw [upd_at] at hreal
  refine ⟨ρ', by simp [R.size], cnt_next hu R.cnt, closed_next R hi hbl, ?_, ?_, ⟨_, hreal, S'⟩, R.ext.trans E', ?_, ?_⟩
  · intro j hj
    rcases (set_getD hlt j).1 hj with hj | rfl
    · exact bitOr_iff.2 (.inl (R.sub j hj))
    · exact bitOr_iff.2 (.inr rfl)
  · intro j hj
    rw [set_getD hlt]
    rcases bitOr_iff.1 hj with hj | rfl
    · rw [lor_test] at hj
      simp only [Bool.or_eq_true] at hj
      rcases hj with hj | hj
      · exact .inl (R.must j hj)
      · exact .inl (hbl j hj)
    · exact .inr rfl
  · intro j y hj hdj hun hok
    obtain ⟨hun, hne⟩ := set_getD_false hlt hun
    have hdj := (bitOr_iff.1 hdj).resolve_right hne
    obtain ⟨g1, g2⟩ := Cv.st j y hj hok
    have hp := R.pend j y hj hdj hun g1
    refine pend_mem g2 (fun hk => ?_) (pend_upd (M' := M) st hne (fun hbi => hn (Cv.cl j y hj hdj i hbi)) rfl hp)
    exact (E'.old (M j) (Cv.ids j y hj hk hdj).2 (R.ghost j y hj hk hdj hun)).2
  · intro j y hj hk hdj hun
    obtain ⟨hun, hne⟩ := set_getD_false hlt hun
    have hdj := (bitOr_iff.1 hdj).resolve_right hne
    exact (E'.old (M j) (Cv.ids j y hj hk hdj).2 (R.ghost j y hj hk hdj hun)).1
end

/-- What is shown of a told order's end. -/
def EndOk (σ : Int → Int) (P : Program) (C : Cfg) (ops : Array Oper) (sz : Nat) (t₀ : T Value) (h₀ : AH) (E : PSt → Bool) (next nxt : K β) (r : β) : Prop :=
  ∀ (s : PSt) (t : T Value) (h : AH) (v : Nat → Value) (M : Nat → Nat), E s = true → next t h = some r → CInv (infoOf C P sz ops) t₀ h₀ s t h v M →
    ∃ t' h', nxt t' h' = some r ∧ ∀ (ρ₀ : Ren) (w₀ : World) (fuel : Nat) (listed : Array Bool) (a : Act) (w : World) (ρ : Ren), RInv σ P C ops sz (infoOf C P sz ops) t₀ h₀ s h v M ρ₀ w₀ fuel listed a w ρ →
      ∀ (Q : Exit → Act → World → Prop), (∀ ρ' a' w', Sim σ P ρ' t' h' sz a' w' → Ext ρ₀ h₀ w₀ ρ' h' w' → Q .normal a' w') → wpAny P .any ops Q fuel listed a w

theorem endAll_ok (hC : CfgOk σ C P) {ops : Array Oper} {sz : Nat} {next : K β} {r : β} {t₀ : T Value} {h₀ : AH} (st : Static (infoOf C P sz ops)) : EndOk σ P C ops sz t₀ h₀ (endAll (infoOf C P sz ops)) next next r := by
  intro s t h v M hc hr Cv
  unfold endAll at hc
  split at hc
  case h_2 => cases hc
  rename_i hca
  have hall : ∀ (i : Nat) (x : Info), (infoOf C P sz ops)[i]? = some x → s.dn.testBit i = true := by
    intro i x hi
    have := List.all_eq_true.1 hc x (List.mem_of_getElem? hi)
    rw [bitIn_eq, st.num i x hi] at this
    exact this
  refine ⟨t, h, hr, ?_⟩
  intro ρ₀ w₀ fuel
  have fin : ∀ (fuel : Nat) (listed : Array Bool) (a : Act) (w : World) (ρ : Ren), RInv σ P C ops sz (infoOf C P sz ops) t₀ h₀ s h v M ρ₀ w₀ fuel listed a w ρ → Region.ready .any ops listed = [] →
      ∀ (Q : Exit → Act → World → Prop), (∀ ρ' a' w', Sim σ P ρ' t h sz a' w' → Ext ρ₀ h₀ w₀ ρ' h w' → Q .normal a' w') → Q .normal a w := by
    intro fuel listed a w ρ R hre Q hQ
    have hd := done_all st Cv R hre
    obtain ⟨tD, h1, S⟩ := R.real
    have he : ∀ p, getP t p = getP tD p := by
      intro p
      rw [Cv.canon p, h1 p]
      exact env_eq st (fun j y hj _ => ⟨fun hs => hd j hs, fun hs => R.sub j hs⟩) fun _ _ => rfl
    exact hQ ρ a w ⟨fun i hi => by rw [he]; exact S.tm i hi, S.size, S.roof, S.defers, S.heap, S.glob⟩ R.ext
  induction fuel with
  | zero =>
    intro listed a w ρ R Q hQ
    have hre : Region.ready .any ops listed = [] := by
      rw [List.eq_nil_iff_forall_not_mem]
      intro i hi
      obtain ⟨U, _, h2, h3⟩ := R.cnt
      have := (h2 i).2 (mem_ready.1 hi).1
      rw [List.length_eq_zero_iff.1 h3] at this
      cases this
    exact ⟨hre, fin 0 listed a w ρ R hre Q hQ⟩
  | succ fuel ih =>
    intro listed a w ρ R Q hQ
    refine ⟨fun hre => fin _ listed a w ρ R hre Q hQ, fun i hi => ?_⟩
    obtain ⟨_, o, ho, _⟩ := mem_ready.1 hi
    have hdi := hall i _ (by rw [infoOf_get, ho]; rfl)
    refine wpOp_mono ?_ (pend_step hC st Cv R (chkAll_spec hca) hi hdi)
    rintro a' w' ⟨ρ', R'⟩
    exact ih _ a' w' ρ' R' Q hQ

/-- The theorem: the told order's end is every order's end. -/
theorem plan_sound (hC : CfgOk σ C P) {call : Caller β} (hcall : CallerOk σ P call) {ops : Array Oper} {sz : Nat} {next nxt : K β} {r : β} {t₀ : T Value} {h₀ : AH} (st : Static (infoOf C P sz ops)) {E : PSt → Bool} (hE : EndOk σ P C ops sz t₀ h₀ E next nxt r) :
    ∀ (π : List Act1) (s : PSt) (t : T Value) (h : AH) (v : Nat → Value) (M : Nat → Nat), chk E (infoOf C P sz ops) π s = true → runPlan P call next (π.map (paOf C P sz ops)) t h = some r → CInv (infoOf C P sz ops) t₀ h₀ s t h v M →
    ∃ t' h', nxt t' h' = some r ∧ ∀ (ρ₀ : Ren) (w₀ : World) (fuel : Nat) (listed : Array Bool) (a : Act) (w : World) (ρ : Ren), RInv σ P C ops sz (infoOf C P sz ops) t₀ h₀ s h v M ρ₀ w₀ fuel listed a w ρ →
      ∀ (Q : Exit → Act → World → Prop), (∀ ρ' a' w', Sim σ P ρ' t' h' sz a' w' → Ext ρ₀ h₀ w₀ ρ' h' w' → Q .normal a' w') → wpAny P .any ops Q fuel listed a w
  | [], s, t, h, v, M, hc, hr, Cv => hE s t h v M hc hr Cv
  | .val i :: π, s, t, h, v, M, hc, hr, Cv => by
    unfold chk at hc
    split at hc
    case h_2 => cases hc
    rename_i x hi hdn
    have hn := bitIn_false hdn
    obtain ⟨o, ho, hx⟩ := info_some hi
    have hpa : paOf C P sz ops (.val i) = .val (kindOf o) (decOp C P sz ops o) := by simp only [paOf, ho]
    have hr' : valP P (kindOf o) (decOp C P sz ops o) (runPlan P call next (π.map (paOf C P sz ops))) t h = some r := by
      have := hr
      rw [List.map_cons, hpa] at this
      exact this
    have hkx : x.kind = kindOf o := by rw [hx]
    unfold valP at hr'
    split at hr'
    case h_2 => cases hr'
    rename_i val hval
    rw [putA_eq] at hr'
    have hdst : dstD (decOp C P sz ops o) = x.dst := by rw [hx]
    rw [hdst] at hr'
    rw [← hkx] at hval
    have go : ∀ s' : PSt, s'.dn = bitOr s.dn i → s'.must = s.must → s'.es = s.es → s'.ok = bitOr s.ok i → (x.kind = .pure ∧ s'.st = bitOr s.st i ∨ x.kind = .read ∧ s'.st = s.st) → (∀ j, x.bef.testBit j = true → s.dn.testBit j = true) → chk E (infoOf C P sz ops) π s' = true →
        ∃ t' h', nxt t' h' = some r ∧ ∀ (ρ₀ : Ren) (w₀ : World) (fuel : Nat) (listed : Array Bool) (a : Act) (w : World) (ρ : Ren), RInv σ P C ops sz (infoOf C P sz ops) t₀ h₀ s h v M ρ₀ w₀ fuel listed a w ρ →
          ∀ (Q : Exit → Act → World → Prop), (∀ ρ' a' w', Sim σ P ρ' t' h' sz a' w' → Ext ρ₀ h₀ w₀ ρ' h' w' → Q .normal a' w') → wpAny P .any ops Q fuel listed a w := by
      intro s' e1 e2 e3 e4 e5 hb hcs
      have hnk : x.kind ≠ .new := by rcases e5 with ⟨e, _⟩ | ⟨e, _⟩ <;> (rw [e]; simp)
      have Cv' := CInv.add (val := val) (h' := h) (M' := M) (s' := s') st Cv hi hn hb e1 (fun _ _ => rfl) (Nat.le_refl _) (fun e => absurd e hnk) (fun j hj => by rw [e3] at hj; rw [e2]; exact Cv.es j hj) (by
        intro j y hj hs
        rw [e4]
        rcases e5 with ⟨ek, e5⟩ | ⟨ek, e5⟩
        · rw [e5, bitOr_iff] at hs
          rcases hs with hs | rfl
          · have := Cv.st j y hj hs
            exact ⟨bitOr_iff.2 (.inl this.1), this.2⟩
          · rw [hi] at hj; cases hj
            exact ⟨bitOr_iff.2 (.inr rfl), .inl ek⟩
        · rw [e5] at hs
          have := Cv.st j y hj hs
          exact ⟨bitOr_iff.2 (.inl this.1), this.2⟩)
      obtain ⟨t', h', k1, k2⟩ := plan_sound hC hcall st hE π s' _ _ _ _ hcs hr' Cv'
      refine ⟨t', h', k1, fun ρ₀ w₀ fuel listed a w ρ R => k2 ρ₀ w₀ fuel listed a w ρ (RInv.told st Cv R hi hn e1 e2 (fun _ _ => rfl) (fun _ S => S) R.ext (fun e => absurd e hnk) ?_ ?_)⟩
      · intro j y hj hok hne _
        rw [e4, bitOr_iff] at hok
        exact ⟨hok.resolve_right hne, id⟩
      · refine ⟨o, t, ho, getP_env_bef st Cv hi hn hb val, ?_⟩
        rw [upd_at]
        rcases e5 with ⟨ek, _⟩ | ⟨ek, _⟩
        · rw [ek] at hval; exact .inl ⟨ek, hval⟩
        · rw [ek] at hval; exact .inr (.inl ⟨ek, hval⟩)
    split at hc
    · rename_i ek hsub
      exact go ⟨bitOr s.dn i, s.must, bitOr s.ok i, s.es, bitOr s.st i⟩ rfl rfl rfl rfl (.inl ⟨ek, rfl⟩) (fun j hj => subset_test hsub hj) hc
    · rename_i ek hsub
      exact go ⟨bitOr s.dn i, s.must, bitOr s.ok i, s.es, s.st⟩ rfl rfl rfl rfl (.inr ⟨ek, rfl⟩) (fun j hj => subset_test hsub hj) hc
    · cases hc
  | .new i :: π, s, t, h, v, M, hc, hr, Cv => by
    unfold chk at hc
    split at hc
    case h_2 => cases hc
    rename_i x hi hdn
    have hn := bitIn_false hdn
    obtain ⟨o, ho, hx⟩ := info_some hi
    have hpa : paOf C P sz ops (.new i) = .new (decOp C P sz ops o) := by simp only [paOf, ho]
    have hr' : newP P (decOp C P sz ops o) (runPlan P call next (π.map (paOf C P sz ops))) t h = some r := by
      have := hr
      rw [List.map_cons, hpa] at this
      exact this
    split at hc
    case h_2 => cases hc
    rename_i ek hsub
    have hb : ∀ j, x.bef.testBit j = true → s.dn.testBit j = true := fun j hj => subset_test hsub hj
    have hdst : dstD (decOp C P sz ops o) = x.dst := by rw [hx]
    unfold newP at hr'
    split at hr'
    case h_2 => cases hr'
    rename_i d ao hdec
    split at hr'
    case h_2 => cases hr'
    rename_i ob f hnew
    unfold newQ at hr'
    split at hr'
    case h_2 => cases hr'
    rename_i val hf hroof
    have hroof := blt_true.1 hroof
    rw [putA_eq] at hr'
    have hdd : d = x.dst := by rw [← hdst, hdec]; rfl
    rw [hdd] at hr'
    have Cv' := CInv.add (val := val) (h' := h.push ob) (M' := upd M i h.next) (s' := ⟨bitOr s.dn i, s.must, bitOr s.st i, s.es, bitOr s.st i⟩) st Cv hi hn hb rfl (fun j hj => upd_ne M _ hj) (Nat.le_succ _) (fun _ => ⟨upd_at M i _, Nat.lt_succ_self _⟩) Cv.es (by
      intro j y hj hs
      refine ⟨hs, ?_⟩
      rcases bitOr_iff.1 hs with hs | rfl
      · exact (Cv.st j y hj hs).2
      · rw [hi] at hj; cases hj; exact .inr ek)
    obtain ⟨t', h', k1, k2⟩ := plan_sound hC hcall st hE π _ _ _ _ _ hc hr' Cv'
    refine ⟨t', h', k1, fun ρ₀ w₀ fuel listed a w ρ R => k2 ρ₀ w₀ fuel listed a w ρ ?_⟩
    obtain ⟨tD, _, SD⟩ := R.real
    refine RInv.told st Cv R hi hn rfl rfl (fun j hj => upd_ne M _ hj) (fun tD S => S.step (.refl _) (S.heap.ghost ob hroof)) (R.ext.ghost SD.heap ob hroof) ?_ ?_ ?_
    · intro _
      rw [upd_at]
      cases e : ρ h.next with
      | none => rfl
      | some p => have := (SD.heap.dom _ _ e).1; omega
    · intro j y hj hok hne hdj
      have hs := (bitOr_iff.1 hok).resolve_right hne
      obtain ⟨h1, h2⟩ := Cv.st j y hj hs
      refine ⟨h1, pend_mem h2 fun hk => ?_⟩
      have := (Cv.ids j y hj hk hdj).2
      rw [upd_ne M _ hne, AH.get_push _ _ hroof, if_neg (by omega)]
    · refine ⟨o, t, ho, getP_env_bef st Cv hi hn hb val, .inr (.inr ⟨ek, d, ao, ob, f, hdec, hnew, ?_, ?_⟩)⟩
      · rw [upd_at, upd_at]; exact hf
      · rw [upd_at, AH.get_push _ _ hroof, if_pos rfl]
  | .re i :: π, s, t, h, v, M, hc, hr, Cv => by
    unfold chk at hc
    split at hc
    case h_2 => cases hc
    rename_i x hi hdn
    have hd : s.dn.testBit i = true := by rw [← bitIn_eq]; exact hdn
    obtain ⟨o, ho, hx⟩ := info_some hi
    have hpa : paOf C P sz ops (.re i) = .re (decOp C P sz ops o) := by simp only [paOf, ho]
    have hr' : reP P (decOp C P sz ops o) (runPlan P call next (π.map (paOf C P sz ops))) t h = some r := by
      have := hr
      rw [List.map_cons, hpa] at this
      exact this
    split at hc
    case h_2 => cases hc
    rename_i ek hre
    have hdst : dstD (decOp C P sz ops o) = x.dst := by rw [hx]
    unfold reP at hr'
    split at hr'
    case h_2 => cases hr'
    rename_i p val hp hval
    split at hr'
    case h_2 => cases hr'
    rename_i hsame
    have hsame := sameV_eq _ _ _ hsame
    rw [hdst] at hp
    have hvi : val = v i := by rw [hsame, Cv.canon p, env_in st hd hi hp]
    have Cv' : CInv (infoOf C P sz ops) t₀ h₀ ⟨s.dn, s.must, bitOr s.ok i, s.es, s.st⟩ t h v M :=
      ⟨Cv.canon, Cv.cl, Cv.ind, Cv.rng, Cv.ids, Cv.inj, Cv.nx, Cv.es, fun j y hj hs => ⟨bitOr_iff.2 (.inl (Cv.st j y hj hs).1), (Cv.st j y hj hs).2⟩⟩
    obtain ⟨t', h', k1, k2⟩ := plan_sound hC hcall st hE π _ _ _ _ _ hc hr' Cv'
    refine ⟨t', h', k1, fun ρ₀ w₀ fuel listed a w ρ R => k2 ρ₀ w₀ fuel listed a w ρ ?_⟩
    refine ⟨R.size, R.cnt, R.closed, R.sub, R.must, R.real, R.ext, ?_, R.ghost⟩
    intro j y hj hdj hu hok
    rcases bitOr_iff.1 hok with hok | rfl
    · exact R.pend j y hj hdj hu hok
    · rw [hi] at hj; cases hj
      refine ⟨o, t, ho, fun p' hp' => ?_, .inr (.inl ⟨ek, by rw [← hvi]; exact hval⟩)⟩
      rw [Cv.canon p']
      refine env_eq st (fun k z hk hz => ⟨fun hdk => ?_, fun hb => Cv.cl j x hi hd k hb⟩) fun _ _ => rfl
      have h1 := List.all_eq_true.1 hre z (List.mem_of_getElem? hk)
      rw [hz] at h1
      have hany : x.reads.any (sameP p') = true := List.any_eq_true.2 ⟨p', hp', (sameP_iff p' p').2 rfl⟩
      simp only [hany] at h1
      rw [bitIn_eq, bitIn_eq, st.num k z hk, hdk] at h1
      simpa using h1
  | .eff e :: π, s, t, h, v, M, hc, hr, Cv => by
    unfold chk at hc
    split at hc
    case h_2 => cases hc
    rename_i x hi hdn hca
    have hn := bitIn_false hdn
    obtain ⟨o, ho, hx⟩ := info_some hi
    have hpa : paOf C P sz ops (.eff e) = .eff (decOp C P sz ops o) := by simp only [paOf, ho]
    have hr' : runOp P call (grow h.next (runPlan P call next (π.map (paOf C P sz ops)))) (decOp C P sz ops o) t h = some r := by
      have := hr
      rw [List.map_cons, hpa] at this
      exact this
    split at hc
    case h_2 => cases hc
    rename_i ek hsub hrest
    have hb : ∀ j, x.bef.testBit j = true → s.dn.testBit j = true := fun j hj => subset_test hsub hj
    have hdst : dstD (decOp C P sz ops o) = x.dst := by rw [hx]
    obtain ⟨val, h', hr2, hop⟩ := runOp_sound (σ := σ) hC hcall ho hr'
    unfold grow at hr2
    split at hr2
    case h_2 => cases hr2
    rename_i hgrow
    have hgrow := ble_true.1 hgrow
    rw [hdst] at hr2 hop
    have Cv' := eff_cinv (val := val) (h' := h') st Cv hi hn hb ek hgrow
    obtain ⟨t', h'', k1, k2⟩ := plan_sound hC hcall st hE π _ _ _ _ _ hc hr2 Cv'
    refine ⟨t', h'', k1, ?_⟩
    intro ρ₀ w₀ fuel
    induction fuel with
    | zero =>
      intro listed a w ρ R Q hQ
      exfalso
      obtain ⟨U, _, h2, h3⟩ := R.cnt
      have hlt : e < listed.size := by rw [R.size]; exact info_lt hi
      have hu : listed.getD e true = false := (un_iff hlt).2 (by
        cases ee : listed.getD e false with
        | false => rfl
        | true => exact absurd (R.sub e ee) hn)
      have := (h2 e).2 hu
      rw [List.length_eq_zero_iff.1 h3] at this
      cases this
    | succ fuel ih =>
      intro listed a w ρ R Q hQ
      have hlt : e < listed.size := by rw [R.size]; exact info_lt hi
      have hnl : ¬ (listed.getD e false = true) := fun ee => hn (R.sub e ee)
      have hu : listed.getD e true = false := (un_iff hlt).2 (by simpa using hnl)
      refine ⟨fun hre => ?_, fun i hir => ?_⟩
      · exfalso
        have hd := done_all st Cv R hre
        have := ready_of st hi hu fun j hj => hd j (hb j hj)
        rw [hre] at this
        cases this
      · by_cases hie : i = e
        · subst hie
          refine wpOp_mono ?_ (eff_real st Cv ho hx hi hn hb hop R hir)
          rintro a' w' ⟨ρ', R'⟩
          exact k2 ρ₀ w₀ fuel _ a' w' ρ' R' Q hQ
        · by_cases hdi : s.dn.testBit i = true
          · refine wpOp_mono ?_ (pend_step hC st Cv R (chkAll_spec hca) hir hdi)
            rintro a' w' ⟨ρ', R'⟩
            exact ih _ a' w' ρ' R' Q hQ
          · exfalso
            obtain ⟨_, oi, hoi, _⟩ := mem_ready.1 hir
            have hii : (infoOf C P sz ops)[i]? = some ⟨i, kindOf oi, (Region.before ops).getD i 0, edgesIn oi, dstD (decOp C P sz ops oi), (decOp C P sz ops oi).reads⟩ := by rw [infoOf_get, hoi]; rfl
            have hbl := ready_bef st R hii hir
            have h1 := List.all_eq_true.1 hrest _ (List.mem_of_getElem? hii)
            simp only [Bool.or_eq_true] at h1
            rcases h1 with h1 | h1 | h1
            · rw [bitIn_eq] at h1; exact hdi h1
            · exact hie (Nat.eq_of_beq_eq_true h1)
            · rw [bitIn_eq] at h1
              exact hnl (hbl e h1)

theorem no_caller : CallerOk (β := β) σ P (fun _ _ _ _ => none) := fun _ _ _ _ _ hr => by cases hr

/-- Of two stores that may stand in either order: the one, and then the other. -/
theorem two_half (hC : CfgOk σ C P) {ops : Array Oper} {sz : Nat} {t₀ : T Value} {h₀ : AH} (st : Static (infoOf C P sz ops)) {s : PSt} {t : T Value} {h h₁ h₂ : AH} {v : Nat → Value} {M : Nat → Nat} (Cv : CInv (infoOf C P sz ops) t₀ h₀ s t h v M)
    {i j : Nat} {x : Info} {o o' : Oper} (ho : ops[i]? = some o) (ho' : ops[j]? = some o') (hx : x = ⟨i, kindOf o, (Region.before ops).getD i 0, edgesIn o, dstD (decOp C P sz ops o), (decOp C P sz ops o).reads⟩) (hi : (infoOf C P sz ops)[i]? = some x) (ek : x.kind = .eff)
    (hn : ¬ (s.dn.testBit i = true)) (hb : ∀ k, x.bef.testBit k = true → s.dn.testBit k = true) {n n' : Nat} {a b a' b' : Opd} (hd : decOp C P sz ops o = .mk none none (.st n a b)) (hd' : decOp C P sz ops o' = .mk none none (.st n' a' b'))
    (h1 : dSt n a b t h = some (.value undef h₁)) (h2 : dSt n' a' b' t h₁ = some (.value undef h₂)) (hn1 : h.next ≤ h₁.next) (hn2 : h₁.next ≤ h₂.next) (hc : chk (endAll (infoOf C P sz ops)) (infoOf C P sz ops) [.eff j] (aft s x i) = true)
    {ρ₀ : Ren} {w₀ : World} {fuel : Nat} {listed : Array Bool} {ac : Act} {w : World} {ρ : Ren} (R : RInv σ P C ops sz (infoOf C P sz ops) t₀ h₀ s h v M ρ₀ w₀ (fuel + 1) listed ac w ρ) (hir : i ∈ Region.ready .any ops listed)
    {Q : Exit → Act → World → Prop} (hQ : ∀ ρ' a' w', Sim σ P ρ' t h₂ sz a' w' → Ext ρ₀ h₀ w₀ ρ' h₂ w' → Q .normal a' w') :
    wpOp P ops Q i (wpAny P .any ops Q fuel (listed.setIfInBounds i true)) ac w := by
  have hdst : x.dst = none := by rw [hx, hd]; rfl
  have hr1 : runOp P (fun _ _ _ _ => none) (fun t h => some (t, h)) (decOp C P sz ops o) t h = some (t, h₁) := by
    rw [hd]
    show @Option.rec Did (fun _ => Option (T Value × AH)) none _ (dSt n a b t h) = _
    rw [h1]
    rfl
  obtain ⟨val, h', k1, hop⟩ := runOp_sound (σ := σ) hC no_caller ho hr1
  have e1 : h' = h₁ := by simp only [Option.some.injEq, Prod.mk.injEq] at k1; exact k1.2
  subst e1
  rw [show dstD (decOp C P sz ops o) = x.dst by rw [hx]] at hop
  have Cv' := eff_cinv (val := val) st Cv hi hn hb ek hn1
  rw [hdst] at Cv'
  have hr2 : runPlan P (fun _ _ _ _ => none) (fun t h => some (t, h)) ([Act1.eff j].map (paOf C P sz ops)) (putT none val t) h' = some (t, h₂) := by
    have hpa : paOf C P sz ops (.eff j) = .eff (decOp C P sz ops o') := by simp only [paOf, ho']
    rw [List.map_cons, List.map_nil, hpa, hd']
    show @Option.rec Did (fun _ => Option (T Value × AH)) none (fun did => didK (fun _ _ _ _ => none) none (grow h'.next fun t h => some (t, h)) t did) (dSt n' a' b' t h') = _
    rw [h2]
    show grow h'.next (fun t h => some (t, h)) t h₂ = _
    unfold grow
    rw [Nat.ble_eq_true_of_le hn2]
  obtain ⟨t', h'', k3, k4⟩ := plan_sound (σ := σ) hC no_caller st (endAll_ok hC st) [.eff j] _ _ _ _ _ hc hr2 Cv'
  simp only [Option.some.injEq, Prod.mk.injEq] at k3
  obtain ⟨rfl, rfl⟩ := k3
  refine wpOp_mono ?_ (eff_real st Cv ho hx hi hn hb hop R hir)
  rintro a' w' ⟨ρ', R'⟩
  exact k4 ρ₀ w₀ fuel _ a' w' ρ' R' Q hQ

theorem endTwo_ok (hC : CfgOk σ C P) {ops : Array Oper} {sz : Nat} {kn : K β} {r : β} {t₀ : T Value} {h₀ : AH} (st : Static (infoOf C P sz ops)) {i j : Nat} :
    EndOk σ P C ops sz t₀ h₀ (endTwo (infoOf C P sz ops) i j) (endP C P sz ops kn (some (i, j))) kn r := by
  intro s t h v M hc hr Cv
  unfold endTwo at hc
  split at hc
  case h_2 => cases hc
  rename_i x y hi hj hdi hdj hca
  split at hc
  case h_2 => cases hc
  rename_i ekx eky hsx hsy hall
  split at hc
  case h_2 => cases hc
  rename_i hc1
  obtain ⟨o, ho, hx⟩ := info_some hi
  obtain ⟨o', ho', hy⟩ := info_some hj
  have hni := bitIn_false hdi
  have hnj := bitIn_false hdj
  have hbi : ∀ k, x.bef.testBit k = true → s.dn.testBit k = true := fun k hk => subset_test hsx hk
  have hbj : ∀ k, y.bef.testBit k = true → s.dn.testBit k = true := fun k hk => subset_test hsy hk
  unfold endP at hr
  simp only [ho, ho'] at hr
  unfold twoP at hr
  split at hr
  case h_2 => cases hr
  rename_i s1 s2 hs hs'
  split at hr
  case h_2 => cases hr
  rename_i hap
  split at hr
  case h_2 => cases hr
  rename_i v1 h₁ e1
  split at hr
  case h_2 => cases hr
  rename_i v2 h₂ e2
  obtain ⟨rfl, rfl, n1, n2, h₁', e3, e4, n3⟩ := two_stores hap e1 e2
  have st_dec : ∀ (d : DOp) (s : St), stOf d = some s → d = .mk none none (.st s.n s.x s.y) := by
    intro d s hd
    unfold stOf at hd
    split at hd
    · cases hd; rfl
    · cases hd
  have hd := st_dec _ _ hs
  have hd' := st_dec _ _ hs'
  refine ⟨t, h₂, hr, ?_⟩
  intro ρ₀ w₀ fuel
  have unl : ∀ {fuel : Nat} {listed : Array Bool} {ac : Act} {w : World} {ρ : Ren}, RInv σ P C ops sz (infoOf C P sz ops) t₀ h₀ s h v M ρ₀ w₀ fuel listed ac w ρ → listed.getD i true = false := by
    intro fuel listed ac w ρ R
    have hlt : i < listed.size := by rw [R.size]; exact info_lt hi
    exact (un_iff hlt).2 (by simpa using (fun ee => hni (R.sub i ee) : ¬ (listed.getD i false = true)))
  induction fuel with
  | zero =>
    intro listed ac w ρ R Q hQ
    exfalso
    obtain ⟨U, _, h2, h3⟩ := R.cnt
    have := (h2 i).2 (unl R)
    rw [List.length_eq_zero_iff.1 h3] at this
    cases this
  | succ fuel ih =>
    intro listed ac w ρ R Q hQ
    refine ⟨fun hre => ?_, fun k hk => ?_⟩
    · exfalso
      have hd := done_all st Cv R hre
      have := ready_of st hi (unl R) fun j hj => hd j (hbi j hj)
      rw [hre] at this
      cases this
    · by_cases hki : k = i
      · subst hki
        exact two_half hC st Cv ho ho' hx hi ekx hni hbi hd hd' e1 e2 (by omega) (by omega) hc1 R hk hQ
      · by_cases hkj : k = j
        · subst hkj
          exact two_half hC st Cv ho' ho hy hj eky hnj hbj hd' hd e3 e4 (by omega) (by omega) hc R hk hQ
        · obtain ⟨_, ok, hok, _⟩ := mem_ready.1 hk
          have hkk : (infoOf C P sz ops)[k]? = some ⟨k, kindOf ok, (Region.before ops).getD k 0, edgesIn ok, dstD (decOp C P sz ops ok), (decOp C P sz ops ok).reads⟩ := by rw [infoOf_get, hok]; rfl
          have h1 := List.all_eq_true.1 hall _ (List.mem_of_getElem? hkk)
          simp only [Bool.or_eq_true] at h1
          have hdk : s.dn.testBit k = true := by
            rcases h1 with h1 | h1 | h1
            · rw [bitIn_eq] at h1; exact h1
            · exact absurd (Nat.eq_of_beq_eq_true h1) hki
            · exact absurd (Nat.eq_of_beq_eq_true h1) hkj
          refine wpOp_mono ?_ (pend_step hC st Cv R (chkAll_spec hca) hk hdk)
          rintro a' w' ⟨ρ', R'⟩
          exact ih _ a' w' ρ' R' Q hQ

theorem drawn_sound (hC : CfgOk σ C P) {call : Caller β} (hcall : CallerOk σ P call) {ops : Array Oper} {sz : Nat} {next : K β} {t : T Value} {h : AH} {r : β} (hg : planGood C P sz ops = true)
    (hr : runPlan P call (endP C P sz ops next (planOf ops).2) (planned C P sz ops) t h = some r) :
    ∃ t' h', next t' h' = some r ∧ ∀ (ρ : Ren) (a : Act) (w : World), Sim σ P ρ t h sz a w → ∀ (Q : Exit → Act → World → Prop), (∀ a' w', Done σ P ρ h w sz t' h' a' w' → Q .normal a' w') →
      wpAny P .any ops Q ops.size (Array.replicate ops.size false) a w := by
  unfold planGood chk0 at hg
  split at hg
  case h_2 => cases hg
  rename_i hs
  have st : Static (infoOf C P sz ops) := Static.of _ (fun i x hi => by obtain ⟨o, _, hx⟩ := info_some hi; rw [hx]) hs
  have z : ∀ i, (0 : Nat).testBit i = true → False := fun i hi => by simp at hi
  have Cv : CInv (infoOf C P sz ops) t h ⟨0, 0, 0, 0, 0⟩ t h (fun _ => undef) (fun _ => 0) :=
    ⟨fun p => (env_out fun j y hj => (z j hj).elim).symm, fun i x _ hd => (z i hd).elim, fun L _ i hd => (z i hd).elim, fun i hd => (z i hd).elim, fun i x _ _ hd => (z i hd).elim, fun i j x y _ _ _ _ hd => (z i hd).elim,
      Nat.le_refl _, fun i hd => (z i hd).elim, fun i x _ hd => (z i hd).elim⟩
  have hE : EndOk σ P C ops sz t h (endOf (infoOf C P sz ops) (planOf ops).2) (endP C P sz ops next (planOf ops).2) next r := by
    cases (planOf ops).2 with
    | none => exact endAll_ok hC st
    | some p => exact endTwo_ok hC st
  obtain ⟨t', h', k1, k2⟩ := plan_sound hC hcall st hE (planOf ops).1 _ t h _ _ hg hr Cv
  refine ⟨t', h', k1, fun ρ a w S Q hQ => k2 ρ w ops.size _ a w ρ ?_ Q fun ρ' a' w' S' E' => hQ a' w' ⟨ρ', S', E'⟩⟩
  have hf : ∀ j, (Array.replicate ops.size false).getD j false = true → False := by
    intro j hj
    rw [Array.getD_eq_getD_getElem?, Array.getElem?_replicate] at hj
    split at hj <;> cases hj
  refine ⟨by simp, ⟨List.range ops.size, List.nodup_range, fun j => ?_, by simp⟩, fun i x _ hd => (hf i hd).elim, fun i hd => (hf i hd).elim, fun i hd => (z i hd).elim, ⟨t, fun p => (env_out fun j y hj => (hf j hj).elim).symm, S⟩, .refl _ _ _,
    fun i x _ hd => (z i hd).elim, fun i x _ _ hd => (z i hd).elim⟩
  rw [List.mem_range, Array.getD_eq_getD_getElem?, Array.getElem?_replicate]
  split <;> simp_all
end Go.Ri
