/-
  Ri, part R: strings over bytes; bytes without a value; functions without a body.
  Ri, part S: an operation on the abstract memory tells of the real one.
  Ri, part T: an operation on the abstract memory tells of the real one: all kinds.
  Ri, part U: an operation on the abstract memory tells of the real one: the theorem.
  Ri, part V: an operation on the abstract memory tells of the real one: calls.
  Ri, part W: an operation on the abstract memory tells of the real one: whatever operation.
  Ri, part X: an operation in its region: its guard, its place, what it does.
-/
import Derived.Test.YtojhgdpmbpgdgaaGreatDoorRi5
import Derived.Lib.UnsafeStr
import Derived.Laws.BytesArg
import GoSem.Extern.BytealgMakeNoZero
import Derived.Orders
namespace Go.Ri
variable {σ : Int → Int} {P : Program} {ρ : Ren}

theorem byteList_rel : ∀ {vs vs' : List Value} {l : List UInt8}, byteList vs = some l → VsRel σ ρ vs vs' → vs' = l.map fun b => Value.int .u8 (b.toNat : Int)
  | [], _, l, hl, .nil => by simp [byteList] at hl; subst hl; rfl
  | v :: vs, _, l, hl, .cons (b := v') hv ht => by
    unfold byteList at hl
    split at hl
    · rename_i heq; cases heq
    · rename_i n rest heq
      obtain ⟨h1, h2⟩ := List.cons.inj heq
      subst h1; subst h2
      split at hl
      · rename_i r hr hn
        have hn := blt_true.1 hn
        cases hl
        have e1 : v' = .int .u8 (Int.ofNat n) := hv.int_small (by unfold small; omega)
        subst e1
        rw [byteList_rel hr ht]
        simp only [List.map_cons, List.cons.injEq, and_true]
        congr 1
        show (n : Int) = ((UInt8.ofNat n).toNat : Int)
        rw [UInt8.toNat_ofNat_of_lt' (by simpa using hn)]
      · cases hl
    · cases hl

theorem bytes_sound {s d e : TypeId} (hs : P.underlying s = some (.slice e)) (he : P.underlying e = some (.int .u8)) (hd : P.underlying d = some .string) {h h' : AH} {w : World} (H : HRel σ P ρ h w) {x x' v : Value} (hx : VRel σ ρ x x')
    (ha : aBytes x h = some (.value v h')) : h' = h ∧ (convert s d x').run P w = .ok v w ∧ VRel σ ρ v v := by
  unfold aBytes at ha
  split at ha
  · cases hx
    simp only [Option.some.injEq, Did.value.injEq] at ha
    obtain ⟨rfl, rfl⟩ := ha
    exact ⟨rfl, run_convert_bytes_nil _ _ _ hs he _ _ _ hd, .string _⟩
  · rename_i a n c
    split at ha
    · rename_i l hl
      split at ha
      · rename_i bs hb
        simp only [Option.some.injEq, Did.value.injEq] at ha
        obtain ⟨rfl, rfl⟩ := ha
        cases hx with
        | sl id off sp p _ _ c' hp hcc hn hw =>
          obtain ⟨l', h1, h2⟩ := loadCells_run H ⟨p, hp, rfl⟩ hl
          have e1 := byteList_rel hb h1
          refine ⟨rfl, ?_, .string _⟩
          rw [run_convert_bytes_string w s d e _ _ _ hs he hd, run_bytesToString w _ _ _ (bs.map fun b => (b.toNat : Int)) (by rw [h2, e1]; simp [List.map_map, Function.comp_def])]
          rw [foldl_push_bytes]
          congr 2
          apply ByteArray.ext
          simp [List.map_map, Function.comp_def]
      · cases ha
    · cases ha
  · cases ha

theorem unsafeString_sound {pt it ty u : TypeId} (hu : P.underlying pt = some (.pointer u)) (hc1 : P.cellsOf u = 1) {h h' : AH} {w : World} (H : HRel σ P ρ h w) {x x' y y' v : Value} (hx : VRel σ ρ x x') (hy : VRel σ ρ y y')
    (he : aUnsafeString u x y h = some (.value v h')) :
    ∃ v' w', (Builtin.unsafeString_ #[pt, it] ty #[x', y']).run P w = .ok v' w' ∧ VRel σ ρ v v' ∧ HRel σ P ρ h' w' ∧ Ext ρ h w ρ h' w' := by
  unfold aUnsafeString at he
  split at he
  · rename_i b n
    split at he
    · rename_i c e lo hi wd hb
      split at he
      · rename_i l hee hle hbl hn hroof
        simp only [Option.some.injEq, Did.value.injEq] at he
        obtain ⟨rfl, rfl⟩ := he
        have hee := eqNat_true.1 hee
        subst hee
        have hle := ble_true.1 hle
        have hn := blt_true.1 hn
        have hroof := blt_true.1 hroof
        obtain ⟨a', rfl, p, hp, rfl⟩ := hx.to_addr
        have ey : y' = .int .i64 (Int.ofNat (n + 1)) := hy.int_small (by unfold small; omega)
        subst ey
        obtain ⟨cc, hxx, k1, k2, k3, k4, pre, rest, k5, k6⟩ := (H.live _ _ _ hb hp).cells_obj
        have hpl := k6.length
        have hcs : pre.length ≤ cc.size := by rw [← Array.length_toList, k5]; simp
        have hrel : VsRel σ ρ (c.take (n + 1)) (pre.take (n + 1)) := by
          refine LRel.of_get _ _ (by simp; omega) fun i u u' hu hu' => ?_
          rw [List.getElem?_take] at hu hu'
          split at hu
          · rename_i hlt
            rw [if_pos hlt] at hu'
            obtain ⟨b, hb1, hb2⟩ := k6.get _ _ hu
            rw [hb1] at hu'; cases hu'; exact hb2
          · cases hu
        have e1 := byteList_rel hbl hrel
        have hll : l.length = n + 1 := by
          have := congrArg List.length e1
          simp at this; omega
        have hw' : (w.freeze ⟨p.blk, 0, none⟩ (n + 1)).heap = w.heap.setIfInBounds p.blk (.cells cc e ((meet lo hi 0 (n + 1)).1, (meet lo hi 0 (n + 1)).2)) := by
          unfold World.freeze
          simp only [Nat.add_eq_zero_iff, Nat.one_ne_zero, and_false, if_false]
          rw [modify_eq _ _ _ _ hxx]
          simp only [meet, beq_iff_eq, Nat.zero_add]
        have hos : (w.freeze ⟨p.blk, 0, none⟩ (n + 1)).os = w.os := by unfold World.freeze; simp
        have hta : (w.freeze ⟨p.blk, 0, none⟩ (n + 1)).tape = w.tape := by unfold World.freeze; simp
        have hou : (w.freeze ⟨p.blk, 0, none⟩ (n + 1)).output = w.output := by unfold World.freeze; simp
        obtain ⟨H', E'⟩ := H.turn (r := b) hp (by rw [show h.get b = _ from hb]; simp) hroof (o := .cells c e (meet lo hi 0 (n + 1)).1 (meet lo hi 0 (n + 1)).2 wd) (x := .cells cc e ((meet lo hi 0 (n + 1)).1, (meet lo hi 0 (n + 1)).2)) ⟨rfl, rfl, k1, k2, k3, k4, pre, rest, k5, k6⟩ hw' hos hta hou
        have hrun := Lib.run_unsafeString_row (P := P) w pt it ty e hu hc1 p.blk cc.size (by unfold World.shape?; simp [hxx]) l (by intro e; rw [e] at hll; simp at hll) (by omega) (by omega) (fun j x hj => by
          have hjl : j < l.length := (List.getElem?_eq_some_iff.1 hj).1
          rw [Addr.add_none (a := ⟨p.blk, 0, none⟩) rfl]
          unfold World.cell?
          simp only [hxx, Option.isSome_none, Bool.false_eq_true, if_false, Nat.zero_add]
          rw [← Array.getElem?_toList, k5, List.getElem?_append_left (by omega)]
          have : (pre.take (n + 1))[j]? = some (Value.int .u8 (x.toNat : Int)) := by rw [e1]; simp [hj]
          rw [List.getElem?_take, if_pos (by omega)] at this
          exact this)
        rw [hll] at hrun
        exact ⟨.string ⟨l.toArray⟩, _, hrun, .string _, H', E'⟩
      · cases he
    · cases he
  · cases he
end Go.Ri
namespace Go.Ri
variable {σ : Int → Int} {P : Program} {ρ : Ren}

/-! ### places -/
theorem getP_setP (x : Value) : ∀ (p q : Pos) (t : T Value), getP (setP x p t) q = if q = p then x else getP t q
  | .z, q, t => by
    cases t <;> cases q <;> rfl
  | .a p, q, t => by
    cases t with
    | leaf => cases q with
      | z => rfl
      | a q =>
        show getP (setP x p .leaf) q = _
        rw [getP_setP x p q .leaf]
        by_cases e : q = p
        · rw [if_pos e, if_pos (by rw [e])]
        · rw [if_neg e, if_neg (fun h => e (by injection h))]
          rfl
      | b q => rfl
    | node l v r => cases q with
      | z => rfl
      | a q =>
        show getP (setP x p l) q = _
        rw [getP_setP x p q l]
        by_cases e : q = p
        · rw [if_pos e, if_pos (by rw [e])]
        · rw [if_neg e, if_neg (fun h => e (by injection h))]
          rfl
      | b q => rfl
  | .b p, q, t => by
    cases t with
    | leaf => cases q with
      | z => rfl
      | b q =>
        show getP (setP x p .leaf) q = _
        rw [getP_setP x p q .leaf]
        by_cases e : q = p
        · rw [if_pos e, if_pos (by rw [e])]
        · rw [if_neg e, if_neg (fun h => e (by injection h))]
          rfl
      | a q => rfl
    | node l v r => cases q with
      | z => rfl
      | b q =>
        show getP (setP x p r) q = _
        rw [getP_setP x p q r]
        by_cases e : q = p
        · rw [if_pos e, if_pos (by rw [e])]
        · rw [if_neg e, if_neg (fun h => e (by injection h))]
          rfl
      | a q => rfl

def numOf : Pos → Nat
  | .z => 0
  | .a p => 2 * numOf p + 1
  | .b p => 2 * numOf p + 2
theorem numOf_posOf : ∀ (f n : Nat), n + 1 < 2 ^ f → numOf (posOf f n) = n
  | 0, n, h => by simp at h
  | f + 1, 0, _ => rfl
  | f + 1, n + 1, h => by
    have h' : n / 2 + 1 < 2 ^ f := by rw [Nat.pow_succ] at h; omega
    have ih := numOf_posOf f (n / 2) h'
    rcases Nat.mod_two_eq_zero_or_one n with h0 | h0
    · simp only [posOf, h0, numOf, ih]; omega
    · simp only [posOf, h0, numOf, ih]; omega
theorem posOf_inj {i j : Nat} (hi : i < roof) (hj : j < roof) (h : posOf 40 i = posOf 40 j) : i = j := by
  have h1 := numOf_posOf 40 i (by unfold roof at hi; omega)
  have h2 := numOf_posOf 40 j (by unfold roof at hj; omega)
  rw [← h1, h, h2]

/-- The abstract frame and memory tell of the real ones. -/
structure Sim (σ : Int → Int) (P : Program) (ρ : Ren) (t : T Value) (h : AH) (sz : Nat) (a : Act) (w : World) : Prop where
  tm : ∀ i, i < roof → VRel σ ρ (getP t (posOf 40 i)) (a.tmps.getD i undef)
  size : a.tmps.size = sz
  roof : sz < roof
  defers : a.defers = []
  heap : HRel σ P ρ h w
  glob : ∀ g, g < P.globals.size → ∃ p, ρ g = some p ∧ p.blk = g

theorem VRel.undef : VRel σ ρ undef undef := .tuple _ _ rfl (fun i v v' h => by simp [Go.undef] at h)

theorem Sim.ev {t : T Value} {h : AH} {sz : Nat} {a : Act} {w : World} (S : Sim σ P ρ t h sz a w) (x : Operand) (hx : opdOk P x = true) : VRel σ ρ (evO t (opd x)) (a.eval x) := by
  cases x with
  | tmp i => exact S.tm i (blt_true.1 hx)
  | const v => exact closedB_rel 4 v hx
  | global g =>
    obtain ⟨p, hp, e⟩ := S.glob g (blt_true.1 hx)
    have := VRel.ptr (σ := σ) g 0 none p hp
    rw [e] at this
    exact this
  | func f => exact .func f _ _ _ _ rfl rfl (fun i v v' h => by simp at h) (fun i v v' h => by simp at h)

theorem Sim.evs {t : T Value} {h : AH} {sz : Nat} {a : Act} {w : World} (S : Sim σ P ρ t h sz a w) : ∀ (xs : List Operand), (∀ x, x ∈ xs → opdOk P x = true) → VsRel σ ρ (evs t (xs.map opd)) (xs.map a.eval)
  | [], _ => .nil
  | x :: xs, h => .cons (S.ev x (h x (by simp))) (S.evs xs fun y hy => h y (by simp [hy]))

theorem Sim.put {ρ' : Ren} {t : T Value} {h h' : AH} {sz : Nat} {a : Act} {w w' : World} (S : Sim σ P ρ t h sz a w) (hle : Le ρ ρ') (H : HRel σ P ρ' h' w') {d : Tmp} {v v' : Value} (hd : d < sz) (hv : VRel σ ρ' v v') :
    Sim σ P ρ' (setP v (posOf 40 d) t) h' sz (a.put (some d) v') w' where
  tm := fun i hi => by
    rw [getP_setP]
    have e : (a.put (some d) v').tmps = a.tmps.setIfInBounds d v' := rfl
    rw [e]
    by_cases hid : i = d
    · subst hid
      rw [if_pos rfl]
      rw [Array.getD_eq_getD_getElem?, Array.getElem?_setIfInBounds_self_of_lt (by rw [S.size]; exact hd)]
      exact hv
    · rw [if_neg (fun h => hid (posOf_inj hi (Nat.lt_trans hd S.roof) h))]
      rw [Array.getD_eq_getD_getElem?, Array.getElem?_setIfInBounds_ne (Ne.symm hid), ← Array.getD_eq_getD_getElem?]
      exact (S.tm i hi).mono hle
  size := by show (a.tmps.setIfInBounds d v').size = sz; simp [S.size]
  roof := S.roof
  defers := S.defers
  heap := H
  glob := fun g hg => by obtain ⟨p, hp, e⟩ := S.glob g hg; exact ⟨p, hle _ _ hp, e⟩

theorem Sim.step {ρ' : Ren} {t : T Value} {h h' : AH} {sz : Nat} {a : Act} {w w' : World} (S : Sim σ P ρ t h sz a w) (hle : Le ρ ρ') (H : HRel σ P ρ' h' w') : Sim σ P ρ' t h' sz a w' :=
  ⟨fun i hi => (S.tm i hi).mono hle, S.size, S.roof, S.defers, H, fun g hg => by obtain ⟨p, hp, e⟩ := S.glob g hg; exact ⟨p, hle _ _ hp, e⟩⟩

def Did.heap : Did → AH
  | .value _ h => h
  | .enter _ _ h => h

/-- What an operation yields, on both sides. -/
def DRel (σ : Int → Int) (ρ : Ren) : Did → Next → Prop
  | .value v _, .value v' => VRel σ ρ v v'
  | .value v _, .skip => v = Go.undef
  | .enter f a _, .enter f' a' => f' = f ∧ VsRel σ ρ a.toList a'.toList
  | _, _ => False

def OpDone (σ : Int → Int) (P : Program) (ρ : Ren) (h : AH) (w : World) (did : Did) (s : Sem Next) : Prop :=
  ∃ n w' ρ', s.run P w = .ok n w' ∧ Ext ρ h w ρ' did.heap w' ∧ HRel σ P ρ' did.heap w' ∧ DRel σ ρ' did n

theorem done_of_run {h : AH} {w : World} {v v' : Value} {s : Sem Value} (H : HRel σ P ρ h w) (hr : s.run P w = .ok v' w) (hv : VRel σ ρ v v') : OpDone σ P ρ h w (.value v h) (do pure (.value (← s))) :=
  ⟨.value v', w, ρ, by simp [hr], .refl _ _ _, H, hv⟩

theorem done_of_rel {h h' : AH} {w : World} {v : Value} {s s' : Sem Value} (H : HRel σ P ρ h w) (hs : SRel σ P (VR σ) ρ s s') (he : asem P s h = some (v, h')) : OpDone σ P ρ h w (.value v h') (do pure (.value (← s'))) := by
  obtain ⟨ρ', v', w', h1, h2, h3, h4⟩ := asem_sound s s' ρ h w v h' hs H he
  exact ⟨.value v', w', ρ', by simp [h1], h4, h3, h2⟩

theorem done_unit {h h' : AH} {w : World} {s s' : Sem Unit} (H : HRel σ P ρ h w) (hs : SRel σ P EqR ρ s s') (he : asem P s h = some ((), h')) : OpDone σ P ρ h w (.value Go.undef h') (do s'; pure .skip) := by
  obtain ⟨ρ', v', w', h1, h2, h3, h4⟩ := asem_sound s s' ρ h w () h' hs H he
  exact ⟨.skip, w', ρ', by simp [h1], h4, h3, rfl⟩

theorem done_plain {h : AH} {w : World} {v : Value} {s : Sem Value} (H : HRel σ P ρ h w) (he : psem P s = some v) (hp : plainS v = true) : OpDone σ P ρ h w (.value v h) (do pure (.value (← s))) :=
  done_of_run H (psem_run s v he w) (.of_plain hp)

theorem VsRel.plain_eq {l l' : List Value} (h : VsRel σ ρ l l') (hp : allPlain l = true) : l' = l := by
  induction h with
  | nil => rfl
  | cons hv _ ih =>
    simp only [allPlain, List.all_cons, Bool.and_eq_true] at hp
    rw [hv.plain hp.1, ih hp.2]
end Go.Ri
namespace Go.Ri
variable {σ : Int → Int} {P : Program} {ρ : Ren}

/-- The number that stands behind a told one. -/
def real (σ : Int → Int) (a : Int) : Int := if a < big then a else σ a

/-- What is asked of the program, and of what is said of its functions without a body. -/
structure CfgOk (σ : Int → Int) (C : Cfg) (P : Program) : Prop where
  zeros : ZerosOk P
  noNum : ∀ (f : FuncId) (fn : Func), P.funcs[f]? = some fn → fn.name ≠ "runtime.NumGoroutine"
  known : ∀ f e, C.odd f = some (.known e) → ∃ fn, P.funcs[f]? = some fn ∧ fn.body = none ∧ Extern.findNext fn = none ∧ Extern.find fn = some e
  noZero : ∀ f, C.odd f = some .noZero → ∃ fn, P.funcs[f]? = some fn ∧ fn.body = none ∧ Extern.findNext fn = none ∧ Extern.find fn = some (Extern.BytealgMakeNoZero.makeNoZero fn.params fn.resultTypes)
  sym : ∀ op a b v, C.sym op a b = some v → ∀ ty, ∃ v', psem P (binOp op ty (.int .i64 (real σ a)) (.int .i64 (real σ b))) = some v' ∧ ∀ ρ, VRel σ ρ v v'

theorem run_callFunc_body {C : Cfg} (hC : CfgOk σ C P) {f : FuncId} (hb : hasBody P f = true) (args : Array Value) (w : World) : (callFunc f args).run P w = .ok (.enter f args) w := by
  unfold hasBody at hb
  split at hb
  · rename_i fn hf
    split at hb
    · rename_i c hc
      have := hC.noNum f fn hf
      simp [callFunc, program, bind, Sem.bind, Sem.run, hf, this, hc, pure]
    · cases hb
  · cases hb

theorem run_callFunc_ext {C : Cfg} (hC : CfgOk σ C P) {f : FuncId} {fn : Func} {e : Array Value → Sem Value} (hf : P.funcs[f]? = some fn) (hb : fn.body = none) (hn : Extern.findNext fn = none) (he : Extern.find fn = some e) (args : Array Value) (w : World) :
    (callFunc f args).run P w = (do pure (Next.value (← e args)) : Sem Next).run P w := by
  have := hC.noNum f fn hf
  simp [callFunc, program, bind, Sem.bind, Sem.run, hf, this, hb, hn, he, mark, pure]

section
variable {C : Cfg} {t : T Value} {h : AH} {sz : Nat} {a : Act} {w : World}

theorem dyn_move (S : Sim σ P ρ t h sz a w) (x : Operand) (hx : opdOk P x = true) : OpDone σ P ρ h w (.value (evO t (opd x)) h) (pure (.value (a.eval x))) :=
  ⟨_, w, ρ, rfl, .refl _ _ _, S.heap, S.ev x hx⟩

theorem dyn_pick (S : Sim σ P ρ t h sz a w) (c x y : Operand) (hc : opdOk P c = true) (hx : opdOk P x = true) (hy : opdOk P y = true) {did : Did} (hd : dPk (opd c) (opd x) (opd y) t h = some did) :
    OpDone σ P ρ h w did (do pure (.value (if ← asBool (a.eval c) then a.eval x else a.eval y))) := by
  unfold dPk at hd
  have hr := S.ev c hc
  split at hd
  · rename_i e
    rw [e] at hr
    cases hd
    have e2 : a.eval c = .bool true := hr.plain rfl
    exact ⟨.value (a.eval x), w, ρ, by simp [e2, asBool], .refl _ _ _, S.heap, S.ev x hx⟩
  · rename_i e
    rw [e] at hr
    cases hd
    have e2 : a.eval c = .bool false := hr.plain rfl
    exact ⟨.value (a.eval y), w, ρ, by simp [e2, asBool], .refl _ _ _, S.heap, S.ev y hy⟩
  · cases hd

theorem dyn_field (S : Sim σ P ρ t h sz a w) {s f off : Nat} (hf : fieldOff P s f = some off) (x : Operand) (hx : opdOk P x = true) {did : Did} (hd : dFa off (opd x) t h = some did) :
    OpDone σ P ρ h w did (do pure (.value (← Instr.fieldAt s (a.eval x) f))) := by
  unfold dFa at hd
  have hr := S.ev x hx
  split at hd
  · rename_i ad e
    rw [e] at hr
    cases hd
    obtain ⟨a', e2, ha⟩ := hr.to_addr
    rw [e2]
    exact done_of_run S.heap (run_fieldAt hf _ _) (.of_addr (ha.add off))
  · cases hd

theorem dIx_some {n k len : Nat} {ad : Addr} {h : AH} {did : Did} (hd : dIx n k len ad h = some did) : n < len ∧ n < small ∧ did = .value (.pointer (some (ad.add (n * k)))) h := by
  unfold dIx at hd
  split at hd
  · rename_i h1 h2; cases hd; exact ⟨blt_true.1 h1, blt_true.1 h2, rfl⟩
  · cases hd

theorem dyn_ixs (S : Sim σ P ρ t h sz a w) {ty e k : Nat} (hi : idxInfo P ty = some (.sl e k)) (x i : Operand) (hx : opdOk P x = true) (hii : opdOk P i = true) {did : Did} (hd : dIxs k (opd x) (opd i) t h = some did) :
    OpDone σ P ρ h w did (do pure (.value (← Instr.indexAt ty (a.eval x) (a.eval i)))) := by
  unfold dIxs at hd
  have hr := S.ev x hx
  have hri := S.ev i hii
  split at hd
  · rename_i ad len cap kk n e1 e2
    rw [e1] at hr; rw [e2] at hri
    obtain ⟨h1, h2, rfl⟩ := dIx_some hd
    rw [hri.int_small h2]
    generalize a.eval x = y at hr ⊢
    cases hr with
    | sl id off sp p _ _ c' hp hcc hn hw => exact done_of_run S.heap (run_indexSl hi _ _ _ _ _ h1 _) (.of_addr (ARel.add ⟨p, hp, rfl⟩ _))
  · cases hd

theorem dyn_ixa (S : Sim σ P ρ t h sz a w) {ty e k len : Nat} (hi : idxInfo P ty = some (.ar e k len)) (x i : Operand) (hx : opdOk P x = true) (hii : opdOk P i = true) {did : Did} (hd : dIxa k len (opd x) (opd i) t h = some did) :
    OpDone σ P ρ h w did (do pure (.value (← Instr.indexAt ty (a.eval x) (a.eval i)))) := by
  unfold dIxa at hd
  have hr := S.ev x hx
  have hri := S.ev i hii
  split at hd
  · rename_i ad kk n e1 e2
    rw [e1] at hr; rw [e2] at hri
    obtain ⟨h1, h2, rfl⟩ := dIx_some hd
    rw [hri.int_small h2]
    obtain ⟨a', e3, ha⟩ := hr.to_addr
    rw [e3]
    exact done_of_run S.heap (run_indexAr hi _ _ _ h1 _) (.of_addr (ha.add _))
  · cases hd

theorem dyn_ld (S : Sim σ P ρ t h sz a w) {ty : Nat} (hi : isAggP P ty = some false) (x : Operand) (hx : opdOk P x = true) {did : Did} (hd : dLd (opd x) t h = some did) :
    OpDone σ P ρ h w did (do pure (.value (← Instr.loadAt ty (a.eval x)))) := by
  unfold dLd at hd
  have hr := S.ev x hx
  split at hd
  · rename_i ad e
    rw [e] at hr
    split at hd
    · rename_i v hv
      cases hd
      obtain ⟨a', e2, ha⟩ := hr.to_addr
      obtain ⟨v', h1, h2⟩ := S.heap.cell ha hv
      rw [e2]
      exact done_of_run S.heap (v' := v') (by simp [Instr.loadAt, Instr.sureAddr, loadVar, run_isAgg hi, h1]) h2
    · cases hd
  · cases hd

theorem dyn_extract (S : Sim σ P ρ t h sz a w) (i : Nat) (x : Operand) (hx : opdOk P x = true) {did : Did} (hd : dEx i (opd x) t h = some did) :
    OpDone σ P ρ h w did (do pure (.value (← Instr.extract (a.eval x) i))) := by
  unfold dEx at hd
  have hr := S.ev x hx
  split at hd
  · rename_i vs e
    rw [e] at hr
    split at hd
    · rename_i v hv
      cases hd
      generalize a.eval x = y at hr ⊢
      cases hr with
      | tuple _ vs' hs hrr =>
        obtain ⟨v', h1, h2⟩ := (VsRel.of_array hs hrr).get i v hv
        exact done_of_run S.heap (v' := v') (by simp [Instr.extract, show vs'[i]? = some v' by simpa using h1]) h2
    · cases hd
  · cases hd

theorem dLenN_some {n : Nat} {h : AH} {did : Did} (hd : dLenN n h = some did) : n < small ∧ did = .value (.int .i64 (Int.ofNat n)) h := by
  unfold dLenN at hd
  split at hd
  · rename_i h1; cases hd; exact ⟨blt_true.1 h1, rfl⟩
  · cases hd
theorem small_big {n : Nat} (h : n < small) : (Int.ofNat n) < big := by unfold small at h; unfold big; show (n : Int) < _; omega

theorem dyn_len (S : Sim σ P ρ t h sz a w) {str : Bool} {ty : TypeId} {ts : Array TypeId} {ct : TypeId} {d : TypeDesc} (hts : ts[0]? = some ct) (hd0 : P.underlying ct = some d) (hk : (str = true ∧ d = .string) ∨ (str = false ∧ ∃ e, d = .slice e)) (x : Operand) (hx : opdOk P x = true) {did : Did} (hd : dLen str (opd x) t h = some did) :
    OpDone σ P ρ h w did (do pure (.value (← Builtin.len_ ts ty #[a.eval x]))) := by
  unfold dLen at hd
  have hr := S.ev x hx
  split at hd
  · rename_i s e
    rw [e] at hr
    have e2 : a.eval x = .string s := hr.plain rfl
    obtain ⟨h1, rfl⟩ := dLenN_some hd
    rcases hk with ⟨_, rfl⟩ | ⟨h0, _⟩
    · exact done_of_run S.heap (v' := .int .i64 s.size) (by rw [e2]; simp [Builtin.len_, hts, run_underlying hd0, goInt]) (.int _ _ (small_big h1))
    · cases h0
  · rename_i b n c e
    rw [e] at hr
    obtain ⟨h1, rfl⟩ := dLenN_some hd
    rcases hk with ⟨h0, _⟩ | ⟨_, e', rfl⟩
    · cases h0
    · refine done_of_run S.heap (v' := .int .i64 n) ?_ (.int _ _ (small_big h1))
      generalize a.eval x = y at hr ⊢
      cases hr <;> simp [Builtin.len_, hts, run_underlying hd0, goInt]
  · cases hd
end
end Go.Ri
namespace Go.Ri
variable {σ : Int → Int} {P : Program} {ρ : Ren} {C : Cfg} {t : T Value} {h : AH} {sz : Nat} {a : Act} {w : World}

theorem dyn_nc (S : Sim σ P ρ t h sz a w) (x : Operand) (hx : opdOk P x = true) {did : Did} (hd : dNc (opd x) t h = some did) (o : Oper) (ho : o.op = .nilCheck x) : OpDone σ P ρ h w did (execOp a.eval o) := by
  unfold dNc at hd
  have hr := S.ev x hx
  split at hd
  · rename_i ad e
    rw [e] at hr
    cases hd
    obtain ⟨a', e2, ha⟩ := hr.to_addr
    exact ⟨.value (.pointer (some a')), w, ρ, by simp [execOp, ho, e2], .refl _ _ _, S.heap, .of_addr ha⟩
  · rename_i f p q e
    rw [e] at hr
    cases hd
    obtain ⟨p', q', e2⟩ : ∃ p' q', a.eval x = .func (.func f) p' q' := by
      generalize a.eval x = y at hr
      cases hr
      exact ⟨_, _, rfl⟩
    exact ⟨.value (a.eval x), w, ρ, by simp [execOp, ho, e2], .refl _ _ _, S.heap, hr⟩
  · cases hd

theorem dyn_mf (S : Sim σ P ρ t h sz a w) (f : FuncId) (p q : Array Operand) (hp : ∀ x, x ∈ p.toList → opdOk P x = true) (hq : ∀ x, x ∈ q.toList → opdOk P x = true) :
    OpDone σ P ρ h w (.value (.func (.func f) (evs t (p.toList.map opd)).toArray (evs t (q.toList.map opd)).toArray) h) (do pure (.value (← Instr.makeFunc (.func f) (p.map a.eval) (q.map a.eval)))) := by
  refine done_of_run S.heap (v' := .func (.func f) (p.map a.eval) (q.map a.eval)) rfl ?_
  have h1 := S.evs p.toList hp
  have h2 := S.evs q.toList hq
  have g1 : VsRel σ ρ (evs t (p.toList.map opd)).toArray.toList (p.map a.eval).toList := by simpa using h1
  have g2 : VsRel σ ρ (evs t (q.toList.map opd)).toArray.toList (q.map a.eval).toList := by simpa using h2
  exact .func f _ _ _ _ g1.to_array.1 g2.to_array.1 g1.to_array.2 g2.to_array.2

theorem dTree_some {f : List Value → Sem Value} {xs : List Opd} {did : Did} (hd : dTree P f xs t h = some did) : ∃ v h', asem P (f (evs t xs)) h = some (v, h') ∧ did = .value v h' := by
  unfold dTree at hd
  split at hd
  · rename_i v h' e; cases hd; exact ⟨v, h', e, rfl⟩
  · cases hd
theorem dUnit_some {f : List Value → Sem Unit} {xs : List Opd} {did : Did} (hd : dUnit P f xs t h = some did) : ∃ h', asem P (f (evs t xs)) h = some ((), h') ∧ did = .value Go.undef h' := by
  unfold dUnit at hd
  split at hd
  · rename_i v h' e; cases hd; exact ⟨h', e, rfl⟩
  · cases hd
theorem dPlainV_some {s : Sem Value} {did : Did} (hd : dPlainV P s h = some did) : ∃ v, psem P s = some v ∧ plainS v = true ∧ did = .value v h := by
  unfold dPlainV at hd
  split at hd
  · rename_i v e
    split at hd
    · rename_i hp; cases hd; exact ⟨v, e, hp, rfl⟩
    · cases hd
  · cases hd
theorem dPlain_some {f : List Value → Sem Value} {xs : List Opd} {did : Did} (hd : dPlain P f xs t h = some did) : allPlain (evs t xs) = true ∧ ∃ v, psem P (f (evs t xs)) = some v ∧ plainS v = true ∧ did = .value v h := by
  unfold dPlain dPlainL at hd
  split at hd
  · rename_i e; exact ⟨e, dPlainV_some hd⟩
  · cases hd

/-- Plain operands are the same on both sides. -/
theorem Sim.evs_plain (S : Sim σ P ρ t h sz a w) (xs : List Operand) (hx : ∀ x, x ∈ xs → opdOk P x = true) (hp : allPlain (Ri.evs t (xs.map opd)) = true) : Ri.evs t (xs.map opd) = xs.map a.eval := (VsRel.plain_eq (S.evs xs hx) hp).symm

theorem dyn_plain (S : Sim σ P ρ t h sz a w) (f : List Value → Sem Value) (xs : List Operand) (hx : ∀ x, x ∈ xs → opdOk P x = true) {did : Did} (hd : dPlain P f (xs.map opd) t h = some did) :
    OpDone σ P ρ h w did (do pure (.value (← f (xs.map a.eval)))) := by
  obtain ⟨h1, v, h2, h3, rfl⟩ := dPlain_some hd
  rw [S.evs_plain xs hx h1] at h2
  exact done_plain S.heap h2 h3

theorem flat_plain {v v' : Value} (h : VRel σ ρ v v') (hp : flatA v = true) : v' = v := by
  cases v with
  | agg xs =>
    cases h with
    | agg _ ys hs hr =>
      have hp : xs.toList.all plainS = true := hp
      have := VsRel.plain_eq (VsRel.of_array hs hr) hp
      rw [Array.toList_inj.1 this]
  | _ => simp [flatA] at hp
theorem flat_agg {v : Value} (hp : flatA v = true) : ∃ xs, v = .agg xs := by
  cases v with
  | agg xs => exact ⟨xs, rfl⟩
  | _ => simp [flatA] at hp
theorem VRel.real {k : IntKind} {n : Int} {v' : Value} (h : VRel σ ρ (.int k n) v') : v' = .int k (real σ n) := by
  cases h with
  | int _ _ h => rw [Ri.real, if_pos h]
  | sym _ _ h => rw [Ri.real, if_neg (by omega)]
theorem eqGuard_int {op : BinOp} {t : TypeId} {x y : Operand} {k : IntKind} {n : Int} {b : Value} (w : World) : (eqGuard op t x y (.int k n) b).run P w = .ok () w := by
  unfold eqGuard
  cases op <;> simp [Sem.run, pure]
theorem dyn_agg (hC : CfgOk σ C P) (S : Sim σ P ρ t h sz a w) (op : BinOp) (ty : TypeId) (x y : Operand) (h1 : VRel σ ρ (evO t (opd x)) (a.eval x)) (h2 : VRel σ ρ (evO t (opd y)) (a.eval y)) {did : Did}
    (hd : dAgg P C.sym op ty (P.underlying ty) (evO t (opd x)) (evO t (opd y)) h = some did) :
    OpDone σ P ρ h w did (do pure (.value (← (do eqGuard op ty x y (a.eval x) (a.eval y); binOp op ty (a.eval x) (a.eval y))))) := by
  unfold dAgg at hd
  split at hd
  · rename_i p1 p2
    split at hd
    · rename_i u hg
      obtain ⟨v, hv, hp, rfl⟩ := dPlainV_some hd
      have e1 := flat_plain h1 p1
      have e2 := flat_plain h2 p2
      rw [e1, e2]
      refine done_of_run S.heap (v' := v) ?_ (.of_plain hp)
      obtain ⟨xs, ex⟩ := flat_agg p1
      obtain ⟨ys, ey⟩ := flat_agg p2
      have hgr : (eqGuard op ty x y (evO t (opd x)) (evO t (opd y))).run P w = .ok () w := by
        have := psem_run _ _ hg w
        rw [ex, ey] at this ⊢
        exact this
      rw [Sem.run_bind, hgr]
      exact psem_run _ _ hv w
    · cases hd
  · unfold dSym at hd
    split at hd
    · rename_i n m ex ey
      rw [ex] at h1
      rw [ey] at h2
      split at hd
      · rename_i v hv
        cases hd
        obtain ⟨v', g1, g2⟩ := hC.sym _ _ _ _ hv ty
        rw [h1.real, h2.real]
        refine done_of_run S.heap (v' := v') ?_ (g2 ρ)
        rw [Sem.run_bind, eqGuard_int]
        exact psem_run _ _ g1 w
      · cases hd
    unfold dNil at hd
    split at hd
    · rename_i b hb
      cases hd
      have hb' := eqNil_rel h1 h2 hb
      refine done_of_run S.heap (v' := .bool b) ?_ (.bool b)
      rw [Sem.run_bind, eqGuard_nil hb']
      exact (binOp_nil hb' w).1 rfl
    · rename_i b hb
      cases hd
      have hb' := eqNil_rel h1 h2 hb
      refine done_of_run S.heap (v' := .bool (!b)) ?_ (.bool _)
      rw [Sem.run_bind, eqGuard_nil hb']
      exact (binOp_nil hb' w).2 rfl
    · cases hd

theorem dyn_bin (hC : CfgOk σ C P) (S : Sim σ P ρ t h sz a w) (op : BinOp) (ty : TypeId) (x y : Operand) (hx : opdOk P x = true) (hy : opdOk P y = true) {did : Did} (hd : dBin P C.sym op ty (P.underlying ty) (opd x) (opd y) t h = some did) :
    OpDone σ P ρ h w did (do pure (.value (← (do eqGuard op ty x y (a.eval x) (a.eval y); binOp op ty (a.eval x) (a.eval y))))) := by
  unfold dBin dBinV at hd
  have h1 := S.ev x hx
  have h2 := S.ev y hy
  split at hd
  · rename_i p1 p2
    obtain ⟨v, hv, hp, rfl⟩ := dPlainV_some hd
    rw [← h1.plain p1, ← h2.plain p2] at hv
    refine done_of_run S.heap (v' := v) ?_ (.of_plain hp)
    rw [Sem.run_bind, eqGuard_plain (by rw [h1.plain p1]; exact p1)]
    exact psem_run _ _ hv w
  · exact dyn_agg hC S op ty x y h1 h2 hd

theorem run_eqIface {ty : TypeId} {ms : Array (String × TypeId)} (hu : P.underlying ty = some (.interface ms)) (w : World) : (Op.equal ty .nilIface .nilIface).run P w = .ok true w := by
  show (Op.equalIn (9999 + 1) ty .nilIface .nilIface).run P w = _
  unfold Op.equalIn
  rw [Sem.run_bind, run_underlying hu]
  rfl
theorem run_eqIface' {ty : TypeId} {ms : Array (String × TypeId)} (hu : P.underlying ty = some (.interface ms)) (tt : TypeId) (x : Value) (w : World) : (Op.equal ty (.iface tt x) .nilIface).run P w = .ok false w := by
  show (Op.equalIn (9999 + 1) ty (.iface tt x) .nilIface).run P w = _
  unfold Op.equalIn
  rw [Sem.run_bind, run_underlying hu]
  rfl
theorem run_guardConst {op : BinOp} {ty : TypeId} {x : Operand} {v a : Value} (ha : a = .nilIface ∨ ∃ t z, a = .iface t z) (w : World) : (eqGuard op ty x (.const v) a .nilIface).run P w = .ok () w := by
  unfold eqGuard
  rcases ha with rfl | ⟨t, z, rfl⟩
  · cases op <;> simp [Sem.run, pure]
  · cases op <;> simp [Sem.run, pure]

theorem dyn_nilI (S : Sim σ P ρ t h sz a w) {op : BinOp} {ty : TypeId} {n : Bool} {y : Operand} (hn : nilIface? P op ty y = some n) (x : Operand) (hx : opdOk P x = true) {did : Did} (hd : dNilI n (opd x) t h = some did) :
    OpDone σ P ρ h w did (do pure (.value (← (do eqGuard op ty x y (a.eval x) (a.eval y); binOp op ty (a.eval x) (a.eval y))))) := by
  have hr := S.ev x hx
  have key : ∃ b, did = .value (.bool (if b then !n else n)) h ∧ ((b = true ∧ a.eval x = .nilIface) ∨ (b = false ∧ ∃ t z, a.eval x = .iface t z)) := by
    unfold dNilI at hd
    split at hd
    · rename_i e
      rw [e] at hr
      cases hd
      refine ⟨true, rfl, .inl ⟨rfl, ?_⟩⟩
      generalize a.eval x = z at hr
      cases hr; rfl
    · rename_i e
      rw [e] at hr
      cases hd
      refine ⟨false, rfl, .inr ⟨rfl, ?_⟩⟩
      generalize a.eval x = z at hr
      cases hr; exact ⟨_, _, rfl⟩
    · cases hd
  obtain ⟨b, rfl, hb⟩ := key
  unfold nilIface? at hn
  split at hn
  · rename_i ms hu
    cases hn
    refine done_of_run S.heap (v' := .bool (if b then true else false)) ?_ (by cases b <;> exact .bool _)
    rcases hb with ⟨rfl, e⟩ | ⟨rfl, tt, z, e⟩ <;> rw [e, Sem.run_bind]
    · rw [show a.eval (.const .nilIface) = .nilIface from rfl, run_guardConst (.inl rfl)]
      show (Sem.bind (Op.equal ty .nilIface .nilIface) _).run P w = _
      exact (Sem.run_bind _ _ _ _).trans (by rw [run_eqIface hu]; rfl)
    · rw [show a.eval (.const .nilIface) = .nilIface from rfl, run_guardConst (.inr ⟨_, _, rfl⟩)]
      show (Sem.bind (Op.equal ty (.iface tt z) .nilIface) _).run P w = _
      exact (Sem.run_bind _ _ _ _).trans (by rw [run_eqIface' hu]; rfl)
  · rename_i ms hu
    cases hn
    refine done_of_run S.heap (v' := .bool (if b then false else true)) ?_ (by cases b <;> exact .bool _)
    rcases hb with ⟨rfl, e⟩ | ⟨rfl, tt, z, e⟩ <;> rw [e, Sem.run_bind]
    · rw [show a.eval (.const .nilIface) = .nilIface from rfl, run_guardConst (.inl rfl)]
      show (Sem.bind (Op.equal ty .nilIface .nilIface) _).run P w = _
      exact (Sem.run_bind _ _ _ _).trans (by rw [run_eqIface hu]; rfl)
    · rw [show a.eval (.const .nilIface) = .nilIface from rfl, run_guardConst (.inr ⟨_, _, rfl⟩)]
      show (Sem.bind (Op.equal ty (.iface tt z) .nilIface) _).run P w = _
      exact (Sem.run_bind _ _ _ _).trans (by rw [run_eqIface' hu]; rfl)
  · cases hn

theorem BoundR.of_opt (S : Sim σ P ρ t h sz a w) (x : Option Operand) (hx : ∀ y, x = some y → opdOk P y = true) : BoundR σ ρ ((x.map opd).map (evO t)) (x.map a.eval) := by
  cases x with
  | none => exact .inl ⟨rfl, rfl⟩
  | some y => exact .inr ⟨_, _, rfl, rfl, S.ev y (hx y rfl)⟩

theorem dTreeL_some {f : List Value → Sem Value} {l : List Value} {did : Did} (hd : dTreeL P f l h = some did) : allPlain l = true ∧ ∃ v h', asem P (f l) h = some (v, h') ∧ did = .value v h' := by
  unfold dTreeL at hd
  split at hd
  · rename_i e
    split at hd
    · rename_i v h' e2; cases hd; exact ⟨e, v, h', e2, rfl⟩
    · cases hd
  · cases hd

theorem semZip_rel {is : List Nat} {f : Array (Nat × Value) → Sem Value} (hf : ∀ ps ps' : Array (Nat × Value), LRel (fun (x y : Nat × Value) => x.1 = y.1 ∧ VRel σ ρ x.2 y.2) ps.toList ps'.toList → SRel σ P (VR σ) ρ (f ps) (f ps')) {l l' : List Value} (hl : VsRel σ ρ l l') :
    SRel σ P (VR σ) ρ (semZip is f l) (semZip is f l') := hf _ _ (by simpa using zip_rel is hl)

theorem zip_map (g : Operand → Value) (parts : Array (Nat × Operand)) : ((parts.toList.map (·.1)).zip ((parts.toList.map (·.2)).map g)).toArray = parts.map fun (i, x) => (i, g x) := by
  apply Array.toList_inj.1
  simp only [List.zip_map', List.map_map, Array.toList_map]
  induction parts.toList with
  | nil => rfl
  | cons x l ih => simp [ih]
end Go.Ri
namespace Go.Ri
variable {σ : Int → Int} {P : Program} {ρ : Ren} {C : Cfg} {t : T Value} {h : AH} {sz : Nat} {a : Act} {w : World}

theorem digits_size : ∀ (n t : Nat) (acc : Array Value), (Extern.BytealgMakeNoZero.digits n t acc).size = acc.size + n
  | 0, _, _ => rfl
  | n + 1, t, acc => by
    show (Extern.BytealgMakeNoZero.digits n (t / 256) (acc.push _)).size = _
    rw [digits_size n]; simp; omega

theorem resElem_some {f : FuncId} {e : Nat} (h : resElem P f = some e) : ∃ fn tt, P.funcs[f]? = some fn ∧ fn.resultTypes[0]? = some tt ∧ P.underlying tt = some (.slice e) ∧ sizeP P e = some 1 := by
  unfold resElem at h
  split at h
  · rename_i fn hf
    split at h
    · rename_i e' hu
      split at h
      · rename_i hs
        cases h
        cases ht : (fn.resultTypes[0]? : Option TypeId) with
        | none => rw [ht] at hu; cases hu
        | some tt => rw [ht] at hu; exact ⟨fn, tt, hf, ht, hu, hs⟩
      · cases h
    · cases h
  · cases h

theorem noZero_sound {e tt : Nat} {ps rs : Array TypeId} (ht : rs[0]? = some tt) (hu : P.underlying tt = some (.slice e)) (hs : sizeP P e = some 1) (H : HRel σ P ρ h w) {x x' : Value} (hx : VRel σ ρ x x') {did : Did} (hd : aNoZero e x h = some did) :
    OpDone σ P ρ h w did (do pure (.value (← Extern.BytealgMakeNoZero.makeNoZero ps rs #[x']))) := by
  unfold aNoZero at hd
  split at hd
  · rename_i n
    split at hd
    · rename_i h30 hroof
      cases hd
      have h30 := blt_true.1 h30
      have hroof := blt_true.1 hroof
      have ex : x' = .int .i64 (Int.ofNat n) := hx.int_small (by unfold small; omega)
      subst ex
      obtain ⟨c, w', hcap, hrun, hw', hos, hta, hou⟩ : ∃ (c : Array Value) (w' : World), n ≤ c.size ∧ (Extern.BytealgMakeNoZero.makeNoZero ps rs #[.int .i64 (Int.ofNat n)]).run P w = .ok (.slice (some ⟨w.heap.size, 0, none⟩) n c.size) w' ∧
          w'.heap = w.heap.push (.cells c e (0, 0)) ∧ w'.os = w.os ∧ w'.tape = w.tape ∧ w'.output = w.output := by
        have h0 : ¬ ((n : Int) < 0) := by omega
        have h48 : ¬ ((281474976710656 : Int) < (n : Int)) := by omega
        refine ⟨Extern.BytealgMakeNoZero.digits (grownCap w n 0 e) ((Question.extern "internal/bytealg.MakeNoZero.bytes" 0).cut (w.drew.tape w.drew.drawn (Question.extern "internal/bytealg.MakeNoZero.bytes" 0))) #[], w.drew.drew.alloc (.cells (Extern.BytealgMakeNoZero.digits (grownCap w n 0 e) ((Question.extern "internal/bytealg.MakeNoZero.bytes" 0).cut (w.drew.tape w.drew.drawn (Question.extern "internal/bytealg.MakeNoZero.bytes" 0))) #[]) e), ?_, ?_, rfl, rfl, rfl, rfl⟩
        · rw [digits_size]; unfold grownCap; simp only [Question.cut]; simp
        · show Sem.run P (do
              let some t := rs[0]? | stuck "bytealg.MakeNoZero: no result type"
              let .slice elem ← underlying t | stuck "bytealg.MakeNoZero: slice type expected"
              if (Int.ofNat n) < 0 || (Int.ofNat n) > 2 ^ 48 then runtimePanic (.error "makeslice: len out of range")
              let cap ← choose (.appendCap (Int.ofNat n).toNat 0 elem)
              askRoom cap
              let bytes ← choose (.extern "internal/bytealg.MakeNoZero.bytes" 0)
              let a ← newRow elem (Extern.BytealgMakeNoZero.digits cap bytes #[])
              pure (Value.slice (some a) (Int.ofNat n).toNat cap) : Sem Value) w = _
          simp [ht, run_underlying hu, h0, h48, Question.forced, newRow, grownCap, digits_size]
      have hsz : (P.info? e).map (·.size) = some 1 := hs
      obtain ⟨H', E'⟩ := H.freshWide (w' := w') (l := []) (c := c) (pre := []) (rest := c.toList) hroof rfl .nil hsz hw' hos hta hou
      refine ⟨_, w', _, by rw [Sem.run_bind, hrun]; rfl, E', H', ?_⟩
      refine .sl h.next 0 none ⟨w.heap.size, c.size, 1, true, none⟩ _ _ _ (by simp [Ren.add]) hcap (fun e => by (cases e)) (fun _ => ?_)
      simp
    · cases hd
  · cases hd

theorem done_bind_pure {did : Did} {α : Type} {x : α} {f : α → Sem Next} (h' : OpDone σ P ρ h w did (f x)) : OpDone σ P ρ h w did (do let d ← (pure x : Sem α); f d) := h'

theorem done_enter {f : FuncId} {l : List Value} {args' : Array Value} (H : HRel σ P ρ h w) (hl : VsRel σ ρ l args'.toList) {s : Sem Next} (hs : s.run P w = .ok (.enter f args') w) : OpDone σ P ρ h w (.enter f l.toArray h) s :=
  ⟨_, w, ρ, hs, .refl _ _ _, H, rfl, by simpa using hl⟩

theorem dApp_value {e k : Nat} {s x : Opd} {did : Did} (hd : dApp e k s x t h = some did) : ∃ v h', did = .value v h' ∧ aAppend e k (evO t s) (evO t x) h = some (.value v h') := by
  unfold dApp at hd
  cases did with
  | value v h' => exact ⟨v, h', rfl, hd⟩
  | enter f p h' =>
    exfalso
    unfold aAppend appIn appNew at hd
    (repeat' split at hd) <;> cases hd

theorem dStr_value {u : TypeId} {x y : Opd} {did : Did} (hd : dStr u x y t h = some did) : ∃ v h', did = .value v h' ∧ aUnsafeString u (evO t x) (evO t y) h = some (.value v h') := by
  unfold dStr at hd
  cases did with
  | value v h' => exact ⟨v, h', rfl, hd⟩
  | enter f p h' =>
    exfalso
    unfold aUnsafeString at hd
    (repeat' split at hd) <;> cases hd

theorem dyn_app (S : Sim σ P ρ t h sz a w) {ts : Array TypeId} {ty : TypeId} {e k : Nat} (T : AppTy P ts e k) (s x : Operand) (hs : opdOk P s = true) (hx : opdOk P x = true) {did : Did} (hd : dApp e k (opd s) (opd x) t h = some did) :
    OpDone σ P ρ h w did (do pure (.value (← Builtin.append_ ts ty #[a.eval s, a.eval x]))) := by
  obtain ⟨v, h', rfl, he⟩ := dApp_value hd
  obtain ⟨v', ρ', w', h1, h2, h3, h4⟩ := append_sound (ty := ty) T S.heap (S.ev s hs) (S.ev x hx) he
  exact ⟨.value v', w', ρ', by simp [h1], h4, h3, h2⟩

theorem dyn_str (S : Sim σ P ρ t h sz a w) {pt it ty u : TypeId} (hu : P.underlying pt = some (.pointer u)) (hc1 : P.cellsOf u = 1) (x y : Operand) (hx : opdOk P x = true) (hy : opdOk P y = true) {did : Did} (hd : dStr u (opd x) (opd y) t h = some did) :
    OpDone σ P ρ h w did (do pure (.value (← Builtin.unsafeString_ #[pt, it] ty #[a.eval x, a.eval y]))) := by
  obtain ⟨v, h', rfl, he⟩ := dStr_value hd
  obtain ⟨v', w', h1, h2, h3, h4⟩ := unsafeString_sound (it := it) (ty := ty) hu hc1 S.heap (S.ev x hx) (S.ev y hy) he
  exact ⟨.value v', w', ρ, by rw [Sem.run_bind, h1]; rfl, h4, h3, h2⟩

theorem dyn_sld (S : Sim σ P ρ t h sz a w) {ts : Array TypeId} {ty : TypeId} (x : Operand) (hx : opdOk P x = true) {did : Did} (hd : dSld (opd x) t h = some did) :
    OpDone σ P ρ h w did (do pure (.value (← Builtin.unsafeSliceData_ ts ty #[a.eval x]))) := by
  unfold dSld at hd
  have hr := S.ev x hx
  split at hd
  · rename_i e
    rw [e] at hr
    cases hd
    generalize a.eval x = y at hr ⊢
    cases hr
    exact done_of_run S.heap (v' := .pointer none) rfl .ptr0
  · rename_i ad n c e
    rw [e] at hr
    cases hd
    generalize a.eval x = y at hr ⊢
    cases hr with
    | sl id off sp p _ _ c' hp hcc hn hw =>
      refine done_of_run S.heap (v' := .pointer (some ⟨p.blk, off, sp⟩)) ?_ (.ptr id off sp p hp)
      have : c' ≠ 0 := by omega
      show Sem.run P (if c' ≠ 0 then pure (Value.pointer (some ⟨p.blk, off, sp⟩)) else _) w = _
      rw [if_pos this]
      rfl
  · cases hd

theorem dyn_cpy (S : Sim σ P ρ t h sz a w) {ts : Array TypeId} {ty : TypeId} (x y : Operand) (hx : opdOk P x = true) (hy : opdOk P y = true) {did : Did} (hd : dCpy P ts ty (opd x) (opd y) t h = some did) :
    OpDone σ P ρ h w did (do pure (.value (← Builtin.copy_ ts ty #[a.eval x, a.eval y]))) := by
  unfold dCpy dCpyV at hd
  split at hd
  · rename_i b n c e
    split at hd
    · rename_i hn
      split at hd
      · rename_i v h' he
        cases hd
        exact done_of_rel S.heap (SRel.copy' ts ty (fun b' n' c' e' => by rw [e] at e'; cases e'; exact blt_true.1 hn) (S.ev x hx) (S.ev y hy)) he
      · cases hd
    · cases hd
  · cases hd

theorem dyn_callv (hC : CfgOk σ C P) (S : Sim σ P ρ t h sz a w) (g : Operand) (args : Array Operand) (hg : opdOk P g = true) (ha : ∀ x, x ∈ args.toList → opdOk P x = true) {did : Did} (hd : dCallv P (opd g) (args.toList.map opd) t h = some did) :
    OpDone σ P ρ h w did (do let d ← Deferred.ofValue (a.eval g) (args.map a.eval); invoke d.target d.args) := by
  unfold dCallv at hd
  have hr := S.ev g hg
  split at hd
  · rename_i f p q e
    split at hd
    · rename_i hb
      cases hd
      rw [e] at hr
      have hev := S.evs args.toList ha
      generalize a.eval g = y at hr ⊢
      cases hr with
      | func f p q p' q' hp hq hpr hqr =>
        have h1 := VsRel.of_array hp hpr
        have h2 := VsRel.of_array hq hqr
        refine done_enter (args' := p' ++ args.map a.eval ++ q') S.heap ?_ ?_
        · simpa using h1.append (hev.append h2)
        · show (callFunc f (p' ++ args.map a.eval ++ q')).run P w = _
          exact run_callFunc_body hC hb _ _
    · cases hd
  · cases hd

theorem toArray_two {α : Type} {xs : Array α} {x y : α} (h : xs.toList = [x, y]) : xs = #[x, y] := Array.toList_inj.1 (by rw [h])
theorem toArray_one {α : Type} {xs : Array α} {x : α} (h : xs.toList = [x]) : xs = #[x] := Array.toList_inj.1 (by rw [h])

theorem dyn_call (hC : CfgOk σ C P) (S : Sim σ P ρ t h sz a w) (c : Call) (type : TypeId) (hall : ∀ x, x ∈ c.operands.toList → opdOk P x = true) {did : Did} (hd : dyn P (decCall C P type c) t h = some did) :
    OpDone σ P ρ h w did (do let d ← resolve a.eval c type; invoke d.target d.args) := by
  obtain ⟨callee, args, argTypes⟩ := c
  have hargs : ∀ x, x ∈ args.toList → opdOk P x = true := fun x hx => hall x (by simp [Call.operands]; exact .inr (by simpa using hx))
  unfold decCall at hd
  simp only at hd
  split at hd
  · -- len
    show OpDone σ P ρ h w did (do pure (.value (← Builtin.len_ argTypes type (args.map a.eval))))
    split at hd
    · rename_i x h0 hu
      split at hd
      · rename_i y hl
        have ea := toArray_one hl
        subst ea
        simp only [List.map_toArray, List.map_cons, List.map_nil]
        simp only [List.getElem?_toArray, List.getElem?_cons_zero, Option.some.injEq] at h0
        subst h0
        cases ht : (argTypes[0]? : Option TypeId) with
        | none => rw [ht] at hu; cases hu
        | some ct =>
          rw [ht] at hu
          exact dyn_len (ty := type) S ht hu (.inl ⟨rfl, rfl⟩) _ (hargs _ (by simp)) hd
      · cases hd
    · rename_i x e h0 hu
      split at hd
      · rename_i y hl
        have ea := toArray_one hl
        subst ea
        simp only [List.map_toArray, List.map_cons, List.map_nil]
        simp only [List.getElem?_toArray, List.getElem?_cons_zero, Option.some.injEq] at h0
        subst h0
        cases ht : (argTypes[0]? : Option TypeId) with
        | none => rw [ht] at hu; cases hu
        | some ct =>
          rw [ht] at hu
          exact dyn_len (ty := type) S ht hu (.inr ⟨rfl, _, rfl⟩) _ (hargs _ (by simp)) hd
      · cases hd
    · cases hd
  · -- append
    show OpDone σ P ρ h w did (do pure (.value (← Builtin.append_ argTypes type (args.map a.eval))))
    split at hd
    · cases hd
    · rename_i s x e d hnint hl hu0 hu1
      have ea := toArray_two hl
      subst ea
      simp only [List.map_toArray, List.map_cons, List.map_nil]
      split at hd
      · rename_i i hi
        split at hd
        · rename_i hb hz
          have hb := blt_true.1 hb
          obtain ⟨t0, ht0, hu0⟩ : ∃ t0, argTypes[0]? = some t0 ∧ P.underlying t0 = some (.slice e) := by
            cases ht : (argTypes[0]? : Option TypeId) with
            | none => rw [ht] at hu0; cases hu0
            | some ct => rw [ht] at hu0; exact ⟨ct, rfl, hu0⟩
          obtain ⟨t1, ht1, hu1⟩ : ∃ t1, argTypes[1]? = some t1 ∧ P.underlying t1 = some d := by
            cases ht : (argTypes[1]? : Option TypeId) with
            | none => rw [ht] at hu1; cases hu1
            | some ct => rw [ht] at hu1; exact ⟨ct, rfl, hu1⟩
          obtain ⟨z, hz1, hz2⟩ : ∃ z, i.zero = some z ∧ z.cells.size = i.size := by
            split at hz
            · rename_i z e1; exact ⟨z, e1, Nat.eq_of_beq_eq_true hz⟩
            · cases hz
          have T : AppTy P argTypes e i.size := ⟨⟨t0, ht0, hu0⟩, ⟨t1, d, ht1, hu1, hnint⟩, ⟨i, z, hi, rfl, hb, hz1, hz2⟩⟩
          exact dyn_app (ty := type) S T s x (hargs _ (by simp)) (hargs _ (by simp)) hd
        · cases hd
      · cases hd
    · cases hd
  · -- unsafe.String
    show OpDone σ P ρ h w did (do pure (.value (← Builtin.unsafeString_ argTypes type (args.map a.eval))))
    split at hd
    · rename_i x y pt it hl hlt
      have ea := toArray_two hl
      have et := toArray_two hlt
      subst ea; subst et
      simp only [List.map_toArray, List.map_cons, List.map_nil]
      split at hd
      · rename_i u hu
        split at hd
        · rename_i hc1
          exact dyn_str (ty := type) S hu (eqNat_true.1 hc1) x y (hargs _ (by simp)) (hargs _ (by simp)) hd
        · cases hd
      · cases hd
    · cases hd
  · -- copy
    show OpDone σ P ρ h w did (do pure (.value (← Builtin.copy_ argTypes type (args.map a.eval))))
    split at hd
    · rename_i x y hl
      have ea := toArray_two hl
      subst ea
      simp only [List.map_toArray, List.map_cons, List.map_nil]
      exact dyn_cpy S x y (hargs _ (by simp)) (hargs _ (by simp)) hd
    · cases hd
  · -- unsafe.SliceData
    show OpDone σ P ρ h w did (do pure (.value (← Builtin.unsafeSliceData_ argTypes type (args.map a.eval))))
    split at hd
    · rename_i x hl
      have ea := toArray_one hl
      subst ea
      simp only [List.map_toArray, List.map_cons, List.map_nil]
      exact dyn_sld S x (hargs _ (by simp)) hd
    · cases hd
  · -- min
    show OpDone σ P ρ h w did (do pure (.value (← Builtin.min_ argTypes type (args.map a.eval))))
    have := dyn_plain S (fun l => Builtin.min_ argTypes type l.toArray) args.toList hargs hd
    rw [show (args.toList.map a.eval).toArray = args.map a.eval from Array.toList_inj.1 (by simp)] at this
    exact this
  · -- max
    show OpDone σ P ρ h w did (do pure (.value (← Builtin.max_ argTypes type (args.map a.eval))))
    have := dyn_plain S (fun l => Builtin.max_ argTypes type l.toArray) args.toList hargs hd
    rw [show (args.toList.map a.eval).toArray = args.map a.eval from Array.toList_inj.1 (by simp)] at this
    exact this
  · cases hd
  · rename_i f
    have hres : (do let d ← resolve a.eval ⟨.value (.func f), args, argTypes⟩ type; invoke d.target d.args) = callFunc f (args.map a.eval) := by
      show callFunc f ((#[] : Array Value) ++ args.map a.eval ++ #[]) = _
      simp
    rw [hres]
    split at hd
    · rename_i hb
      simp only [dyn, dCall, Option.some.injEq] at hd
      subst hd
      exact done_enter S.heap (by simpa using S.evs args.toList hargs) (run_callFunc_body hC hb _ _)
    · rename_i hb hodd
      obtain ⟨fn, hf, hbn, hn, hfe⟩ := hC.noZero f hodd
      split at hd
      · rename_i e x he hl
        have ea := toArray_one hl
        subst ea
        simp only [List.map_toArray, List.map_cons, List.map_nil]
        obtain ⟨fn', tt, hf', h1, h2, h3⟩ := resElem_some he
        rw [hf] at hf'; cases hf'
        have := noZero_sound (ps := fn.params) h1 h2 h3 S.heap (S.ev x (hargs _ (by simp))) hd
        obtain ⟨n, w', ρ', g1, g2⟩ := this
        exact ⟨n, w', ρ', by rw [run_callFunc_ext hC hf hbn hn hfe]; exact g1, g2⟩
      · cases hd
    · rename_i e hb hodd
      obtain ⟨fn, hf, hbn, hn, hfe⟩ := hC.known f e hodd
      have := dyn_plain S (fun l => e l.toArray) args.toList hargs hd
      rw [show (args.toList.map a.eval).toArray = args.map a.eval from Array.toList_inj.1 (by simp)] at this
      obtain ⟨n, w', ρ', g1, g2⟩ := this
      exact ⟨n, w', ρ', by rw [run_callFunc_ext hC hf hbn hn hfe]; exact g1, g2⟩
    · cases hd
  · rename_i g _
    exact dyn_callv hC S g args (hall g (by simp [Call.operands])) hargs hd
  · cases hd
end Go.Ri
namespace Go.Ri
variable {σ : Int → Int} {P : Program} {ρ : Ren} {C : Cfg} {t : T Value} {h : AH} {sz : Nat} {a : Act} {w : World}

theorem dyn_alloc (hC : CfgOk σ C P) (S : Sim σ P ρ t h sz a w) (ty : TypeId) {did : Did} (hd : dTree P (fun _ => Instr.alloc ty true (.tuple #[])) [] t h = some did) :
    OpDone σ P ρ h w did (do pure (.value (← Instr.alloc ty true (.tuple #[])))) := by
  obtain ⟨v, h', he, rfl⟩ := dTree_some (f := fun _ => Instr.alloc ty true (.tuple #[])) (xs := []) hd
  exact done_of_rel S.heap (SRel.alloc' hC.zeros ty) he

theorem dyn_makeMap (S : Sim σ P ρ t h sz a w) (ty : TypeId) {did : Did} (hd : dTree P (fun _ => Instr.makeMap ty none) [] t h = some did) :
    OpDone σ P ρ h w did (do pure (.value (← Instr.makeMap ty none))) := by
  obtain ⟨v, h', he, rfl⟩ := dTree_some (f := fun _ => Instr.makeMap ty none) (xs := []) hd
  exact done_of_rel S.heap (SRel.makeMap' ty) he

theorem dyn_zip (S : Sim σ P ρ t h sz a w) (f : Array (Nat × Value) → Sem Value) (parts : Array (Nat × Operand)) (hall : ∀ x, x ∈ parts.toList.map (·.2) → opdOk P x = true)
    (hf : ∀ ps ps' : Array (Nat × Value), LRel (fun (x y : Nat × Value) => x.1 = y.1 ∧ VRel σ ρ x.2 y.2) ps.toList ps'.toList → SRel σ P (VR σ) ρ (f ps) (f ps'))
    {did : Did} (hd : dTree P (semZip (parts.toList.map (·.1)) f) (parts.toList.map fun p => opd p.2) t h = some did) :
    OpDone σ P ρ h w did (do pure (.value (← f (parts.map fun (i, x) => (i, a.eval x))))) := by
  obtain ⟨v, h', he, rfl⟩ := dTree_some (f := semZip (parts.toList.map (·.1)) f) (xs := parts.toList.map fun p => opd p.2) hd
  have hev := S.evs (parts.toList.map (·.2)) hall
  rw [List.map_map] at hev
  have := done_of_rel S.heap (semZip_rel (is := parts.toList.map (·.1)) hf hev) he
  unfold semZip at this
  rw [zip_map] at this
  exact this

theorem dyn_one (S : Sim σ P ρ t h sz a w) (f : Value → Sem Value) (x : Operand) (hx : opdOk P x = true) (hf : ∀ v v', VRel σ ρ v v' → SRel σ P (VR σ) ρ (f v) (f v'))
    {did : Did} (hd : dTree P (semOne f) [opd x] t h = some did) : OpDone σ P ρ h w did (do pure (.value (← f (a.eval x)))) := by
  obtain ⟨v, h', he, rfl⟩ := dTree_some (f := semOne f) (xs := [opd x]) hd
  exact done_of_rel S.heap (hf _ _ (S.ev x hx)) he

theorem dyn_store (S : Sim σ P ρ t h sz a w) (ty : TypeId) (x y : Operand) (hx : opdOk P x = true) (hy : opdOk P y = true)
    {did : Did} (hd : dUnit P (uTwo (Instr.storeAt ty)) [opd x, opd y] t h = some did) : OpDone σ P ρ h w did (do Instr.storeAt ty (a.eval x) (a.eval y); pure .skip) := by
  obtain ⟨h', he, rfl⟩ := dUnit_some (f := uTwo (Instr.storeAt ty)) (xs := [opd x, opd y]) hd
  exact done_unit S.heap (SRel.storeAt' ty (S.ev x hx) (S.ev y hy)) he

theorem asem_storeCells {a : Addr} : ∀ (l : List Value) (i : Nat) (h h' : AH), storeL a l i h = some h' → asem P (storeCells a l i) h = some ((), h')
  | [], i, h, h', e => by cases e; rfl
  | v :: l, i, h, h', e => by
    unfold storeL at e
    split at e
    · rename_i ho
      split at e
      · rename_i h1 hs
        have := asem_storeCells l (i + 1) h1 h' e
        show asem P ((store (a.add i) v).bind fun _ => storeCells a l (i + 1)) h = _
        simp only [store, Sem.bind, asem, ho, hs]
        exact this
      · cases e
    · cases e

theorem asem_store {ty n : TypeId} (hs : sizeP P ty = some n) {a : Addr} {v : Value} (ho : v.cells.size = n) {h h' : AH} (he : storeL a v.cells.toList 0 h = some h') : asem P (Instr.storeAt ty (.pointer (some a)) v) h = some ((), h') := by
  unfold sizeP at hs
  cases hi : P.info? ty with
  | none => rw [hi] at hs; cases hs
  | some i =>
    rw [hi] at hs
    simp only [Option.map_some, Option.some.injEq] at hs
    unfold Instr.storeAt Instr.sureAddr storeVar sizeOf typeInfo
    simp [program, bind, Sem.bind, asem, hi, hs, ho, pure]
    exact asem_storeCells _ _ _ _ he

theorem dyn_st (S : Sim σ P ρ t h sz a w) {ty n : TypeId} (hs : sizeP P ty = some n) (x y : Operand) (hx : opdOk P x = true) (hy : opdOk P y = true)
    {did : Did} (hd : dSt n (opd x) (opd y) t h = some did) : OpDone σ P ρ h w did (do Instr.storeAt ty (a.eval x) (a.eval y); pure .skip) := by
  have hr := S.ev x hx
  unfold dSt at hd
  split at hd
  · rename_i ad e
    unfold dStA at hd
    split at hd
    · rename_i ho
      split at hd
      · rename_i h' he
        cases hd
        rw [e] at hr
        exact done_unit S.heap (SRel.storeAt' ty hr (S.ev y hy)) (asem_store hs (Nat.eq_of_beq_eq_true ho) he)
      · cases hd
    · cases hd
  · cases hd

theorem dyn_makeSlice (hC : CfgOk σ C P) (S : Sim σ P ρ t h sz a w) (ty : TypeId) (l c : Operand) (hx : opdOk P l = true) (hy : opdOk P c = true)
    {did : Did} (hd : dTreeL P (semPair (Instr.makeSlice ty)) (evs t [opd l, opd c]) h = some did) : OpDone σ P ρ h w did (do pure (.value (← Instr.makeSlice ty (a.eval l) (a.eval c)))) := by
  obtain ⟨hp, v, h', he, rfl⟩ := dTreeL_some (f := semPair (Instr.makeSlice ty)) (l := evs t [opd l, opd c]) hd
  have hpl := S.evs_plain [l, c] (fun x hx => by simp at hx; rcases hx with rfl | rfl <;> assumption) hp
  simp only [List.map_cons, List.map_nil] at hpl
  rw [hpl] at he
  exact done_of_rel S.heap (SRel.makeSlice' hC.zeros ty _ _) he

theorem dyn_look (hC : CfgOk σ C P) (S : Sim σ P ρ t h sz a w) (ty : TypeId) (ok : Bool) (x k : Operand) (hx : opdOk P x = true) (hk : opdOk P k = true)
    {did : Did} (hd : dLook P ty ok (opd x) (opd k) t h = some did) : OpDone σ P ρ h w did (do pure (.value (← Instr.lookup ty (a.eval x) (a.eval k) ok))) := by
  unfold dLook dLookV at hd
  split at hd
  · rename_i hp
    split at hd
    · rename_i v h' he
      cases hd
      exact done_of_rel S.heap (SRel.lookup' hC.zeros ty ok (S.ev x hx) (S.ev k hk) hp) he
    · cases hd
  · cases hd

theorem dyn_upd (S : Sim σ P ρ t h sz a w) (ty : TypeId) (m k x : Operand) (hm : opdOk P m = true) (hk : opdOk P k = true) (hx : opdOk P x = true)
    {did : Did} (hd : dUpd P ty (opd m) (opd k) (opd x) t h = some did) : OpDone σ P ρ h w did (do Instr.mapUpdate ty (a.eval m) (a.eval k) (a.eval x); pure .skip) := by
  unfold dUpd dUpdV at hd
  split at hd
  · rename_i hp
    split at hd
    · rename_i u h' he
      cases hd
      exact done_unit S.heap (SRel.mapUpdate' ty (S.ev m hm) (S.ev k hk) (S.ev x hx) hp) he
    · cases hd
  · cases hd

theorem dyn_b2s (S : Sim σ P ρ t h sz a w) {s d e : TypeId} (hs : P.underlying s = some (.slice e)) (he : P.underlying e = some (.int .u8)) (hdd : P.underlying d = some .string) (x : Operand) (hx : opdOk P x = true)
    {did : Did} (hd : dB2s (opd x) t h = some did) : OpDone σ P ρ h w did (do pure (.value (← convert s d (a.eval x)))) := by
  unfold dB2s at hd
  cases did with
  | value v h' =>
    obtain ⟨rfl, h1, h2⟩ := bytes_sound hs he hdd S.heap (S.ev x hx) hd
    exact done_of_run S.heap h1 h2
  | enter f p h' => unfold aBytes at hd; (repeat' split at hd) <;> cases hd

theorem maxOk_ne {hi mx : Option Operand} (h : maxOk hi mx = true) (t : T Value) : (mx.map opd).map (evO t) ≠ none → (hi.map opd).map (evO t) ≠ none := by
  cases mx <;> cases hi <;> simp_all [maxOk]

theorem sliceAt_of_slice {ty : TypeId} {x v : Value} {lo hi mx : Option Value} {w w' : World} (h : (Instr.slice ty x lo hi mx).run P w = .ok v w') : (Instr.sliceAt ty x lo hi mx).run P w = .ok v w' := by
  cases hu : P.underlying ty with
  | none => 
    have : (underlying ty).run P w = (stuck "no such type" : Sem TypeDesc).run P w := by
      unfold underlying
      simp [program, bind, Sem.bind, Sem.run, hu]
    unfold Instr.slice at h
    rw [Sem.run_bind, this] at h
    cases h
  | some d =>
    cases d with
    | array n e =>
      unfold Instr.slice at h
      rw [Sem.run_bind, run_underlying hu] at h
      simp at h
    | _ =>
      unfold Instr.sliceAt
      rw [Sem.run_bind, run_underlying hu]
      exact h

theorem dyn_slice (S : Sim σ P ρ t h sz a w) (ty : TypeId) (x : Operand) (lo hi mx : Option Operand) (hx : opdOk P x = true) (hlo : ∀ y, lo = some y → opdOk P y = true) (hhi : ∀ y, hi = some y → opdOk P y = true)
    (hmx : ∀ y, mx = some y → opdOk P y = true) {did : Did} {o : Oper} (ho : o.op = .slice ty x lo hi mx) (hd : dyn P (decodeOp C P o) t h = some did) :
    OpDone σ P ρ h w did (do pure (.value (← Instr.sliceAt ty (a.eval x) (lo.map a.eval) (hi.map a.eval) (mx.map a.eval)))) := by
  unfold decodeOp at hd
  rw [ho] at hd
  simp only at hd
  have hr := S.ev x hx
  have bl := BoundR.of_opt S lo hlo
  have bh := BoundR.of_opt S hi hhi
  have bm := BoundR.of_opt S mx hmx
  split at hd
  · rename_i e k hi' hmo
    simp only [dyn, dSl] at hd
    split at hd
    · rename_i v hv
      cases hd
      obtain ⟨v', h1, h2⟩ := slice_sound hi' S.heap hr bl bh bm (maxOk_ne hmo t) hv
      exact done_of_run S.heap h1 h2
    · cases hd
  · rename_i e k len hi' hmo
    simp only [dyn, dSla] at hd
    split at hd
    · rename_i ad e1
      unfold dSlaA at hd
      split at hd
      · rename_i hb
        split at hd
        · rename_i v hv
          cases hd
          rw [e1] at hr
          obtain ⟨v', h1, h2⟩ := sla_sound hi' S.heap hr hb bl bh bm (maxOk_ne hmo t) hv
          exact done_of_run S.heap h1 h2
        · cases hd
      · cases hd
    · cases hd
  · cases hd
  · split at hd
    · rename_i _ hno
      have hall : ∀ y, y ∈ x :: (lo.toList ++ hi.toList) → opdOk P y = true := by
        intro y hy
        simp only [List.mem_cons, List.mem_append, Option.mem_toList] at hy
        rcases hy with rfl | hy | hy
        · exact hx
        · exact hlo y hy
        · exact hhi y hy
      cases lo <;> cases hi <;> (
        have hp := dyn_plain (did := did) S _ _ hall (by simpa [dyn] using hd)
        obtain ⟨n, w', ρ', g1, g2⟩ := hp
        refine ⟨n, w', ρ', ?_, g2⟩
        simp only [Option.toList, List.append_nil, List.nil_append, List.cons_append, List.map_cons, List.map_nil] at g1
        rw [Sem.run_bind] at g1 ⊢
        generalize hs : (Instr.slice ty _ _ _ _).run P w = r at g1
        cases r with
        | halt => cases g1
        | ok v w1 => simp only [Option.map_none, Option.map_some]; rw [sliceAt_of_slice hs]; exact g1)
    · cases hd


theorem dyn_sound (hC : CfgOk σ C P) (S : Sim σ P ρ t h sz a w) (o : Oper) {did : Did} (hd : dyn P (decode C P o) t h = some did) : OpDone σ P ρ h w did (execOp a.eval o) := by
  unfold decode at hd
  split at hd
  case h_2 => cases hd
  rename_i hall
  have hall : ∀ x, x ∈ o.op.operands.toList → opdOk P x = true := List.all_eq_true.1 hall
  obtain ⟨dst, op, type, pos, after, guard⟩ := o
  cases op with
  | move x =>
    simp only [decodeOp, dyn, Option.some.injEq] at hd
    subst hd
    exact dyn_move S x (hall x (by simp [Op.operands]))
  | assign x =>
    simp only [decodeOp, dyn, Option.some.injEq] at hd
    subst hd
    exact dyn_move S x (hall x (by simp [Op.operands]))
  | pick c x y =>
    exact dyn_pick S c x y (hall c (by simp [Op.operands])) (hall x (by simp [Op.operands])) (hall y (by simp [Op.operands])) hd
  | fieldAddr s x f =>
    simp only [decodeOp] at hd
    split at hd
    · rename_i off hf
      exact dyn_field S hf x (hall x (by simp [Op.operands])) hd
    · cases hd
  | indexAddr ty x i =>
    simp only [decodeOp] at hd
    split at hd
    · rename_i e k hi
      exact dyn_ixs S hi x i (hall x (by simp [Op.operands])) (hall i (by simp [Op.operands])) hd
    · rename_i e k len hi
      exact dyn_ixa S hi x i (hall x (by simp [Op.operands])) (hall i (by simp [Op.operands])) hd
    · cases hd
  | nilCheck x =>
    exact dyn_nc S x (hall x (by simp [Op.operands])) hd _ rfl
  | extract x i =>
    exact dyn_extract S i x (hall x (by simp [Op.operands])) hd
  | makeFunc fn p q =>
    cases fn with
    | func f =>
      simp only [decodeOp, dyn, dMf, Option.some.injEq] at hd
      subst hd
      exact dyn_mf S f p q (fun x hx => hall x (by simp [Op.operands] at hx ⊢; exact .inl hx)) (fun x hx => hall x (by simp [Op.operands] at hx ⊢; exact .inr hx))
    | _ => simp [decodeOp, dyn] at hd
  | load ty x =>
    have hx := hall x (by simp [Op.operands])
    simp only [decodeOp] at hd
    split at hd
    · rename_i hi
      exact dyn_ld S hi x hx hd
    · exact dyn_one S (Instr.loadAt ty) x hx (fun v v' hv => SRel.loadAt' ty hv) hd
  | store ty x y =>
    simp only [decodeOp] at hd
    split at hd
    · rename_i hs
      exact dyn_st S hs x y (hall x (by simp [Op.operands])) (hall y (by simp [Op.operands])) hd
    · cases hd
  | alloc ty => exact dyn_alloc hC S ty hd
  | box ty x => exact dyn_one S (Instr.box ty) x (hall x (by simp [Op.operands])) (fun v v' hv => SRel.box' ty hv) hd
  | build ty parts =>
    simp only [decodeOp] at hd
    split at hd
    · rename_i hpo
      exact dyn_zip S (Instr.build ty) parts (fun x hx => hall x (by simpa [Op.operands] using hx)) (fun ps ps' hps => SRel.build' hC.zeros ty hpo hps) hd
    · cases hd
  | buildSlice ty n parts =>
    exact dyn_zip S (Instr.buildSlice ty n) parts (fun x hx => hall x (by simpa [Op.operands] using hx)) (fun ps ps' hps => SRel.buildSlice' hC.zeros ty n hps) hd
  | makeMap ty r =>
    cases r with
    | none => exact dyn_makeMap S ty hd
    | some r => simp [decodeOp, dyn] at hd
  | makeSlice ty l c => exact dyn_makeSlice hC S ty l c (hall l (by simp [Op.operands])) (hall c (by simp [Op.operands])) hd
  | field ty x f => exact dyn_one S (fun v => Instr.field ty v f) x (hall x (by simp [Op.operands])) (fun v v' hv => SRel.field' ty f hv) hd
  | lookup ty x k ok => exact dyn_look hC S ty ok x k (hall x (by simp [Op.operands])) (hall k (by simp [Op.operands])) hd
  | mapUpdate ty m k x => exact dyn_upd S ty m k x (hall m (by simp [Op.operands])) (hall k (by simp [Op.operands])) (hall x (by simp [Op.operands])) hd
  | slice ty x lo hi mx =>
    exact dyn_slice (o := ⟨dst, .slice ty x lo hi mx, type, pos, after, guard⟩) S ty x lo hi mx (hall x (by simp [Op.operands])) (fun y e => hall y (by simp [Op.operands, e])) (fun y e => hall y (by simp [Op.operands, e])) (fun y e => hall y (by simp [Op.operands, e])) rfl hd
  | binOp op ty x y yt =>
    simp only [decodeOp] at hd
    split at hd
    · rename_i hn
      exact dyn_nilI S hn x (hall x (by simp [Op.operands])) hd
    · exact dyn_bin hC S op ty x y (hall x (by simp [Op.operands])) (hall y (by simp [Op.operands])) hd
  | unOp op ty x =>
    exact dyn_plain S _ [x] (fun y hy => hall y (by simpa [Op.operands] using hy)) hd
  | convert s d x =>
    simp only [decodeOp] at hd
    split at hd
    · rename_i e hs hdd
      split at hd
      · rename_i he
        exact dyn_b2s S hs he hdd x (hall x (by simp [Op.operands])) hd
      · cases hd
    · cases hd
    · exact dyn_plain S _ [x] (fun y hy => hall y (by simpa [Op.operands] using hy)) hd
  | index ty x i =>
    exact dyn_plain S _ [x, i] (fun y hy => hall y (by simpa [Op.operands] using hy)) hd
  | call c =>
    exact dyn_call hC S c type (fun x hx => hall x (by simpa [Op.operands] using hx)) hd
  | _ => simp [decodeOp, dyn] at hd
end Go.Ri
namespace Go.Ri
variable {σ : Int → Int} {P : Program} {C : Cfg} {β : Type}

/-! ### What is the same in operands is the same -/
theorem evs_congr {t t' : T Value} : ∀ (xs : List Opd), (∀ x, x ∈ xs → evO t x = evO t' x) → evs t xs = evs t' xs
  | [], _ => rfl
  | x :: xs, h => by
    show evO t x :: evs t xs = evO t' x :: evs t' xs
    rw [h x (by simp), evs_congr xs fun y hy => h y (by simp [hy])]
theorem map_congr_opt {t t' : T Value} (x : Option Opd) (h : ∀ y, x = some y → evO t y = evO t' y) : x.map (evO t) = x.map (evO t') := by
  cases x with
  | none => rfl
  | some y => simp [h y rfl]

theorem dyn_congr {t t' : T Value} {h : AH} (o : AOp) (hh : ∀ x, x ∈ o.opds → evO t x = evO t' x) : dyn P o t h = dyn P o t' h := by
  cases o <;> simp only [AOp.opds, List.mem_cons, List.not_mem_nil, or_false, List.mem_append, Option.mem_toList, forall_eq_or_imp, forall_eq] at hh
  case bad => rfl
  case mv x => simp only [dyn, hh]
  case pk c a b => simp only [dyn, dPk, hh.1, hh.2.1, hh.2.2]
  case fa off x => simp only [dyn, dFa, hh]
  case ixs sz x i => simp only [dyn, dIxs, hh.1, hh.2]
  case ixa sz len x i => simp only [dyn, dIxa, hh.1, hh.2]
  case nc x => simp only [dyn, dNc, hh]
  case ex i x => simp only [dyn, dEx, hh]
  case mf f a b => simp only [dyn, dMf, evs_congr a fun x hx => hh x (.inl hx), evs_congr b fun x hx => hh x (.inr hx)]
  case ld x => simp only [dyn, dLd, hh]
  case st n x y => simp only [dyn, dSt, hh.1, hh.2]
  case tree f xs => simp only [dyn, dTree, evs_congr xs hh]
  case unit f xs => simp only [dyn, dUnit, evs_congr xs hh]
  case ptree f xs => simp only [dyn, evs_congr xs hh]
  case look ty ok x k => simp only [dyn, dLook, hh.1, hh.2]
  case upd ty m k x => simp only [dyn, dUpd, hh.1, hh.2.1, hh.2.2]
  case plain f xs => simp only [dyn, dPlain, evs_congr xs hh]
  case sl e sz x lo hi mx =>
    simp only [dyn, dSl, hh.1, map_congr_opt lo fun y e => hh.2 y (.inl e), map_congr_opt hi fun y e => hh.2 y (.inr (.inl e)), map_congr_opt mx fun y e => hh.2 y (.inr (.inr e))]
  case sla sz len x lo hi mx =>
    simp only [dyn, dSla, hh.1, map_congr_opt lo fun y e => hh.2 y (.inl e), map_congr_opt hi fun y e => hh.2 y (.inr (.inl e)), map_congr_opt mx fun y e => hh.2 y (.inr (.inr e))]
  case bin sm op ty d x y => simp only [dyn, dBin, hh.1, hh.2]
  case nilI n x => simp only [dyn, dNilI, hh]
  case len str x => simp only [dyn, dLen, hh]
  case app e sz s x => simp only [dyn, dApp, hh.1, hh.2]
  case str u x y => simp only [dyn, dStr, hh.1, hh.2]
  case sld x => simp only [dyn, dSld, hh]
  case b2s x => simp only [dyn, dB2s, hh]
  case cpy ts ty x y => simp only [dyn, dCpy, hh.1, hh.2]
  case noZero e x => simp only [dyn, dNoZero, hh]
  case call f xs => simp only [dyn, dCall, evs_congr xs hh]
  case callv g xs => simp only [dyn, dCallv, hh.1, evs_congr xs hh.2]

theorem evO_congr {t t' : T Value} (x : Opd) (h : ∀ p, x = .at p → getP t p = getP t' p) : evO t x = evO t' x := by
  cases x with
  | «at» p => exact h p rfl
  | val v => rfl
theorem posL_mem {p : Pos} : ∀ {l : List Opd}, Opd.at p ∈ l → p ∈ posL l
  | .at q :: l, h => by
    simp only [List.mem_cons, Opd.at.injEq] at h
    rcases h with rfl | h
    · simp [posL]
    · simp [posL, posL_mem h]
  | .val v :: l, h => by
    simp only [List.mem_cons, reduceCtorEq, false_or] at h
    exact posL_mem (l := l) h

/-- Two frames show an operation the same. -/
def Alike (d : DOp) (t t' : T Value) : Prop := ∀ p, p ∈ d.reads → getP t p = getP t' p
theorem Alike.dyn {g : Option (Option Pos × Bool)} {d : Option Pos} {o : AOp} {t t' : T Value} (hA : Alike (.mk g d o) t t') (h : AH) : dyn P o t h = dyn P o t' h :=
  dyn_congr o fun x hx => evO_congr x fun p e => hA p (by
    subst e
    have := posL_mem hx
    show p ∈ (match g with | some (some p, _) => p :: posL o.opds | _ => posL o.opds)
    split
    · exact List.mem_cons_of_mem _ this
    · exact this)
theorem Alike.evs {g : Option (Option Pos × Bool)} {d : Option Pos} {o : AOp} {t t' : T Value} (hA : Alike (.mk g d o) t t') : ∀ x, x ∈ o.opds → evO t x = evO t' x :=
  fun x hx => evO_congr x fun p e => hA p (by
    subst e
    have := posL_mem hx
    show p ∈ (match g with | some (some p, _) => p :: posL o.opds | _ => posL o.opds)
    split
    · exact List.mem_cons_of_mem _ this
    · exact this)
theorem Alike.wanted {g : Option (Option Pos × Bool)} {d : Option Pos} {o : AOp} {t t' : T Value} (hA : Alike (.mk g d o) t t') : wantedA g t = wantedA g t' := by
  unfold wantedA
  split
  · rfl
  · rfl
  · rename_i p w
    rw [hA p (by simp [DOp.reads])]

/-! ### Guards -/
theorem VRel.not_bool {ρ : Ren} {v : Value} {b : Bool} (h : VRel σ ρ v (.bool b)) : v = .bool b := by cases h; rfl

theorem guardIs_true {v : Value} {w : Bool} : guardIs v w = true ↔ v = .bool w := by
  unfold guardIs
  split
  · rename_i b
    cases b <;> cases w <;> simp
  · rename_i h
    simp only [Bool.false_eq_true, false_iff]
    exact fun e => h _ e

theorem dstOk_some {sz d : Nat} (h : dstOk sz (some d) = true) : d < sz ∧ d < roof := by
  unfold dstOk at h
  split at h
  · cases ‹some d = none›
  · rename_i d' h'
    cases h'
    split at h
    · rename_i h1; exact ⟨blt_true.1 h1, blt_true.1 h⟩
    · cases h

theorem wanted_iff {ρ : Ren} {t : T Value} {h : AH} {sz : Nat} {a : Act} {w : World} (S : Sim σ P ρ t h sz a w) {ops : Array Oper} {o : Oper} (hg : guardOk sz ops o = true) :
    wantedA (match o.guard with
      | none => none
      | some (j, w) => some ((((ops[j]?).bind (·.dst)).map (posOf 40)), w)) t = Region.wanted o (yielded ops a.tmps) := by
  unfold Region.wanted
  unfold guardOk at hg
  cases e : o.guard with
  | none => rfl
  | some gw =>
    obtain ⟨j, want⟩ := gw
    rw [e] at hg
    simp only at hg ⊢
    cases ed : ((ops[j]?).bind (·.dst) : Option Tmp) with
    | none => rw [ed] at hg; cases hg
    | some d =>
      rw [ed] at hg
      obtain ⟨h1, h2⟩ := dstOk_some hg
      simp only [Option.map_some, wantedA]
      have hr := S.tm d h2
      have hsz : d < a.tmps.size := by rw [S.size]; exact h1
      have hy : yielded ops a.tmps j = match a.tmps.getD d undef with | .bool b => some b | _ => none := by
        unfold yielded
        rw [ed]
        simp only [Option.bind_some, Array.getD_eq_getD_getElem?, Array.getElem?_eq_getElem hsz, Option.getD_some]
        cases a.tmps[d] <;> rfl
      rw [hy]
      by_cases hb : getP t (posOf 40 d) = .bool want
      · rw [guardIs_true.2 hb]
        rw [hb] at hr
        rw [hr.plain rfl]
        simp
      · have h3 : guardIs (getP t (posOf 40 d)) want = false := by
          cases e : guardIs (getP t (posOf 40 d)) want with
          | false => rfl
          | true => exact absurd (guardIs_true.1 e) hb
        rw [h3]
        split
        · rename_i b hbb
          rw [hbb] at hr
          have := hr.not_bool
          rw [this] at hb
          symm
          rw [beq_eq_false_iff_ne]
          intro e
          cases e
          exact hb rfl
        · rfl

/-! ### Calls -/
def GlobOk (P : Program) (ρ : Ren) : Prop := ∀ g, g < P.globals.size → ∃ p, ρ g = some p ∧ p.blk = g

def CallOk (σ : Int → Int) (P : Program) (f : FuncId) (args : List Value) (h : AH) (v : Value) (h' : AH) : Prop :=
  ∀ (ρ : Ren) (w : World) (args' : Array Value), VsRel σ ρ args args'.toList → HRel σ P ρ h w → GlobOk P ρ →
    Calls P f args' w fun e w' => ∃ v' ρ', e = .returned v' ∧ Ext ρ h w ρ' h' w' ∧ HRel σ P ρ' h' w' ∧ VRel σ ρ' v v'

def CallerOk (σ : Int → Int) (P : Program) (call : Caller β) : Prop :=
  ∀ f args h k r, call f args h k = some r → ∃ v h', k v h' = some r ∧ CallOk σ P f args.toList h v h'

noncomputable def putT (d : Option Pos) (v : Value) (t : T Value) : T Value := match d with
  | none => t
  | some p => setP v p t
theorem putA_eq (d : Option Pos) (v : Value) (next : K β) (t : T Value) (h : AH) : putA d v next t h = next (putT d v t) h := by cases d <;> rfl

theorem Sim.putT {ρ ρ' : Ren} {t : T Value} {h h' : AH} {sz : Nat} {a : Act} {w w' : World} (S : Sim σ P ρ t h sz a w) (hle : Le ρ ρ') (H : HRel σ P ρ' h' w') {d : Option Tmp} {v v' : Value} (hd : dstOk sz d = true) (hv : VRel σ ρ' v v') :
    Sim σ P ρ' (putT (d.map (posOf 40)) v t) h' sz (a.put d v') w' := by
  cases d with
  | none => exact S.step hle H
  | some d => exact S.put hle H (dstOk_some hd).1 hv

/-- What an operation does, wherever it stands in its region. -/
def OpOk (σ : Int → Int) (P : Program) (ops : Array Oper) (i sz : Nat) (t : T Value) (h : AH) (t' : T Value) (h' : AH) : Prop :=
  ∀ (ρ : Ren) (a : Act) (w : World), Sim σ P ρ t h sz a w → ∀ (Q : Exit → Act → World → Prop) (K : Act → World → Prop),
    (∀ ρ' a' w', Sim σ P ρ' t' h' sz a' w' → Ext ρ h w ρ' h' w' → K a' w') → wpOp P ops Q i K a w

theorem decOp_good {sz : Nat} {ops : Array Oper} {o : Oper} : (dstOk sz o.dst = true ∧ guardOk sz ops o = true ∧ decOp C P sz ops o = .mk (match o.guard with
      | none => none
      | some (j, w) => some ((((ops[j]?).bind (·.dst)).map (posOf 40)), w)) (o.dst.map (posOf 40)) (decode C P o)) ∨ decOp C P sz ops o = .mk none none .bad := by
  unfold decOp
  split
  · exact .inl ⟨‹_›, ‹_›, rfl⟩
  · exact .inr rfl

theorem opOk_skip {ops : Array Oper} {i : Nat} {o : Oper} (ho : ops[i]? = some o) {sz : Nat} {t : T Value} {h : AH} (hd : dstOk sz o.dst = true) (hg : guardOk sz ops o = true)
    (hw : wantedA (match o.guard with
      | none => none
      | some (j, w) => some ((((ops[j]?).bind (·.dst)).map (posOf 40)), w)) t = false) : OpOk σ P ops i sz t h (putT (o.dst.map (posOf 40)) undef t) h := by
  intro ρ a w S Q K hK
  rw [wanted_iff S hg] at hw
  unfold wpOp
  simp only [ho, hw, Bool.false_eq_true, if_false]
  exact hK ρ _ w (S.putT (.refl _) S.heap hd .undef) (.refl _ _ _)

theorem opOk_do (hC : CfgOk σ C P) {ops : Array Oper} {i : Nat} {o : Oper} (ho : ops[i]? = some o) {sz : Nat} {t : T Value} {h h' : AH} {v : Value} (hd : dstOk sz o.dst = true) (hg : guardOk sz ops o = true)
    (hw : wantedA (match o.guard with
      | none => none
      | some (j, w) => some ((((ops[j]?).bind (·.dst)).map (posOf 40)), w)) t = true)
    (hv : dyn P (decode C P o) t h = some (.value v h') ∨ ∃ f args h₁, dyn P (decode C P o) t h = some (.enter f args h₁) ∧ CallOk σ P f args.toList h₁ v h') :
    OpOk σ P ops i sz t h (putT (o.dst.map (posOf 40)) v t) h' := by
  intro ρ a w S Q K hK
  rw [wanted_iff S hg] at hw
  unfold wpOp
  simp only [ho, hw, if_true]
  refine .inl ?_
  unfold Oper.wp
  rcases hv with hv | ⟨f, args, h₁, hv, hcall⟩
  · obtain ⟨n, w', ρ', h1, h2, h3, h4⟩ := dyn_sound hC S o hv
    rw [h1]
    cases n with
    | value v' => exact hK ρ' _ w' (S.putT h2.le h3 hd h4) h2
    | skip =>
      have e : v = undef := h4
      subst e
      exact hK ρ' _ w' (S.putT h2.le h3 hd .undef) h2
    | _ => exact h4.elim
  · obtain ⟨n, w', ρ', h1, h2, h3, h4⟩ := dyn_sound hC S o hv
    rw [h1]
    cases n with
    | enter f' args' =>
      obtain ⟨rfl, hargs⟩ := h4
      have hg' : GlobOk P ρ' := fun g hg => by obtain ⟨p, hp, e⟩ := S.glob g hg; exact ⟨p, h2.le _ _ hp, e⟩
      refine Calls.mono (hcall ρ' w' args' hargs h3 hg') ?_
      rintro e w'' ⟨v', ρ'', rfl, k1, k2, k3⟩
      exact hK ρ'' _ w'' (S.putT (h2.le.trans k1.le) k2 hd k3) (h2.trans k1)
    | _ => exact h4.elim

theorem runOp_sound (hC : CfgOk σ C P) {call : Caller β} (hcall : CallerOk σ P call) {ops : Array Oper} {i : Nat} {o : Oper} (ho : ops[i]? = some o) {sz : Nat} {next : K β} {t : T Value} {h : AH} {r : β}
    (hr : runOp P call next (decOp C P sz ops o) t h = some r) :
    ∃ v h', next (putT (dstD (decOp C P sz ops o)) v t) h' = some r ∧ ∀ t₁, Alike (decOp C P sz ops o) t₁ t → OpOk σ P ops i sz t₁ h (putT (dstD (decOp C P sz ops o)) v t₁) h' := by
  rcases decOp_good (C := C) (P := P) (sz := sz) (ops := ops) (o := o) with ⟨hd, hg, e⟩ | e
  · rw [e] at hr ⊢
    simp only [dstD]
    have hr' : @Bool.rec (fun _ => Option β) (putA (o.dst.map (posOf 40)) undef next t h) (doOp P call (o.dst.map (posOf 40)) (decode C P o) next t h) (wantedA (match o.guard with
      | none => none
      | some (j, w) => some ((((ops[j]?).bind (·.dst)).map (posOf 40)), w)) t) = some r := hr
    cases hw : wantedA (match o.guard with
      | none => none
      | some (j, w) => some ((((ops[j]?).bind (·.dst)).map (posOf 40)), w)) t with
    | false =>
      rw [hw] at hr'
      rw [putA_eq] at hr'
      exact ⟨undef, h, hr', fun t₁ hA => opOk_skip ho hd hg (by rw [hA.wanted]; exact hw)⟩
    | true =>
      rw [hw] at hr'
      have hr2 : doOp P call (o.dst.map (posOf 40)) (decode C P o) next t h = some r := hr'
      unfold doOp at hr2
      cases hdy : dyn P (decode C P o) t h with
      | none => rw [hdy] at hr2; cases hr2
      | some did =>
        rw [hdy] at hr2
        cases did with
        | value v h' =>
          have hr3 : putA (o.dst.map (posOf 40)) v next t h' = some r := hr2
          rw [putA_eq] at hr3
          exact ⟨v, h', hr3, fun t₁ hA => opOk_do hC ho hd hg (by rw [hA.wanted]; exact hw) (.inl (by rw [hA.dyn]; exact hdy))⟩
        | enter f args h₁ =>
          have hr3 : call f args h₁ (fun v h'' => putA (o.dst.map (posOf 40)) v next t h'') = some r := hr2
          obtain ⟨v, h', hk, hok⟩ := hcall _ _ _ _ _ hr3
          rw [putA_eq] at hk
          exact ⟨v, h', hk, fun t₁ hA => opOk_do hC ho hd hg (by rw [hA.wanted]; exact hw) (.inr ⟨f, args, h₁, by rw [hA.dyn]; exact hdy, hok⟩)⟩
  · rw [e] at hr
    cases hr

/-! ### Regions in text order -/
def Done (σ : Int → Int) (P : Program) (ρ : Ren) (h : AH) (w : World) (sz : Nat) (t' : T Value) (h' : AH) (a' : Act) (w' : World) : Prop := ∃ ρ', Sim σ P ρ' t' h' sz a' w' ∧ Ext ρ h w ρ' h' w'

theorem runOps_sound (hC : CfgOk σ C P) {call : Caller β} (hcall : CallerOk σ P call) {ops : Array Oper} {sz : Nat} {next : K β} {r : β} : ∀ (l : List Oper) (k : Nat), (∀ j o, l[j]? = some o → ops[k + j]? = some o) → ∀ (t : T Value) (h : AH),
    runOps P call next (l.map (decOp C P sz ops)) t h = some r →
    ∃ t' h', next t' h' = some r ∧ ∀ (ρ : Ren) (a : Act) (w : World), Sim σ P ρ t h sz a w → ∀ (Q : Exit → Act → World → Prop), (∀ a' w', Done σ P ρ h w sz t' h' a' w' → Q .normal a' w') → wpOps P ops Q (List.range' k l.length) a w
  | [], k, _, t, h, hr => ⟨t, h, hr, fun ρ a w S Q hQ => hQ a w ⟨ρ, S, .refl _ _ _⟩⟩
  | o :: l, k, hl, t, h, hr => by
    have ho : ops[k]? = some o := by simpa using hl 0 o (by simp)
    have hr' : runOp P call (runOps P call next (l.map (decOp C P sz ops))) (decOp C P sz ops o) t h = some r := hr
    obtain ⟨v, h₁, h1, h2⟩ := runOp_sound hC hcall ho hr'
    obtain ⟨t', h', h3, h4⟩ := runOps_sound hC hcall l (k + 1) (fun j o' hj => by rw [show k + 1 + j = k + (j + 1) by omega]; exact hl (j + 1) o' (by simpa using hj)) _ _ h1
    refine ⟨t', h', h3, fun ρ a w S Q hQ => ?_⟩
    rw [show List.range' k (o :: l).length = k :: List.range' (k + 1) l.length by simp [List.range'_succ], wpOps_cons]
    refine h2 t (fun p _ => rfl) ρ a w S Q _ fun ρ' a' w' S' E' => ?_
    exact h4 ρ' a' w' S' Q fun a'' w'' ⟨ρ'', S'', E''⟩ => hQ a'' w'' ⟨ρ'', S'', E'.trans E''⟩
end Go.Ri
