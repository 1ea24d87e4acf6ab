/-
  Ri, part Z: code, and calls.
  Ri, part ZA: code, and calls: the theorem.
  Ri, part ZB: what a run from a small memory tells at a greater one; tables of calls that are told.
  Ri, part ZC: what is asked of a program, told by a look over its tables: zero values without addresses.
  Ri, part ZD: two calls of Go's library that are told: strings joined; a map's keys, sorted.
-/
import Derived.Test.YtojhgdpmbpgdgaaGreatDoorRi7
import Derived.Scope
namespace Go.Ri
variable {σ : Int → Int} {P : Program} {C : Cfg} {β : Type}

/-! ### A run that changes nothing -/
theorem rsem_sound {R : Ren → Value → Value → Prop} : ∀ (s s' : Sem Value) (ρ : Ren) (h : AH) (w : World) (v : Value), SRel σ P R ρ s s' → HRel σ P ρ h w → rsem P s h = some v → ∃ v', s'.run P w = .ok v' w ∧ R ρ v v' := by
  intro s
  induction s with
  | pure a => rintro s' ρ h w v ⟨a', rfl, hr⟩ H he; simp only [rsem, Option.some.injEq] at he; subst he; exact ⟨a', rfl, hr⟩
  | load m a k ih =>
    rintro s' ρ h w v ⟨a', k', rfl, h1, h2⟩ H he
    simp only [rsem] at he
    split at he
    · rename_i x hx
      obtain ⟨x', g1, g2⟩ := H.cell h1 hx
      obtain ⟨v', g3, g4⟩ := ih x _ ρ h w v (h2 _ _ g2) H he
      exact ⟨v', by simp only [Sem.run, g1]; exact g3, g4⟩
    · cases he
  | shape r k ih =>
    rintro s' ρ h w v ⟨r', k', rfl, h1, h2⟩ H he
    simp only [rsem] at he
    split at he
    · rename_i c e lo hi hb
      obtain ⟨p, _, _, hm⟩ := H.block h1 hb
      obtain ⟨cc, hxx, k1, k2, k3, k4, k5⟩ := OMatch.cells_obj hm
      obtain ⟨v', g3, g4⟩ := ih _ _ ρ h w v (h2 _) H he
      refine ⟨v', ?_, g4⟩
      simp only [Sem.run, World.shape?, hxx]
      rw [k3 rfl]
      exact g3
    · rename_i es ck hb
      obtain ⟨p, _, _, hm⟩ := H.block h1 hb
      obtain ⟨v', g3, g4⟩ := ih _ _ ρ h w v (h2 _) H he
      refine ⟨v', ?_, g4⟩
      match hw : w.heap[r']?, hm with
      | some (.map es' ck'), hm => simp only [Sem.run, World.shape?, hw]; exact g3
    · cases he
  | frozen a k ih =>
    rintro s' ρ h w v ⟨a', k', rfl, ha, hk⟩ H e
    simp only [rsem] at e
    split at e
    · rename_i c el lo hi wd hb
      obtain ⟨p, hp, rfl⟩ := ha
      obtain ⟨c', hx, _⟩ := (H.live _ _ _ hb hp).cells_obj
      obtain ⟨v', g3, g4⟩ := ih _ (k' (isIn lo hi a.off)) ρ h w v (hk _) H e
      refine ⟨v', ?_, g4⟩
      have : w.frozen? ⟨p.blk, a.off, a.spot⟩ = isIn lo hi a.off := by
        unfold World.frozen?; simp only [hx]; rw [isIn_eq]
      simp [Sem.run, this, g3]
    · cases e
  | getObj r k ih =>
    rintro s' ρ h w v ⟨r', k', rfl, hr, hk⟩ H e
    simp only [rsem] at e
    split at e
    · rename_i es ck hb
      obtain ⟨p, hp, rfl, hm⟩ := H.block hr hb
      obtain ⟨es', hx, hl⟩ := hm.map_obj
      obtain ⟨v', g3, g4⟩ := ih _ (k' (.map es' ck)) ρ h w v (hk _ _ (.map _ _ _ (by simpa using hl))) H e
      exact ⟨v', by simp [Sem.run, hx, g3], g4⟩
    · cases e
  | choose q k ih =>
    rintro s' ρ h w v hs H e
    simp only [rsem] at e
    rcases hs with hs | ⟨q', k', rfl, hq, hk⟩
    · rw [hs] at e; cases e
    · split at e
      · obtain ⟨v', g3, g4⟩ := ih 0 (k' 0) ρ h w v hk H e
        exact ⟨v', by simp [Sem.run, hq, g3], g4⟩
      · cases e
  | program k ih =>
    rintro s' ρ h w v ⟨k', rfl, h1⟩ H he
    simp only [rsem] at he
    obtain ⟨v', g3, g4⟩ := ih P _ ρ h w v h1 H he
    exact ⟨v', g3, g4⟩
  | mark m k ih =>
    rintro s' ρ h w v ⟨m', k', rfl, h1⟩ H he
    simp only [rsem] at he
    obtain ⟨v', g3, g4⟩ := ih _ ρ h w v h1 H he
    exact ⟨v', g3, g4⟩
  | _ => intro s' ρ h w v _ _ he; simp [rsem] at he

/-! ### Frames -/
theorem getP_leaf (p : Pos) : getP (.leaf : T Value) p = undef := by cases p <;> rfl

theorem enterA_get : ∀ (l : List Value) (k : Nat) (t : T Value) (i : Nat), i < roof → k + l.length ≤ roof →
    getP (enterA l k t) (posOf 40 i) = if k ≤ i then (if h : i - k < l.length then l[i - k] else getP t (posOf 40 i)) else getP t (posOf 40 i)
  | [], k, t, i, _, _ => by simp [enterA]
  | v :: l, k, t, i, hi, hl => by
    have hl' : k + 1 + l.length ≤ roof := by simp at hl; omega
    show getP (enterA l (k + 1) (setP v (posOf 40 k) t)) (posOf 40 i) = _
    rw [enterA_get l (k + 1) _ i hi hl']
    have hk : k < roof := by simp at hl; omega
    by_cases e : i = k
    · subst e
      rw [if_neg (by omega), getP_setP, if_pos rfl, if_pos (Nat.le_refl _)]
      simp
    · have hne : posOf 40 i ≠ posOf 40 k := fun h => e (posOf_inj hi hk h)
      by_cases hle : k + 1 ≤ i
      · rw [if_pos hle, if_pos (by omega), getP_setP, if_neg hne]
        have e1 : i - k = (i - (k + 1)) + 1 := by omega
        by_cases hlt : i - (k + 1) < l.length
        · rw [dif_pos hlt, dif_pos (by simp; omega)]
          simp only [e1, List.getElem_cons_succ]
        · rw [dif_neg hlt, dif_neg (by simp; omega)]
      · rw [if_neg hle, if_neg (by omega), getP_setP, if_neg hne]

theorem sim_enter {ρ : Ren} {args : List Value} {args' : Array Value} {h : AH} {w : World} {n : Nat} (hv : VsRel σ ρ args args'.toList) (H : HRel σ P ρ h w) (hG : GlobOk P ρ) (hn : n < roof) (hle : args.length ≤ n) :
    Sim σ P ρ (enterA args 0 .leaf) h n { tmps := args' ++ Array.replicate (n - args'.size) undef, defers := [] } w where
  tm := fun i hi => by
    have hlen : args.length = args'.size := by rw [hv.length]; simp
    rw [enterA_get args 0 .leaf i hi (by omega), if_pos (Nat.zero_le _)]
    simp only [Nat.sub_zero]
    by_cases hlt : i < args.length
    · rw [dif_pos hlt]
      obtain ⟨b, hb1, hb2⟩ := hv.get i _ (List.getElem?_eq_getElem hlt)
      have : (args' ++ Array.replicate (n - args'.size) undef).getD i undef = b := by
        rw [Array.getD_eq_getD_getElem?, Array.getElem?_append_left (by omega)]
        rw [Array.getElem?_toList] at hb1
        rw [hb1]; rfl
      rw [this]; exact hb2
    · rw [dif_neg hlt, getP_leaf]
      have : (args' ++ Array.replicate (n - args'.size) undef).getD i undef = undef := by
        rw [Array.getD_eq_getD_getElem?, Array.getElem?_append_right (by omega)]
        by_cases h2 : i - args'.size < n - args'.size
        · rw [Array.getElem?_replicate, if_pos h2]; rfl
        · rw [Array.getElem?_replicate, if_neg h2]; rfl
      rw [this]; exact .undef
  size := by
    have hlen : args.length = args'.size := by rw [hv.length]; simp
    simp; omega
  roof := hn
  defers := rfl
  heap := H
  glob := hG

def resF (tmps : Array Value) : ResultVar → Sem Value
  | .tmp t => pure (tmps.getD t undef)
  | .cell b t => do loadVar t (← asAddr (tmps.getD b undef))

theorem mapM_run {α γ : Type} {f : α → Sem γ} {x : α} {l : List α} {v : γ} {vs : List γ} {w : World} (h1 : (f x).run P w = .ok v w) (h2 : (l.mapM f).run P w = .ok vs w) : ((x :: l).mapM f).run P w = .ok (v :: vs) w := by
  rw [List.mapM_cons]
  simp [h1, h2]

theorem resultsA_sound {ρ : Ren} {t : T Value} {h : AH} {sz : Nat} {a : Act} {w : World} (S : Sim σ P ρ t h sz a w) : ∀ (l : List ResultVar) (vs : List Value), resultsA P t h l = some vs →
    ∃ vs', (l.mapM (resF a.tmps)).run P w = .ok vs' w ∧ VsRel σ ρ vs vs'
  | [], vs, hr => by simp only [resultsA, Option.some.injEq] at hr; subst hr; exact ⟨[], rfl, .nil⟩
  | .tmp i :: l, vs, hr => by
    simp only [resultsA] at hr
    split at hr
    · rename_i vs0 hi h0
      cases hr
      obtain ⟨vs', h1, h2⟩ := resultsA_sound S l vs0 h0
      exact ⟨a.tmps.getD i undef :: vs', mapM_run rfl h1, .cons (S.tm i (blt_true.1 hi)) h2⟩
    · cases hr
  | .cell i ty :: l, vs, hr => by
    simp only [resultsA] at hr
    split at hr
    · rename_i v vs0 hi hc h0
      cases hr
      obtain ⟨vs', h1, h2⟩ := resultsA_sound S l vs0 h0
      have hx := S.tm i (blt_true.1 hi)
      unfold resCell at hc
      split at hc
      · rename_i x e
        rw [e] at hx
        obtain ⟨x', e2, hx'⟩ := hx.to_addr
        obtain ⟨v', g1, g2⟩ := rsem_sound _ _ ρ h w v (SRel.loadVar' ty hx') S.heap hc
        refine ⟨v' :: vs', mapM_run ?_ h1, .cons g2 h2⟩
        show ((asAddr (a.tmps.getD i undef)).bind (loadVar ty)).run P w = _
        rw [e2]
        exact g1
      · cases hc
    · cases hr

theorem resultA_sound {ρ : Ren} {t : T Value} {h : AH} {sz : Nat} {a : Act} {w : World} {fn : Func} (S : Sim σ P ρ t h sz a w) {v : Value} (hr : resultA P fn t h = some v) :
    ∃ v', (results fn a.tmps).run P w = .ok v' w ∧ VRel σ ρ v v' := by
  unfold resultA at hr
  have key : ∀ vs, resultsA P t h fn.results.toList = some vs → ∃ vs', VsRel σ ρ vs vs' ∧ (results fn a.tmps).run P w = .ok (if h : vs'.toArray.size = 1 then vs'.toArray[0] else .tuple vs'.toArray) w := by
    intro vs hvs
    obtain ⟨vs', h1, h2⟩ := resultsA_sound S _ vs hvs
    refine ⟨vs', h2, ?_⟩
    show ((fn.results.mapM (resF a.tmps)) >>= fun vs => pure (if h : vs.size = 1 then vs[0] else .tuple vs) : Sem Value).run P w = _
    rw [Array.mapM_eq_mapM_toList]
    simp [h1]
  split at hr
  · rename_i v0 hvs
    cases hr
    obtain ⟨vs', h1, h2⟩ := key _ hvs
    cases h1 with
    | cons hv hn => cases hn; exact ⟨_, h2, hv⟩
  · rename_i vs hne hvs
    cases hr
    obtain ⟨vs', h1, h2⟩ := key _ hvs
    have hlen := h1.length
    have : ¬ vs'.toArray.size = 1 := by
      intro e
      match vs, hlen with
      | [x], _ => exact hne x rfl
      | [], hl => simp at e hl; omega
      | x :: y :: l, hl => simp at e hl; omega
    rw [dif_neg this] at h2
    have h1' : VsRel σ ρ vs.toArray.toList vs'.toArray.toList := by simpa using h1
    exact ⟨_, h2, .tuple _ _ h1'.to_array.1 h1'.to_array.2⟩
  · cases hr
end Go.Ri
namespace Go.Ri
variable {σ : Int → Int} {P : Program} {C : Cfg} {β : Type}

/-- What is told of calls that are not gone into holds. -/
def OwnOk (σ : Int → Int) (C : Cfg) (P : Program) : Prop := ∀ f g, C.own f = some g → ∀ args h v h', g args h = some (v, h') → CallOk σ P f args h v h'

def XRel : Option AExit → Exit → Prop
  | none, .normal => True
  | some (.exit i), .exit j => i = j
  | some (.goto i), .goto j => i = j
  | some .ret, .ret => True
  | _, _ => False

def CodeOk (σ : Int → Int) (P : Program) (sz : Nat) (c : Code) (t : T Value) (h : AH) (x : Option AExit) (t' : T Value) (h' : AH) : Prop :=
  ∀ (ρ : Ren) (a : Act) (w : World), Sim σ P ρ t h sz a w → c.wp P (fun e a' w' => XRel x e ∧ Done σ P ρ h w sz t' h' a' w') a w

noncomputable def fin (kn : K β) (kx : KX β) : Option AExit → K β
  | none => kn
  | some x => kx x

def RunOk (σ : Int → Int) (P : Program) (run : Runner β) : Prop := ∀ sz c kn kx t h r, run sz c kn kx t h = some r → ∃ x t' h', fin kn kx x t' h' = some r ∧ CodeOk σ P sz c t h x t' h'

theorem bodyA_sound {run : Runner β} (hrun : RunOk σ P run) {f : FuncId} {fn : Func} {c : Code} (hf : P.funcs[f]? = some fn) (hb : fn.body = some c) {args : Array Value} {h : AH} {k : KV β} {r : β}
    (hr : bodyA P run fn c args h k = some r) : ∃ v h', k v h' = some r ∧ CallOk σ P f args.toList h v h' := by
  unfold bodyA at hr
  split at hr
  · rename_i h1 h2
    have h1 := blt_true.1 h1
    have h2 := ble_true.1 h2
    obtain ⟨x, t', h', h3, h4⟩ := hrun _ _ _ _ _ _ _ hr
    have h5 : finA P fn k t' h' = some r ∧ (x = none ∨ x = some .ret) := by
      cases x with
      | none => exact ⟨h3, .inl rfl⟩
      | some x =>
        cases x with
        | ret => exact ⟨h3, .inr rfl⟩
        | exit i => cases h3
        | goto l => cases h3
    obtain ⟨h5, hx⟩ := h5
    unfold finA at h5
    split at h5
    · rename_i v hv
      refine ⟨v, h', h5, ?_⟩
      intro ρ w args' hargs H G
      have hlen : args.size = args'.size := by have := hargs.length; simpa using this
      have S : Sim σ P ρ (enterA args.toList 0 .leaf) h fn.ntmps { tmps := args' ++ Array.replicate (fn.ntmps - args'.size) undef, defers := [] } w :=
        sim_enter hargs H G h1 (by simpa using h2)
      refine calls_of_wp hf hb (wp_mono (h4 ρ _ w S) ?_)
      rintro e a' w' ⟨hxe, ρ', S', E'⟩
      obtain ⟨v', g1, g2⟩ := resultA_sound S' hv
      have hend : bodyPost P fn (fun e w' => ∃ v' ρ', e = .returned v' ∧ Ext ρ h w ρ' h' w' ∧ HRel σ P ρ' h' w' ∧ VRel σ ρ' v v') .normal a' w' :=
        ⟨S'.defers, v', g1, v', ρ', rfl, E', S'.heap, g2⟩
      rcases hx with rfl | rfl
      · cases e <;> first | exact hxe.elim | exact hend
      · cases e <;> first | exact hxe.elim | exact hend
    · cases h5
  · cases hr

theorem callA_sound (hO : OwnOk σ C P) {run : Runner β} (hrun : RunOk σ P run) : CallerOk σ P (callA C P run) := by
  intro f args h k r hr
  unfold callA at hr
  split at hr
  · rename_i g hg
    unfold toldA at hr
    split at hr
    · rename_i v h' he
      exact ⟨v, h', hr, hO f g hg _ _ _ _ he⟩
    · cases hr
  · split at hr
    · cases hr
    · rename_i fn hf
      split at hr
      · cases hr
      · rename_i c hb
        exact bodyA_sound hrun hf hb hr

/-! ### Loops and scopes, as items -/
def ItemOk (σ : Int → Int) (P : Program) (sz : Nat) (todo : Code → List Item → List Item) (c : Code) (t : T Value) (h : AH) (x : Option AExit) (t' : T Value) (h' : AH) : Prop :=
  ∀ (ρ : Ren) (a : Act) (w : World), Sim σ P ρ t h sz a w → ∀ (b : Frame) (k : List Item) (cs : List Frame),
    ∃ e a' w', (XRel x e ∧ Done σ P ρ h w sz t' h' a' w') ∧ Arrives P (lone (b.at a (todo c k)) cs w) b k cs e a' w'

theorem loopA_sound {run : Runner β} (hrun : RunOk σ P run) {sz : Nat} {c : Code} {kx : KX β} : ∀ (n : Nat) (t : T Value) (h : AH) (r : β), loopA (fun next => run sz c next kx) n t h = some r →
    ∃ x t' h', kx x t' h' = some r ∧ ItemOk σ P sz (fun c k => .code c :: .inLoop c :: k) c t h (some x) t' h'
  | 0, t, h, r, hr => by cases hr
  | n + 1, t, h, r, hr => by
    have hr' : run sz c (loopA (fun next => run sz c next kx) n) kx t h = some r := hr
    obtain ⟨x, t₁, h₁, h3, h4⟩ := hrun _ _ _ _ _ _ _ hr'
    cases x with
    | none =>
      obtain ⟨x, t', h', h5, h6⟩ := loopA_sound hrun n t₁ h₁ r h3
      refine ⟨x, t', h', h5, fun ρ a w S b k cs => ?_⟩
      obtain ⟨e, a₁, w₁, ⟨hxe, ρ', S', E'⟩, harr⟩ := h4 ρ a w S b (.inLoop c :: k) cs
      cases e with
      | normal =>
        obtain ⟨e, a₂, w₂, ⟨g1, ρ'', S'', E''⟩, harr₂⟩ := h6 ρ' a₁ w₁ S' b k cs
        exact ⟨e, a₂, w₂, ⟨g1, ρ'', S'', E'.trans E''⟩, .of_steps (Steps.trans harr (.one step_inLoop)) harr₂⟩
      | _ => exact hxe.elim
    | some x =>
      refine ⟨x, t₁, h₁, h3, fun ρ a w S b k cs => ?_⟩
      obtain ⟨e, a₁, w₁, ⟨hxe, D⟩, harr⟩ := h4 ρ a w S b (.inLoop c :: k) cs
      refine ⟨e, a₁, w₁, ⟨hxe, D⟩, .pass (x := .inLoop c) rfl (fun _ _ => .inl ?_) harr⟩
      rintro rfl
      cases x <;> exact hxe

theorem scopeA_sound {run : Runner β} (hrun : RunOk σ P run) {sz : Nat} {body : Code} {kn : K β} {kx : KX β} : ∀ (n : Nat) (c : Code) (t : T Value) (h : AH) (r : β), scopeA (run sz) body kn kx n c t h = some r →
    ∃ x t' h', fin kn kx x t' h' = some r ∧ ItemOk σ P sz (fun c k => .code c :: .inScope body :: k) c t h x t' h'
  | 0, c, t, h, r, hr => by cases hr
  | n + 1, c, t, h, r, hr => by
    have hr' : run sz c kn (scopeX body (scopeA (run sz) body kn kx n) kx) t h = some r := hr
    obtain ⟨x, t₁, h₁, h3, h4⟩ := hrun _ _ _ _ _ _ _ hr'
    cases x with
    | none =>
      refine ⟨none, t₁, h₁, h3, fun ρ a w S b k cs => ?_⟩
      obtain ⟨e, a₁, w₁, ⟨hxe, D⟩, harr⟩ := h4 ρ a w S b (.inScope body :: k) cs
      cases e with
      | normal => exact ⟨.normal, a₁, w₁, ⟨trivial, D⟩, Steps.trans harr (.one step_inScope)⟩
      | _ => exact hxe.elim
    | some x =>
      cases x with
      | ret =>
        refine ⟨some .ret, t₁, h₁, h3, fun ρ a w S b k cs => ?_⟩
        obtain ⟨e, a₁, w₁, ⟨hxe, D⟩, harr⟩ := h4 ρ a w S b (.inScope body :: k) cs
        cases e with
        | ret => exact ⟨.ret, a₁, w₁, ⟨trivial, D⟩, harr⟩
        | _ => exact hxe.elim
      | exit i =>
        refine ⟨some (.exit i), t₁, h₁, h3, fun ρ a w S b k cs => ?_⟩
        obtain ⟨e, a₁, w₁, ⟨hxe, D⟩, harr⟩ := h4 ρ a w S b (.inScope body :: k) cs
        cases e with
        | exit id => exact ⟨.exit id, a₁, w₁, ⟨hxe, D⟩, fun k' hk => harr k' (by simp [exitTo, hk])⟩
        | _ => exact hxe.elim
      | goto l =>
        have h3' : scopeX body (scopeA (run sz) body kn kx n) kx (.goto l) t₁ h₁ = some r := h3
        unfold scopeX at h3'
        simp only at h3'
        cases hl : findLabel body l with
        | some rest =>
          rw [hl] at h3'
          obtain ⟨x, t', h', h5, h6⟩ := scopeA_sound hrun n rest t₁ h₁ r h3'
          refine ⟨x, t', h', h5, fun ρ a w S b k cs => ?_⟩
          obtain ⟨e, a₁, w₁, ⟨hxe, ρ', S', E'⟩, harr⟩ := h4 ρ a w S b (.inScope body :: k) cs
          cases e with
          | goto l' =>
            have : l = l' := hxe
            subst this
            obtain ⟨e, a₂, w₂, ⟨g1, ρ'', S'', E''⟩, harr₂⟩ := h6 ρ' a₁ w₁ S' b k cs
            exact ⟨e, a₂, w₂, ⟨g1, ρ'', S'', E'.trans E''⟩, .of_steps (harr _ (by simp [gotoIn, hl])) harr₂⟩
          | _ => exact hxe.elim
        | none =>
          rw [hl] at h3'
          refine ⟨some (.goto l), t₁, h₁, h3', fun ρ a w S b k cs => ?_⟩
          obtain ⟨e, a₁, w₁, ⟨hxe, D⟩, harr⟩ := h4 ρ a w S b (.inScope body :: k) cs
          cases e with
          | goto l' =>
            have : l = l' := hxe
            subst this
            exact ⟨.goto l, a₁, w₁, ⟨rfl, D⟩, fun k' hk => harr k' (by simp [gotoIn, hl, hk])⟩
          | _ => exact hxe.elim

theorem stepA_sound (hm : P.follows .mixedOrders = true) (hC : CfgOk σ C P) (hO : OwnOk σ C P) {run : Runner β} (hrun : RunOk σ P run) (n : Nat) : RunOk σ P (stepA C P n run) := by
  intro sz c kn kx t h r hr
  have hcall := callA_sound hO hrun
  cases c with
  | skip => exact ⟨none, t, h, hr, fun ρ a w S => wp_skip ⟨trivial, ρ, S, .refl _ _ _⟩⟩
  | label l => exact ⟨none, t, h, hr, fun ρ a w S => wp_label ⟨trivial, ρ, S, .refl _ _ _⟩⟩
  | region id ops draw =>
    cases draw with
    | false =>
      have hr' : runOps P (callA C P run) kn (ops.toList.map (decOp C P sz ops)) t h = some r := hr
      obtain ⟨t', h', h1, h2⟩ := runOps_sound hC hcall ops.toList 0 (fun j o hj => by simpa using hj) t h hr'
      refine ⟨none, t', h', h1, fun ρ a w S => wp_region ?_⟩
      have := h2 ρ a w S (fun e a' w' => XRel none e ∧ Done σ P ρ h w sz t' h' a' w') (fun a' w' D => ⟨trivial, D⟩)
      rw [List.range_eq_range']
      simpa using this
    | true =>
      have hr' : drawnA C P run sz ops kn t h = some r := hr
      unfold drawnA at hr'
      cases hg : planGood C P sz ops with
      | true =>
        rw [hg] at hr'
        obtain ⟨t', h', h1, h2⟩ := drawn_sound hC hcall hg hr'
        refine ⟨none, t', h', h1, fun ρ a w S => wp_region_any hm ?_⟩
        have S' : Sim σ P ρ t h sz a { w with drawn := w.drawn + 1 } := S.step (.refl _) (S.heap.drew _)
        refine h2 ρ a _ S' _ fun a' w' D => ⟨trivial, ?_⟩
        obtain ⟨ρ', S'', E''⟩ := D
        exact ⟨ρ', S'', (Ext.drew ρ h w (w.drawn + 1)).trans E''⟩
      | false => rw [hg] at hr'; cases hr'
  | seq x y =>
    have hr' : run sz x (run sz y kn kx) kx t h = some r := hr
    obtain ⟨x₁, t₁, h₁, h1, h2⟩ := hrun _ _ _ _ _ _ _ hr'
    cases x₁ with
    | none =>
      obtain ⟨x₂, t₂, h₂, h3, h4⟩ := hrun _ _ _ _ _ _ _ h1
      refine ⟨x₂, t₂, h₂, h3, fun ρ a w S => wp_seq (wp_mono (h2 ρ a w S) ?_)⟩
      rintro e a' w' ⟨hxe, ρ', S', E'⟩
      cases e with
      | normal =>
        refine wp_mono (h4 ρ' a' w' S') ?_
        rintro e a'' w'' ⟨hxe, ρ'', S'', E''⟩
        exact ⟨hxe, ρ'', S'', E'.trans E''⟩
      | _ => exact hxe.elim
    | some x₁ =>
      refine ⟨some x₁, t₁, h₁, h1, fun ρ a w S => wp_seq (wp_mono (h2 ρ a w S) ?_)⟩
      rintro e a' w' ⟨hxe, D⟩
      cases e with
      | normal => cases x₁ <;> exact hxe.elim
      | _ => exact ⟨hxe, D⟩
  | cond o x y =>
    have hr' : (match opdOk P o with
      | true => fun kn kx => condK (opd o) (run sz x kn kx) (run sz y kn kx)
      | false => fun _ _ _ _ => none : K β → KX β → K β) kn kx t h = some r := hr
    cases ho : opdOk P o with
    | true =>
      rw [ho] at hr'
      have hr' : condA (evO t (opd o)) (run sz x kn kx t h) (run sz y kn kx t h) = some r := hr'
      unfold condA at hr'
      split at hr'
      · rename_i b hb
        cases b with
        | true =>
          have hr2 : run sz x kn kx t h = some r := hr'
          obtain ⟨x₁, t₁, h₁, h1, h2⟩ := hrun _ _ _ _ _ _ _ hr2
          refine ⟨x₁, t₁, h₁, h1, fun ρ a w S => wp_cond_true ?_ (h2 ρ a w S)⟩
          have := S.ev o ho
          rw [hb] at this
          exact this.plain rfl
        | false =>
          have hr2 : run sz y kn kx t h = some r := hr'
          obtain ⟨x₁, t₁, h₁, h1, h2⟩ := hrun _ _ _ _ _ _ _ hr2
          refine ⟨x₁, t₁, h₁, h1, fun ρ a w S => wp_cond_false ?_ (h2 ρ a w S)⟩
          have := S.ev o ho
          rw [hb] at this
          exact this.plain rfl
      · cases hr'
    | false => rw [ho] at hr'; cases hr'
  | block id b =>
    have hr' : run sz b kn (blockX id kn kx) t h = some r := hr
    obtain ⟨x₁, t₁, h₁, h1, h2⟩ := hrun _ _ _ _ _ _ _ hr'
    cases x₁ with
    | none =>
      refine ⟨none, t₁, h₁, h1, fun ρ a w S => wp_block (wp_mono (h2 ρ a w S) ?_)⟩
      rintro e a' w' ⟨hxe, D⟩
      cases e with
      | normal => exact ⟨trivial, D⟩
      | _ => exact hxe.elim
    | some x₁ =>
      cases x₁ with
      | exit i =>
        have h1' : (match Nat.beq i id with | true => kn | false => kx (.exit i)) t₁ h₁ = some r := h1
        cases hi : Nat.beq i id with
        | true =>
          rw [hi] at h1'
          have hi := Nat.eq_of_beq_eq_true hi
          refine ⟨none, t₁, h₁, h1', fun ρ a w S => wp_block (wp_mono (h2 ρ a w S) ?_)⟩
          rintro e a' w' ⟨hxe, D⟩
          cases e with
          | exit j =>
            have : i = j := hxe
            simp only [Exit.inBlock]
            rw [if_pos (by omega)]
            exact ⟨trivial, D⟩
          | _ => exact hxe.elim
        | false =>
          rw [hi] at h1'
          have hi := Nat.ne_of_beq_eq_false hi
          refine ⟨some (.exit i), t₁, h₁, h1', fun ρ a w S => wp_block (wp_mono (h2 ρ a w S) ?_)⟩
          rintro e a' w' ⟨hxe, D⟩
          cases e with
          | exit j =>
            have : i = j := hxe
            simp only [Exit.inBlock]
            rw [if_neg (by omega)]
            exact ⟨hxe, D⟩
          | _ => exact hxe.elim
      | goto l =>
        refine ⟨some (.goto l), t₁, h₁, h1, fun ρ a w S => wp_block (wp_mono (h2 ρ a w S) ?_)⟩
        rintro e a' w' ⟨hxe, D⟩
        cases e with
        | goto l' => exact ⟨hxe, D⟩
        | _ => exact hxe.elim
      | ret =>
        refine ⟨some .ret, t₁, h₁, h1, fun ρ a w S => wp_block (wp_mono (h2 ρ a w S) ?_)⟩
        rintro e a' w' ⟨hxe, D⟩
        cases e with
        | ret => exact ⟨hxe, D⟩
        | _ => exact hxe.elim
  | loop b =>
    obtain ⟨x, t', h', h1, h2⟩ := loopA_sound hrun n t h r hr
    refine ⟨some x, t', h', h1, fun ρ a w S b' k cs => ?_⟩
    obtain ⟨e, a', w', g1, g2⟩ := h2 ρ a w S b' k cs
    exact ⟨e, a', w', g1, .of_steps (.one step_loop) g2⟩
  | scope b =>
    obtain ⟨x, t', h', h1, h2⟩ := scopeA_sound hrun n b t h r hr
    refine ⟨x, t', h', h1, fun ρ a w S b' k cs => ?_⟩
    obtain ⟨e, a', w', g1, g2⟩ := h2 ρ a w S b' k cs
    exact ⟨e, a', w', g1, .of_steps (.one step_scope) g2⟩
  | exit id => exact ⟨some (.exit id), t, h, hr, fun ρ a w S => wp_exit ⟨rfl, ρ, S, .refl _ _ _⟩⟩
  | goto l => exact ⟨some (.goto l), t, h, hr, fun ρ a w S => wp_goto ⟨rfl, ρ, S, .refl _ _ _⟩⟩
  | ret => exact ⟨some .ret, t, h, hr, fun ρ a w S => wp_ret ⟨trivial, ρ, S, .refl _ _ _⟩⟩
  | _ => cases hr

/-- What the abstract run yields, the real one yields. -/
theorem run_sound (hm : P.follows .mixedOrders = true) (hC : CfgOk σ C P) (hO : OwnOk σ C P) : ∀ n, RunOk (β := β) σ P (run C P n)
  | 0 => fun _ _ _ _ _ _ _ hr => by cases hr
  | n + 1 => stepA_sound hm hC hO (run_sound hm hC hO n) n

theorem runCall_sound (hm : P.follows .mixedOrders = true) (hC : CfgOk σ C P) (hO : OwnOk σ C P) {n : Nat} {f : FuncId} {args : Array Value} {h : AH} {k : KV β} {r : β} (hr : runCall C P n f args h k = some r) :
    ∃ v h', k v h' = some r ∧ CallOk σ P f args.toList h v h' := callA_sound hO (run_sound hm hC hO n) f args h k r hr
end Go.Ri
namespace Go.Ri
variable {σ : Int → Int} {P : Program} {C : Cfg}

/-- A call that was run from a small memory, at a greater one. -/
theorem CallOk.frame {f : FuncId} {args : List Value} {h0 h1 h h' : AH} {v : Value} (K : CallOk σ P f args h0 v h1) (out : Nat → Bool)
    (hn : h.next ≤ h0.next) (hsub : ∀ id, h0.get id ≠ none → h.get id = h0.get id) (hkeep : ∀ id, h0.get id ≠ none → h1.get id = h0.get id)
    (hget : ∀ id, h'.get id = if out id then h1.get id else h.get id) (hout : ∀ id, out id = true → h0.next ≤ id) (hnext : h1.next ≤ h'.next) : CallOk σ P f args h v h' := by
  intro ρ w args' hargs HR G
  have HR0 : HRel σ P ρ h0 w := by
    refine ⟨?_, ?_, ?_, ?_⟩
    · intro id o p hg hp
      exact HR.live id o p (by rw [hsub id (by rw [hg]; simp), hg]) hp
    · intro i j p q hi hj
      exact HR.inj i j p q (by rw [hsub i hi]; exact hi) (by rw [hsub j hj]; exact hj)
    · intro id p hp
      have := HR.dom id p hp
      exact ⟨Nat.lt_of_lt_of_le this.1 hn, this.2⟩
    · intro id hi
      exact Nat.lt_of_lt_of_le (HR.top id (by rw [hsub id hi]; exact hi)) hn
  refine (K ρ w args' hargs HR0 G).mono ?_
  rintro e w' ⟨v', ρ', he, E, HR', hv⟩
  have hback : ∀ id p, id < h0.next → ρ' id = some p → ρ id = some p := by
    intro id p hlt hp
    cases e0 : ρ id with
    | none => rw [(E.old id hlt e0).1] at hp; cases hp
    | some q => rw [E.le id q e0] at hp; exact hp
  have hlow : ∀ id, h.get id ≠ none → id < h0.next := fun id hi => Nat.lt_of_lt_of_le (HR.top id hi) hn
  refine ⟨v', ρ', he, ⟨E.le, ?_, ?_, ?_, ?_, E.size, E.os, E.tape, E.output⟩, ⟨?_, ?_, ?_, ?_⟩, hv⟩
  · intro id hlt hp
    have hlt0 := Nat.lt_of_lt_of_le hlt hn
    refine ⟨(E.old id hlt0 hp).1, ?_⟩
    rw [hget, if_neg]
    intro ho
    have := hout id ho
    omega
  · exact Nat.le_trans hn (Nat.le_trans E.next hnext)
  · intro b hb hk
    exact E.kept b hb fun id p hl hp => hk id p (by rw [hsub id hl]; exact hl) hp
  · intro id p hp hl hb
    rw [hget] at hl
    by_cases ho : out id = true
    · rw [if_pos ho] at hl
      obtain ⟨i, q, h2, h3, h4⟩ := E.src id p hp hl hb
      exact ⟨i, q, by rw [hsub i h2]; exact h2, h3, h4⟩
    · rw [if_neg ho] at hl
      exact ⟨id, p, hl, hback id p (hlow id hl) hp, rfl⟩
  · intro id o p hg hp
    rw [hget] at hg
    by_cases ho : out id = true
    · rw [if_pos ho] at hg
      exact HR'.live id o p hg hp
    · rw [if_neg ho] at hg
      have hl : h.get id ≠ none := by rw [hg]; simp
      have hp0 := hback id p (hlow id hl) hp
      by_cases h00 : h0.get id = none
      · have hblk : w'.heap[p.blk]? = w.heap[p.blk]? := by
          refine E.kept p.blk (HR.dom id p hp0).2 ?_
          intro i q hi hq e1
          have := HR.inj i id q p (by rw [hsub i hi]; exact hi) hl hq hp0 e1
          exact hi (this ▸ h00)
        rw [hblk]
        exact (HR.live id o p hg hp0).mono E.le
      · exact HR'.live id o p (by rw [hkeep id h00, ← hsub id h00]; exact hg) hp
  · intro i j p q hi hj hp hq e1
    have key : ∀ i j p q, out i = true → ¬ (out j = true) → h'.get i ≠ none → h'.get j ≠ none → ρ' i = some p → ρ' j = some q → p.blk = q.blk → False := by
      intro i j p q oi oj hi hj hp hq e1
      rw [hget, if_pos oi] at hi
      rw [hget, if_neg oj] at hj
      have hq0 := hback j q (hlow j hj) hq
      have hlt := (HR.dom j q hq0).2
      obtain ⟨i0, q0, h2, h3, h4⟩ := E.src i p hp hi (by rw [e1]; exact hlt)
      have := HR'.inj i i0 p q0 hi (by rw [hkeep i0 h2]; exact h2) hp (E.le i0 q0 h3) h4.symm
      have h5 := HR0.top i0 h2
      have h6 := hout i oi
      omega
    by_cases oi : out i = true <;> by_cases oj : out j = true
    · rw [hget, if_pos oi] at hi
      rw [hget, if_pos oj] at hj
      exact HR'.inj i j p q hi hj hp hq e1
    · exact (key i j p q oi oj hi hj hp hq e1).elim
    · exact (key j i q p oj oi hj hi hq hp e1.symm).elim
    · rw [hget, if_neg oi] at hi
      rw [hget, if_neg oj] at hj
      exact HR.inj i j p q hi hj (hback i p (hlow i hi) hp) (hback j q (hlow j hj) hq) e1
  · intro id p hp
    have := HR'.dom id p hp
    exact ⟨Nat.lt_of_lt_of_le this.1 hnext, this.2⟩
  · intro id hi
    rw [hget] at hi
    by_cases ho : out id = true
    · rw [if_pos ho] at hi
      exact Nat.lt_of_lt_of_le (HR'.top id hi) hnext
    · rw [if_neg ho] at hi
      exact Nat.lt_of_lt_of_le (hlow id hi) (Nat.le_trans E.next hnext)

/-! ### Calls that are told: what they were given, what they left -/
structure Entry where
  f : FuncId
  args : List Value
  ins : List (Nat × AObj)
  n0 : Nat
  res : Value
  outs : List (Nat × AObj)
  n1 : Nat

def findB : List (Nat × AObj) → Nat → Option AObj
  | [], _ => none
  | p :: l, m => match Nat.beq p.1 m with
    | true => some p.2
    | false => findB l m
noncomputable def putAll : List (Nat × AObj) → T AObj → T AObj
  | [], t => t
  | p :: l, t => T.set 40 p.1 (some p.2) (putAll l t)
def sameN : List Nat → List Nat → Bool
  | [], [] => true
  | a :: l, b :: m => match Nat.beq a b with
    | true => sameN l m
    | false => false
  | _, _ => false
theorem sameN_eq : ∀ {a b : List Nat}, sameN a b = true → a = b
  | [], [], _ => rfl
  | a :: l, b :: m, h => by
    have h : (match Nat.beq a b with | true => sameN l m | false => false) = true := h
    split at h
    · rename_i e; rw [Nat.eq_of_beq_eq_true e, sameN_eq h]
    · cases h
  | [], _ :: _, h => by cases h
  | _ :: _, [], h => by cases h
def sameO : AObj → AObj → Bool
  | .cells c e lo hi w, .cells c' e' lo' hi' w' => match Nat.beq e e', Nat.beq lo lo', Nat.beq hi hi', decide (w = w') with
    | true, true, true, true => sameL (sameV 8) c c'
    | _, _, _, _ => false
  | .row c, .row c' => sameL (sameV 8) c c'
  | .rowU c, .rowU c' => sameN c c'
  | _, _ => false
noncomputable def allIn (h : AH) : List (Nat × AObj) → Bool
  | [] => true
  | p :: l => match h.get p.1, Nat.blt p.1 roof with
    | some o, true => match sameO p.2 o with
      | true => allIn h l
      | false => false
    | _, _ => false
noncomputable def memOf (l : List (Nat × AObj)) (n : Nat) : AH := ⟨putAll l .leaf, n⟩
/-- Is the call's end as it is told? -/
noncomputable def endIs (e : Entry) (v : Value) (h : AH) : Bool := match sameV 8 v e.res, allIn h e.ins, allIn h e.outs, Nat.ble h.next e.n1, e.outs.all (fun p => Nat.ble e.n0 p.1) with
  | true, true, true, true, true => true
  | _, _, _, _, _ => false
noncomputable def runEntry (C : Cfg) (P : Program) (n : Nat) (e : Entry) : Bool := match runCall C P n e.f e.args.toArray (memOf e.ins e.n0) (fun v h => some (endIs e v h)) with
  | some b => b
  | none => false
noncomputable def fits (e : Entry) (args : List Value) (h : AH) : Bool := match sameL (sameV 8) args e.args, allIn h e.ins, Nat.ble h.next e.n0 with
  | true, true, true => true
  | _, _, _ => false
noncomputable def toldE : List Entry → Told
  | [], _, _ => none
  | e :: l, args, h => match fits e args h with
    | true => some (e.res, ⟨putAll e.outs h.t, e.n1⟩)
    | false => toldE l args h
structure Tab where
  f : FuncId
  es : List Entry
noncomputable def ownTab (base : FuncId → Option Told) : List Tab → FuncId → Option Told
  | [], f => base f
  | t :: l, f => match Nat.beq t.f f with
    | true => some (toldE t.es)
    | false => ownTab base l f
noncomputable def Cfg.with (C : Cfg) (l : List Tab) : Cfg := { C with own := ownTab C.own l }

theorem sameO_eq : ∀ {a b : AObj}, sameO a b = true → a = b
  | .cells c e lo hi w, .cells c' e' lo' hi' w', h => by
    have h : (match Nat.beq e e', Nat.beq lo lo', Nat.beq hi hi', decide (w = w') with
      | true, true, true, true => sameL (sameV 8) c c'
      | _, _, _, _ => false) = true := h
    split at h
    · rename_i h1 h2 h3 h4
      rw [Nat.eq_of_beq_eq_true h1, Nat.eq_of_beq_eq_true h2, Nat.eq_of_beq_eq_true h3, of_decide_eq_true h4, sameL_eq (fun a b => sameV_eq 8 a b) _ _ h]
    · cases h
  | .row c, .row c', h => by
    have h : sameL (sameV 8) c c' = true := h
    rw [sameL_eq (fun a b => sameV_eq 8 a b) _ _ h]
  | .rowU c, .rowU c', h => by
    have h : sameN c c' = true := h
    rw [sameN_eq h]
  | .cells .., .rowU .., h => by cases h
  | .row .., .rowU .., h => by cases h
  | .map .., .rowU .., h => by cases h
  | .rowU .., .cells .., h => by cases h
  | .rowU .., .row .., h => by cases h
  | .rowU .., .map .., h => by cases h
  | .cells .., .row .., h => by cases h
  | .cells .., .map .., h => by cases h
  | .row .., .cells .., h => by cases h
  | .row .., .map .., h => by cases h
  | .map .., .cells .., h => by cases h
  | .map .., .row .., h => by cases h
  | .map .., .map .., h => by cases h

theorem findB_roof {h : AH} : ∀ {l : List (Nat × AObj)}, allIn h l = true → ∀ p, p ∈ l → p.1 < roof ∧ h.get p.1 = some p.2
  | [], _, p, hp => by simp at hp
  | q :: l, ha, p, hp => by
    unfold allIn at ha
    split at ha
    · rename_i o hg hr
      split at ha
      · rename_i hs
        rcases List.mem_cons.1 hp with rfl | hp
        · exact ⟨blt_true.1 hr, by rw [hg, sameO_eq hs]⟩
        · exact findB_roof ha p hp
      · cases ha
    · cases ha
theorem findB_mem : ∀ {l : List (Nat × AObj)} {m : Nat} {o : AObj}, findB l m = some o → ∃ p, p ∈ l ∧ p.1 = m ∧ p.2 = o
  | p :: l, m, o, h => by
    unfold findB at h
    split at h
    · rename_i e
      exact ⟨p, by simp, Nat.eq_of_beq_eq_true e, Option.some.inj h⟩
    · obtain ⟨q, h1, h2⟩ := findB_mem h
      exact ⟨q, by simp [h1], h2⟩
theorem putAll_get : ∀ {l : List (Nat × AObj)}, (∀ p, p ∈ l → p.1 < roof) → ∀ (t : T AObj) (m : Nat), (putAll l t).get m = match findB l m with | some o => some o | none => t.get m
  | [], _, t, m => rfl
  | p :: l, hr, t, m => by
    show (T.set 40 p.1 (some p.2) (putAll l t)).get m = _
    rw [T.get_set (some p.2) 40 p.1 _ m (by have := hr p (by simp); unfold roof at this; omega)]
    rw [putAll_get (fun q hq => hr q (by simp [hq]))]
    have e0 : findB (p :: l) m = match Nat.beq p.1 m with
      | true => some p.2
      | false => findB l m := rfl
    rw [e0]
    by_cases e : m = p.1
    · subst e; simp
    · have e2 : Nat.beq p.1 m = false := by
        cases e3 : Nat.beq p.1 m with
        | true => exact absurd (Nat.eq_of_beq_eq_true e3).symm e
        | false => rfl
      rw [if_neg e, e2]

/-- What is asked of an entry. -/
def EntryOk (σ : Int → Int) (P : Program) (e : Entry) : Prop :=
  ∃ h1, CallOk σ P e.f e.args (memOf e.ins e.n0) e.res h1 ∧ allIn h1 e.ins = true ∧ allIn h1 e.outs = true ∧ h1.next ≤ e.n1 ∧ ∀ p, p ∈ e.outs → e.n0 ≤ p.1

theorem entry_of_run (hm : P.follows .mixedOrders = true) (hC : CfgOk σ C P) (hO : OwnOk σ C P) {n : Nat} {e : Entry} (hr : runEntry C P n e = true) : EntryOk σ P e := by
  unfold runEntry at hr
  split at hr
  · rename_i b hb
    subst hr
    obtain ⟨v, h1, h2, h3⟩ := runCall_sound hm hC hO hb
    simp only [Option.some.injEq] at h2
    unfold endIs at h2
    split at h2
    · rename_i g1 g2 g3 g4 g5
      rw [sameV_eq _ _ _ g1] at h3
      exact ⟨h1, h3, g2, g3, ble_true.1 g4, fun p hp => ble_true.1 (List.all_eq_true.1 g5 p hp)⟩
    · cases h2
  · cases hr

theorem EntryOk.told {e : Entry} (K : EntryOk σ P e) {args : List Value} {h : AH} (hf : fits e args h = true) : CallOk σ P e.f args h e.res ⟨putAll e.outs h.t, e.n1⟩ := by
  obtain ⟨h1, k1, k2, k3, k4, k5⟩ := K
  unfold fits at hf
  split at hf
  · rename_i g1 g2 g3
    rw [sameL_eq (fun a b => sameV_eq 8 a b) _ _ g1]
    have r1 : ∀ p, p ∈ e.ins → p.1 < roof := fun p hp => (findB_roof g2 p hp).1
    have r2 : ∀ p, p ∈ e.outs → p.1 < roof := fun p hp => (findB_roof k3 p hp).1
    have get0 : ∀ m, (memOf e.ins e.n0).get m = findB e.ins m := by
      intro m
      show (putAll e.ins .leaf).get m = _
      rw [putAll_get r1]
      cases findB e.ins m <;> rfl
    have sub : ∀ (H : AH), allIn H e.ins = true → ∀ id, (memOf e.ins e.n0).get id ≠ none → H.get id = (memOf e.ins e.n0).get id := by
      intro H hH id hid
      rw [get0] at hid ⊢
      cases e1 : findB e.ins id with
      | none => exact absurd e1 hid
      | some o =>
        obtain ⟨p, p1, p2, p3⟩ := findB_mem e1
        rw [← p2, ← p3]
        exact (findB_roof hH p p1).2
    refine k1.frame (fun id => (findB e.outs id).isSome) (ble_true.1 g3) (sub h g2) (sub h1 k2) ?_ ?_ k4
    · intro id
      show (putAll e.outs h.t).get id = _
      rw [putAll_get r2]
      cases e1 : findB e.outs id with
      | none => simp; rfl
      | some o =>
        obtain ⟨p, p1, p2, p3⟩ := findB_mem e1
        have := (findB_roof k3 p p1).2
        rw [p2, p3] at this
        simp [this]
    · intro id hid
      cases e1 : findB e.outs id with
      | none => rw [e1] at hid; cases hid
      | some o =>
        obtain ⟨p, p1, p2, p3⟩ := findB_mem e1
        rw [← p2]
        exact k5 p p1
  · cases hf

theorem toldE_ok {f : FuncId} : ∀ {l : List Entry}, (∀ e, e ∈ l → e.f = f ∧ EntryOk σ P e) → ∀ args h v h', toldE l args h = some (v, h') → CallOk σ P f args h v h'
  | [], _, _, _, _, _, h => by cases h
  | e :: l, hl, args, h, v, h', ht => by
    unfold toldE at ht
    split at ht
    · rename_i hf
      cases ht
      obtain ⟨e1, e2⟩ := hl e (by simp)
      exact e1 ▸ e2.told hf
    · exact toldE_ok (fun e he => hl e (by simp [he])) args h v h' ht

def TabOk (σ : Int → Int) (P : Program) (t : Tab) : Prop := ∀ e, e ∈ t.es → e.f = t.f ∧ EntryOk σ P e

theorem own_tab {base : FuncId → Option Told} (hb : ∀ f g, base f = some g → ∀ args h v h', g args h = some (v, h') → CallOk σ P f args h v h') :
    ∀ {l : List Tab}, (∀ t, t ∈ l → TabOk σ P t) → ∀ f g, ownTab base l f = some g → ∀ args h v h', g args h = some (v, h') → CallOk σ P f args h v h'
  | [], _, f, g, hg => hb f g hg
  | t :: l, hl, f, g, hg => by
    unfold ownTab at hg
    split at hg
    · rename_i e
      cases hg
      intro args h v h' ht
      have := Nat.eq_of_beq_eq_true e
      subst this
      exact toldE_ok (hl t (by simp)) args h v h' ht
    · exact own_tab hb (fun t ht => hl t (by simp [ht])) f g hg

theorem with_own {l : List Tab} (hO : OwnOk σ C P) (hl : ∀ t, t ∈ l → TabOk σ P t) : OwnOk σ (C.with l) P := own_tab hO hl
theorem with_cfg {l : List Tab} (hC : CfgOk σ C P) : CfgOk σ (C.with l) P := ⟨hC.zeros, hC.noNum, hC.known, hC.noZero, hC.sym⟩
end Go.Ri
namespace Go.Ri

theorem closedB_mono : ∀ {n : Nat} {v : Value}, closedB n v = true → closedB (n + 1) v = true
  | 0, v, h => by simp [closedB] at h
  | n + 1, v, h => by
    cases v with
    | agg cs =>
      have h : cs.toList.all (closedB n) = true := h
      show cs.toList.all (closedB (n + 1)) = true
      exact List.all_eq_true.2 fun x hx => closedB_mono (List.all_eq_true.1 h x hx)
    | tuple cs =>
      have h : cs.toList.all (closedB n) = true := h
      show cs.toList.all (closedB (n + 1)) = true
      exact List.all_eq_true.2 fun x hx => closedB_mono (List.all_eq_true.1 h x hx)
    | iface t x =>
      have h : closedB n x = true := h
      show closedB (n + 1) x = true
      exact closedB_mono h
    | pointer p => cases p <;> first | rfl | cases h
    | slice p _ _ => cases p <;> first | rfl | cases h
    | map p => cases p <;> first | rfl | cases h
    | chan p => cases p <;> first | rfl | cases h
    | func f a b => cases f <;> first | exact h | cases h
    | _ => first | exact h | cases h | rfl

def cellsOk (z : Value) : Bool := z.cells.toList.all (closedB 3)
def zeroOk (i : TypeInfo) : Bool := match i.zero with
  | none => true
  | some z => cellsOk z
theorem cellsOk_closed {z : Value} (h : cellsOk z = true) : closedB 4 z = true := by
  unfold cellsOk at h
  cases z with
  | agg cs =>
    show cs.toList.all (closedB 3) = true
    exact h
  | _ =>
    refine closedB_mono ((List.all_eq_true.1 h _ ?_))
    simp [Value.cells]

def GoodZ (i : TypeInfo) : Prop := ∀ z, i.zero = some z → cellsOk z = true
theorem zeroOk_good {i : TypeInfo} (h : zeroOk i = true) : GoodZ i := by
  intro z hz
  unfold zeroOk at h
  rw [hz] at h
  exact h

theorem forIn_inv {α s : Type} {f : α → s → Option (ForInStep s)} {I : s → Prop} (hs : ∀ a x r, I x → f a x = some r → I r.value) : ∀ (l : List α) (x : s), I x → ∀ r, forIn l x f = some r → I r
  | [], x, hx, r, h => by simp at h; cases h; exact hx
  | a :: l, x, hx, r, h => by
    simp only [List.forIn_cons, bind, Option.bind_eq_some_iff] at h
    obtain ⟨y, hy, h⟩ := h
    have := hs a x y hx hy
    cases y with
    | done b => simp at h; cases h; exact this
    | yield b => exact forIn_inv hs l b this r h

theorem struct_good {info : TypeId → Option TypeInfo} (hi : ∀ t i, info t = some i → GoodZ i) {fs : Array Field} {i : TypeInfo} (h : Made.reckonStruct info fs = some i) : GoodZ i := by
  unfold Made.reckonStruct at h
  simp only [bind, Option.bind_eq_some_iff, pure] at h
  obtain ⟨a, ha, h⟩ := h
  have key : ∀ z, a.2.2.2.2.2.2.2.1 = some z → z.toList.all (closedB 3) = true := by
    rw [← Array.forIn_toList] at ha
    refine forIn_inv (I := fun (a : Array Field × Nat × Nat × Nat × Nat × Bool × Bool × Option (Array Value) × String) => ∀ z, a.2.2.2.2.2.2.2.1 = some z → z.toList.all (closedB 3) = true) ?_ _ _ ?_ _ ha
    · intro f x r hx hr
      simp only [Option.bind_eq_some_iff] at hr
      obtain ⟨j, hj, hr⟩ := hr
      have step : ∀ z, (if x.2.1 + j.size > Made.mostCells then none else x.2.2.2.2.2.2.2.1.bind fun u => j.zero.bind fun v => some (u ++ v.cells)) = some z → z.toList.all (closedB 3) = true := by
        intro z hz
        split at hz
        · cases hz
        · simp only [Option.bind_eq_some_iff] at hz
          obtain ⟨u, hu, v, hv, hz⟩ := hz
          cases hz
          have h1 := hx u hu
          have h2 : cellsOk v = true := hi _ _ hj v hv
          simp only [Array.toList_append, List.all_append, h1, Bool.true_and]
          exact h2
      repeat' first
        | (cases hr; done)
        | (cases hr; exact step)
        | (obtain ⟨_, _, hr⟩ := hr)
        | (simp only [Option.bind_eq_some_iff, Option.bind_none] at hr)
        | (split at hr)
    · intro z hz; cases hz; rfl
  have fin : ∀ z, (a.2.2.2.2.2.2.2.1.map Value.agg) = some z → cellsOk z = true := by
    intro z hz
    simp only [Option.map_eq_some_iff] at hz
    obtain ⟨u, hu, rfl⟩ := hz
    exact key u hu
  split at h <;> (cases h; exact fin)

theorem flatten_closed {cs : Array Value} (h : cs.toList.all (closedB 3) = true) (n : Nat) : ((Array.replicate n cs).flatten).toList.all (closedB 3) = true := by
  refine List.all_eq_true.2 fun x hx => ?_
  simp only [Array.toList_flatten, Array.toList_replicate, List.map_replicate, List.mem_flatten, List.mem_replicate] at hx
  obtain ⟨l, ⟨_, rfl⟩, hx⟩ := hx
  exact List.all_eq_true.1 h x hx

theorem reckon_good {info : TypeId → Option TypeInfo} (hi : ∀ t i, info t = some i → GoodZ i) {d : TypeDesc} {i : TypeInfo} (h : Made.reckon info d = some i) : GoodZ i := by
  unfold Made.reckon at h
  split at h
  all_goals try simp only [bind, Option.bind_eq_some_iff, pure] at h
  case h_6 =>
    obtain ⟨j, hj, s, _, h⟩ := h
    cases h
    intro z hz
    simp only at hz
    split at hz
    · cases hz
    · split at hz
      · cases hz; rfl
      · simp only [Option.map_eq_some_iff] at hz
        obtain ⟨u, hu, rfl⟩ := hz
        exact flatten_closed (hi _ _ hj u hu) _
  case h_7 => exact struct_good hi h
  all_goals repeat' first
    | (cases h; done)
    | (cases h; intro z hz; cases hz; rfl)
    | (obtain ⟨_, _, h⟩ := h)
    | (simp only [Option.bind_eq_some_iff] at h)
    | (split at h)

theorem info_good {T : Tables} (h : T.types.toList.all zeroOk = true) : ∀ (f : Nat) t i, Made.infoAt T f t = some i → GoodZ i
  | 0, _, _, hi => by cases hi
  | f + 1, t, i, hi => by
    unfold Made.infoAt at hi
    split at hi
    · exact zeroOk_good (List.all_eq_true.1 h i (by rw [Array.mem_toList_iff]; exact Array.mem_of_getElem? hi))
    · simp only [Option.bind_eq_some_iff] at hi
      obtain ⟨d, _, hi⟩ := hi
      exact reckon_good (fun t i => info_good h f t i) hi
theorem zeros_of {P : Program} (h : P.types.toList.all zeroOk = true) : ZerosOk P := by
  intro t i z hi hz
  refine cellsOk_closed ?_
  have hi : Tables.info? P.toTables t = some i := hi
  unfold Tables.info? at hi
  split at hi
  · exact zeroOk_good (List.all_eq_true.1 h i (by rw [Array.mem_toList_iff]; exact Array.mem_of_getElem? hi)) z hz
  · exact info_good h _ t i hi z hz

theorem noNum_of {P : Program} (h : (P.funcs.toList.all fun fn => !(fn.name == "runtime.NumGoroutine")) = true) : ∀ (f : FuncId) (fn : Func), P.funcs[f]? = some fn → fn.name ≠ "runtime.NumGoroutine" := by
  intro f fn hf
  have := List.all_eq_true.1 h fn (by rw [Array.mem_toList_iff]; exact Array.mem_of_getElem? hf)
  simpa using this
end Go.Ri
namespace Go.Ri
variable {σ : Int → Int} {P : Program} {C : Cfg}

def strL : List Value → Option (List ByteArray)
  | [] => some []
  | .string s :: l => match strL l with
    | some r => some (s :: r)
    | none => none
  | _ => none
def joinL (sep : List UInt8) : List ByteArray → List UInt8
  | [] => []
  | [x] => x.data.toList
  | x :: y :: l => x.data.toList ++ (sep ++ joinL sep (y :: l))
def joinV (sep : ByteArray) (xs : List ByteArray) : Option Value := match Nat.blt xs.length (2 ^ 30), Nat.blt (joinL sep.data.toList xs).length (2 ^ 30) with
  | true, true => some (.string ⟨(joinL sep.data.toList xs).toArray⟩)
  | _, _ => none
/-- strings.Join. -/
noncomputable def toldJoin : Told := fun args h => match args with
  | [.slice none 0 _, .string _] => some (.string ⟨#[]⟩, h)
  | [.slice (some a) n c, .string sep] => match Nat.ble n c, cellsFrom h a n with
    | true, some vs => match strL vs with
      | some xs => match joinV sep xs with
        | some v => some (v, h)
        | none => none
      | none => none
    | _, _ => none
  | _ => none

/-- The keys of a map with one key at most, by the map's iterator. -/
noncomputable def toldKeys (K e : Nat) : Told := fun args h => match args with
  | [.func (.func f) a b] => match Nat.beq f K, a.toList, b.toList with
    | true, [], [.pointer (some ⟨x, 0, none⟩)] => match h.cell? ⟨x, 0, none⟩ with
      | some (.map (some m)) => match h.get m with
        | some (.map [] _) => some (.slice none 0 0, h)
        | some (.map [y] ck) => match y.key with
          | .string s => match h.next.blt roof, Nat.blt y.born ck, Nat.blt s.size (2 ^ 30) with
            | true, true, true => some (.slice (some ⟨h.next, 0, none⟩) 1 1, h.push (.cells [.string s] e 0 0 true))
            | _, _, _ => none
          | _ => none
        | _ => none
      | _ => none
    | _, _, _ => none
  | _ => none
end Go.Ri
