/-
  Ri, part ZE: what is told of the library's two calls, out of the library's contracts.
-/
import Derived.Test.YtojhgdpmbpgdgaaGreatDoorRi8
import Derived.Lib.Join
import Derived.Below
import Derived.Laws.AppendOwn
import Derived.Maps.Own
import Derived.StringKeys
import Derived.Sort.KeysCollected
namespace Go.Ri
open Go.RowKit
variable {σ : Int → Int} {P : Program} {C : Cfg} {ρ : Ren}

/-- A call that lays new blocks alone. -/
theorem told_below {h : AH} {w w' : World} (H : HRel σ P ρ h w) (hb : Below w.heap.size w w') : HRel σ P ρ h w' ∧ Ext ρ h w ρ h w' := by
  refine ⟨⟨?_, H.inj, ?_, H.top⟩, .refl _, fun _ _ hn => ⟨hn, rfl⟩, Nat.le_refl _, fun b hlt _ => hb.block b hlt, fun id p hp hl _ => ⟨id, p, hl, hp, rfl⟩, hb.size, hb.os, hb.tape, hb.output⟩
  · intro id o p hg hp
    rw [hb.block _ (H.dom id p hp).2]
    exact H.live id o p hg hp
  · intro id p hp
    have := H.dom id p hp
    exact ⟨this.1, Nat.lt_of_lt_of_le this.2 hb.size⟩

theorem joinL_eq (sep : List UInt8) : ∀ xs : List ByteArray, joinL sep xs = Lib.join (xs.map (·.data.toList)) sep
  | [] => rfl
  | [x] => by rw [List.map_cons, List.map_nil, Lib.join_one]; rfl
  | x :: y :: l => by
    show x.data.toList ++ (sep ++ joinL sep (y :: l)) = _
    rw [joinL_eq sep (y :: l)]
    simp only [List.map_cons, Lib.join_cons, Lib.joinTail, List.flatten_cons]
    simp [List.append_assoc]

theorem strL_get : ∀ {vs : List Value} {xs : List ByteArray}, strL vs = some xs → vs = xs.map Value.string
  | [], xs, h => by cases h; rfl
  | v :: vs, xs, h => by
    unfold strL at h
    split at h
    · rename_i e; cases e
    · rename_i s l e
      obtain ⟨rfl, rfl⟩ := List.cons.inj e
      split at h
      · rename_i r hr; cases h; rw [strL_get hr]; rfl
      · cases h
    · cases h

/-- The contract of strings.Join. -/
def JoinOk (P : Program) (f : FuncId) : Prop :=
  (∀ (a : Option Addr) (c : Nat) (sep : ByteArray) (w : World), Calls P f #[.slice a 0 c, .string sep] w fun e w' => e = .returned (.string ⟨#[]⟩) ∧ w' = w) ∧
  ∀ (bk o c : Nat) (xs : List ByteArray) (sep : ByteArray) (w : World), (∀ (j : Nat) x, xs[j]? = some x → w.cell? ⟨bk, o + j, none⟩ = some (.string x)) → bk < w.heap.size → xs.length ≤ 140737488355328 → xs.length ≤ c →
    (Lib.join (xs.map (·.data.toList)) sep.data.toList).length ≤ 140737488355328 →
    Calls P f #[.slice (some ⟨bk, o, none⟩) xs.length c, .string sep] w fun e w' => e = .returned (.string ⟨(Lib.join (xs.map (·.data.toList)) sep.data.toList).toArray⟩) ∧ Below w.heap.size w w'

theorem two_args {σ : Int → Int} {ρ : Ren} {x y : Value} {args' : Array Value} (h : VsRel σ ρ [x, y] args'.toList) : ∃ x' y', args' = #[x', y'] ∧ VRel σ ρ x x' ∧ VRel σ ρ y y' := by
  obtain ⟨l⟩ := args'
  cases h with
  | cons h1 h2 => cases h2 with
    | cons h2 h3 => cases h3; exact ⟨_, _, rfl, h1, h2⟩
theorem one_arg {σ : Int → Int} {ρ : Ren} {x : Value} {args' : Array Value} (h : VsRel σ ρ [x] args'.toList) : ∃ x', args' = #[x'] ∧ VRel σ ρ x x' := by
  obtain ⟨l⟩ := args'
  cases h with
  | cons h1 h2 => cases h2; exact ⟨_, rfl, h1⟩

theorem join_told {f : FuncId} (K : JoinOk P f) {args : List Value} {h : AH} {v : Value} {h' : AH} (ht : toldJoin args h = some (v, h')) : CallOk σ P f args h v h' := by
  unfold toldJoin at ht
  split at ht
  · rename_i c s
    cases ht
    intro ρ w args' hargs H G
    obtain ⟨x', y', rfl, hx, hy⟩ := two_args hargs
    cases hx with
    | sl0 n c =>
      cases hy
      refine (K.1 none c s w).mono ?_
      rintro e w' ⟨rfl, rfl⟩
      exact ⟨_, ρ, rfl, .refl _ _ _, H, .string _⟩
  · rename_i a n c sep
    split at ht
    · rename_i vs hle hc
      have hle := ble_true.1 hle
      split at ht
      · rename_i xs hxs
        split at ht
        · rename_i v0 hj
          cases ht
          unfold joinV at hj
          split at hj
          · rename_i b1 b2
            cases hj
            have b1 := blt_true.1 b1
            have b2 := blt_true.1 b2
            rw [joinL_eq] at b2 ⊢
            intro ρ w args' hargs H G
            obtain ⟨x', y', rfl, hx, hy⟩ := two_args hargs
            cases hy
            cases hx with
            | sl id off sp p _ _ c' hp hcc hn hw =>
              have evs := strL_get hxs
              unfold cellsFrom at hc
              split at hc
              · cases hc
                have e0 : xs = [] := by cases xs with
                  | nil => rfl
                  | cons x l => cases evs
                subst e0
                refine (K.1 _ c' sep w).mono ?_
                rintro e w' ⟨rfl, rfl⟩
                exact ⟨_, ρ, rfl, .refl _ _ _, H, .string _⟩
              · rename_i n hle
                split at hc
                · rename_i cs el lo hi wd hb hsp
                  simp only at hsp
                  subst hsp
                  split at hc
                  · rename_i hlen
                    have hlen := ble_true.1 hlen
                    cases hc
                    have hl : xs.length = n + 1 := by
                      have := congrArg List.length evs
                      simp only [List.length_take, List.length_drop, List.length_map] at this
                      simp only at hlen
                      omega
                    have hcells : ∀ (j : Nat) x, xs[j]? = some x → w.cell? ⟨p.blk, off + j, none⟩ = some (.string x) := by
                      intro j x hj
                      have hjl : j < n + 1 := by rw [← hl]; exact (List.getElem?_eq_some_iff.1 hj).1
                      have e1 : ((cs.drop off).take (n + 1))[j]? = some (.string x) := by
                        have := congrArg (·[j]?) evs
                        simp only [List.getElem?_map, hj, Option.map_some] at this
                        exact this
                      rw [List.getElem?_take, if_pos hjl, List.getElem?_drop] at e1
                      have e2 : h.cell? ⟨id, off + j, none⟩ = some (.string x) := by
                        unfold AH.cell?
                        simp only at hb
                        simp only [hb]
                        exact e1
                      obtain ⟨v', g1, g2⟩ := H.cell ⟨p, hp, rfl⟩ e2
                      cases g2
                      exact g1
                    rw [show n.succ = xs.length from hl.symm]
                    refine (K.2 p.blk off c' xs sep w hcells (H.dom _ _ hp).2 (by omega) (by omega) (by omega)).mono ?_
                    rintro e w' ⟨rfl, hb⟩
                    obtain ⟨H', E'⟩ := told_below H hb
                    exact ⟨_, ρ, rfl, E', H', .string _⟩
                  · cases hc
                · cases hc
          · cases hj
        · cases ht
      · cases ht
    · cases ht
  · cases ht

/-- A call that lays new blocks, one of which is told. -/
theorem told_new {h : AH} {w w' : World} (H : HRel σ P ρ h w) (hb : Below w.heap.size w w') (hr : h.next < roof) {o : AObj} {x : Obj} {pl : Place} (hg : w.heap.size ≤ pl.blk) (hx : w'.heap[pl.blk]? = some x)
    (hm : OMatch σ P ρ pl o (some x)) : HRel σ P (Ren.add ρ h.next pl) (h.push o) w' ∧ Ext ρ h w (Ren.add ρ h.next pl) (h.push o) w' := by
  have hfree : ρ h.next = none := by
    cases e : ρ h.next with
    | none => rfl
    | some p => have := (H.dom _ _ e).1; omega
  have hle : Le ρ (Ren.add ρ h.next pl) := by
    intro id p hp
    unfold Ren.add
    rw [if_neg]
    · exact hp
    · intro e; subst e; rw [hfree] at hp; cases hp
  have hlt : pl.blk < w'.heap.size := (Array.getElem?_eq_some_iff.1 hx).1
  refine ⟨⟨?_, ?_, ?_, ?_⟩, hle, ?_, Nat.le_succ _, fun b hlt _ => hb.block b hlt, ?_, hb.size, hb.os, hb.tape, hb.output⟩
  · intro id oo q hgo hq
    rw [AH.get_push _ _ hr] at hgo
    by_cases e : id = h.next
    · subst e
      simp at hgo
      simp [Ren.add] at hq
      subst hq; subst hgo
      rw [hx]; exact hm.mono hle
    · simp [e] at hgo
      simp [Ren.add, e] at hq
      rw [hb.block _ (H.dom _ _ hq).2]
      exact (H.live _ _ _ hgo hq).mono hle
  · intro i j q s hi hj hq hs hqs
    rw [AH.get_push _ _ hr] at hi hj
    unfold Ren.add at hq hs
    by_cases ei : i = h.next <;> by_cases ej : j = h.next
    · rw [ei, ej]
    · simp [ei] at hq; simp [ej] at hs
      have := (H.dom _ _ hs).2
      subst hq; omega
    · simp [ei] at hq; simp [ej] at hs
      have := (H.dom _ _ hq).2
      subst hs; omega
    · simp [ei] at hq hi; simp [ej] at hs hj
      exact H.inj i j q s hi hj hq hs hqs
  · intro id q hq
    unfold Ren.add at hq
    by_cases e : id = h.next
    · simp [e] at hq; subst hq; subst e
      exact ⟨Nat.lt_succ_self _, hlt⟩
    · simp [e] at hq
      have := H.dom _ _ hq
      exact ⟨Nat.lt_succ_of_lt this.1, Nat.lt_of_lt_of_le this.2 hb.size⟩
  · intro i hi
    show i < h.next + 1
    rw [AH.get_push _ _ hr] at hi
    by_cases e : i = h.next
    · omega
    · rw [if_neg e] at hi; have := H.top i hi; omega
  · intro id hlt hn
    refine ⟨?_, ?_⟩
    · unfold Ren.add; rw [if_neg (by omega)]; exact hn
    · rw [AH.get_push _ _ hr, if_neg (by omega)]
  · intro id q hq hli hb'
    unfold Ren.add at hq
    rw [AH.get_push _ _ hr] at hli
    by_cases e : id = h.next
    · simp [e] at hq; subst hq; omega
    · simp [e] at hq hli
      exact ⟨id, q, hli, hq, rfl⟩

/-- The contract of the keys, sorted, by a map's iterator. -/
def KeysOk (P : Program) (f K e : Nat) : Prop :=
  ∀ (Bm b nn : Nat) (D0 : DataW Unit) (R : Value → Option (DataW Unit × List MemPlace)) (w : World), Bm < w.heap.size → w.cell? ⟨Bm, 0, none⟩ = some (.map (some b)) → w.ownsMap P e R b nn D0 →
    Maps.size D0 ≤ maxLen → Maps.size D0 * 16 ≤ 140737488355328 →
    Calls P f #[.func (.func K) #[] #[.pointer (some ⟨Bm, 0, none⟩)]] w fun q w' => ∃ (v : Value) (ss : List (List UInt8)), q = .returned v ∧ ss.Perm (strKeys D0) ∧
      w'.ownsRow w.heap.size e 1 v ss.length ((ss.mergeSort (fun x y => decide (x ≤ y))).map Proofs.encStr) ∧ (v = .slice none 0 0 ↔ ss = []) ∧ Below w.heap.size w w'

theorem keys_told {f K e : Nat} (hk : P.underlying e = some .string) (hz : (P.info? e).map (·.size) = some 1) (KK : KeysOk P f K e) {args : List Value} {h : AH} {v : Value} {h' : AH} (ht : toldKeys K e args h = some (v, h')) : CallOk σ P f args h v h' := by
  unfold toldKeys at ht
  split at ht
  · rename_i g a b
    split at ht
    · rename_i bx hK ea eb
      have hK := Nat.eq_of_beq_eq_true hK
      subst hK
      split at ht
      · rename_i m hc
        intro ρ w args' hargs H G
        obtain ⟨x', rfl, hx⟩ := one_arg hargs
        cases hx with
        | func _ _ _ a' b' ha hb' ra rb =>
          have e1 : a' = #[] := by
            have h1 := VsRel.of_array ha ra
            rw [ea] at h1
            obtain ⟨l⟩ := a'
            cases h1; rfl
          have h2 := VsRel.of_array hb' rb
          rw [eb] at h2
          obtain ⟨y', e2, hy⟩ := one_arg h2
          subst e1; subst e2
          obtain ⟨ad, rfl, p, hp, rfl⟩ := hy.to_addr
          obtain ⟨mv, hmv, hmr⟩ := H.cell ⟨p, hp, rfl⟩ hc
          cases hmr with
          | map _ q hq =>
            have hBm : p.blk < w.heap.size := (H.dom _ _ hp).2
            split at ht
            · rename_i ck hes
              cases ht
              obtain ⟨es', hobj, hl⟩ := (H.live _ _ _ hes hq).map_obj
              have ees : es' = #[] := by obtain ⟨l⟩ := es'; cases hl; rfl
              subst ees
              have own : w.ownsMap P e (fun _ => some (.nil, [])) q.blk 0 (.map ([] : List (Lit × DataW Unit))) :=
                ⟨#[], ck, hobj, ⟨by simp, ⟨fun x hx => by simp at hx, by simp, by simp⟩, fun x hx => by simp at hx⟩, by simp, rfl⟩
              refine (KK p.blk q.blk 0 _ _ w hBm hmv own (by simp [Maps.size]) (by simp [Maps.size])).mono ?_
              rintro qe w' ⟨v, ss, rfl, hS, hrow, hnil, hb⟩
              have e0 : ss = [] := by simpa [strKeys] using hS
              have ev := hnil.2 e0
              subst ev
              obtain ⟨H', E'⟩ := told_below H hb
              exact ⟨_, ρ, rfl, E', H', .sl0 0 0⟩
            · rename_i y ck hes
              split at ht
              · rename_i s hkey
                split at ht
                · rename_i hroof hborn hsz
                  have hroof := blt_true.1 hroof
                  have hborn := blt_true.1 hborn
                  have hsz := blt_true.1 hsz
                  cases ht
                  obtain ⟨es', hobj, hl⟩ := (H.live _ _ _ hes hq).map_obj
                  obtain ⟨z, ees, hz1⟩ : ∃ z, es' = #[z] ∧ ERel σ ρ y z := by
                    obtain ⟨l⟩ := es'
                    cases hl with
                    | cons h1 h2 => cases h2; exact ⟨_, rfl, h1⟩
                  subst ees
                  have hzk : z.key = .string s := by rw [hz1.key, hkey]
                  have hkey9 : keyOf P e z.key = some (.string s.data.toList) := by
                    rw [hzk]; exact WideMaps.keyOf_string_mk hk (by unfold maxLen; omega)
                  have hrd : WideElems.rd P e (fun _ => some ((.nil : DataW Unit), [])) z = some (.string s.data.toList, .nil) := by
                    unfold WideElems.rd; rw [hkey9]; rfl
                  have own : w.ownsMap P e (fun _ => some (.nil, [])) q.blk 1 (.map ([(.string s.data.toList, .nil)] : List (Lit × DataW Unit))) := by
                    refine ⟨#[z], ck, hobj, ⟨by simp [maxLen], ⟨?_, by simp, by simp⟩, ?_⟩, by simp, ?_⟩
                    · intro x hx
                      simp at hx; subst hx
                      rw [hz1.born]; exact hborn
                    · intro x hx
                      simp at hx; subst hx
                      exact ⟨_, hrd⟩
                    · simp [WideElems.rg, hrd, DataW.insert]
                  refine (KK p.blk q.blk 1 _ _ w hBm hmv own (by simp [Maps.size, maxLen]) (by simp [Maps.size])).mono ?_
                  rintro qe w' ⟨v, ss, rfl, hS, hrow, hnil, hb⟩
                  have e0 : ss = [s.data.toList] := by simpa [strKeys, strOf] using hS
                  subst e0
                  obtain ⟨_, hrow⟩ := hrow
                  rcases hrow with ⟨_, hn0⟩ | ⟨g, cap, cur, rfl, hg, hx, hcap, hmx, hcs, htk⟩
                  · simp at hn0
                  · have hm : OMatch σ P ρ ⟨g, cur.size, 1, true, none⟩ (.cells [.string s] e 0 0 true) (some (.cells cur e (0, 0))) := by
                      refine ⟨rfl, rfl, rfl, rfl, (fun h => by cases h), fun _ => hz, cur.toList.take 1, cur.toList.drop 1, (List.take_append_drop _ _).symm, ?_⟩
                      have : cur.toList.take 1 = [.string s] := by simpa [Proofs.encStr] using htk
                      rw [this]
                      exact .cons (.string s) .nil
                    obtain ⟨H', E'⟩ := told_new (pl := ⟨g, cur.size, 1, true, none⟩) H hb hroof hg hx hm
                    refine ⟨_, _, rfl, E', H', ?_⟩
                    refine .sl h.next 0 none ⟨g, cur.size, 1, true, none⟩ 1 1 cap (by simp [Ren.add]) hcap (fun h => by cases h) (fun _ => ?_)
                    simp at hcs
                    simp; omega
                · cases ht
              · cases ht
            · cases ht
      · cases ht
    · cases ht
  · cases ht
end Go.Ri
