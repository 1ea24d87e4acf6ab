/-
  For every number, window and choice of an offset the law MetricsWindows returns true, and what lay in memory is as it was.
  Conditions: the listed package-level variables hold what the program's text lays in them.
-/
import Derived.Test.YtojhgdpmbpgdgaaGreatDoorOwn
import Derived.Test.YtojhgdpmbpgdgaaGreatDoorLaid
import Derived.Test.YtojhgdpmbpgdgaaGreatDoorRunK0
import Derived.Test.YtojhgdpmbpgdgaaGreatDoorRunK1
import Derived.Test.YtojhgdpmbpgdgaaGreatDoorRunK3
import Derived.Test.YtojhgdpmbpgdgaaGreatDoorRunK4
import Derived.Test.YtojhgdpmbpgdgaaGreatDoorRunA0
import Derived.Test.YtojhgdpmbpgdgaaGreatDoorRunA1
import Derived.Test.YtojhgdpmbpgdgaaGreatDoorRunA2
import Derived.Test.YtojhgdpmbpgdgaaGreatDoorRunA3
import Derived.Test.YtojhgdpmbpgdgaaGreatDoorRunA4
import Derived.Test.YtojhgdpmbpgdgaaGreatDoorRunA5
import Derived.Test.YtojhgdpmbpgdgaaGreatDoorFin0
import Derived.Test.YtojhgdpmbpgdgaaGreatDoorFin1
import Derived.Test.YtojhgdpmbpgdgaaGreatDoorFin2
import Derived.Test.YtojhgdpmbpgdgaaGreatDoorFin3
import Derived.Test.YtojhgdpmbpgdgaaGreatDoorFin4
import Derived.Test.YtojhgdpmbpgdgaaGreatDoorFin5
import Derived.Test.YtojhgdpmbpgdgaaGreatDoorFinO
namespace Go.Proofs.YtojhgdpmbpgdgaaGreatDoor
open Go Go.Ri Go.RowKit

theorem c0_cfg {σ : Int → Int} : CfgOk σ C0 Tryz.prog := cfg_ok rfl symNone_ok
theorem entry0 {σ : Int → Int} {e : Entry} (h : runEntry C0 Tryz.prog 400 e = true) : EntryOk σ Tryz.prog e := entry_of_run mixed0 c0_cfg own0_ok h

theorem tabK_ok {σ : Int → Int} : ∀ t, t ∈ tabK → TabOk σ Tryz.prog t := by
  intro t ht
  simp only [tabK, List.mem_cons, List.not_mem_nil, or_false] at ht
  rcases ht with rfl | rfl | rfl
  · intro e he
    simp only [List.mem_cons, List.not_mem_nil, or_false] at he
    rcases he with rfl | rfl
    · exact ⟨rfl, entry0 runK0⟩
    · exact ⟨rfl, entry0 runK4⟩
  · intro e he
    simp only [List.mem_cons, List.not_mem_nil, or_false] at he
    rcases he with rfl | rfl | rfl
    · exact ⟨rfl, entry0 runK1⟩
    · exact ⟨rfl, entry0 runK2⟩
    · exact ⟨rfl, entry0 runK3⟩
  · intro e he
    simp only [List.mem_cons, List.not_mem_nil, or_false] at he
    subst he
    exact ⟨rfl, entry0 runK5⟩
theorem known_ok {σ : Int → Int} : EntryOk σ Tryz.prog entK6 :=
  entry_of_run (C := C1) mixed0 (with_cfg (l := tabK) c0_cfg) (with_own (l := tabK) own0_ok tabK_ok) runK6
theorem tabW_ok {σ : Int → Int} : ∀ t, t ∈ tabW → TabOk σ Tryz.prog t := by
  intro t ht
  simp only [tabW, List.mem_cons, List.not_mem_nil, or_false] at ht
  rcases ht with rfl | rfl
  · intro e he
    simp only [List.mem_cons, List.not_mem_nil, or_false] at he
    subst he
    exact ⟨rfl, known_ok⟩
  · intro e he
    simp only [List.mem_cons, List.not_mem_nil, or_false] at he
    rcases he with rfl | rfl | rfl | rfl | rfl | rfl | rfl | rfl | rfl | rfl | rfl | rfl | rfl | rfl | rfl | rfl | rfl | rfl
    · exact ⟨rfl, entry0 runA0true⟩
    · exact ⟨rfl, entry0 runA0false⟩
    · exact ⟨rfl, entry0 runA1true⟩
    · exact ⟨rfl, entry0 runA1false⟩
    · exact ⟨rfl, entry0 runA2true⟩
    · exact ⟨rfl, entry0 runA2false⟩
    · exact ⟨rfl, entry0 runA3true⟩
    · exact ⟨rfl, entry0 runA3false⟩
    · exact ⟨rfl, entry0 runA4true⟩
    · exact ⟨rfl, entry0 runA4false⟩
    · exact ⟨rfl, entry0 runA5true⟩
    · exact ⟨rfl, entry0 runA5false⟩
    · exact ⟨rfl, entry0 runB0⟩
    · exact ⟨rfl, entry0 runB1⟩
    · exact ⟨rfl, entry0 runB2⟩
    · exact ⟨rfl, entry0 runB3⟩
    · exact ⟨rfl, entry0 runB4⟩
    · exact ⟨rfl, entry0 runB5⟩

/-- The law's call, as it is told. -/
theorem law_call {σ : Int → Int} {s : Sym} (hs : SymOk σ Tryz.prog s) {r : Int} {off : Bool} (h : law (CW s) r off = some true) :
    ∃ h', CallOk σ Tryz.prog 3 [.int .i64 (big + 1005 + r), .int .i64 (big + 1), .bool off] hz (.bool true) h' ∧ isRow (h'.get 4) = true ∧ isRow (h'.get 6) = true ∧ isRow (h'.get 7) = true ∧ isRow (h'.get 11) = true := by
  have hO : OwnOk σ (CW s) Tryz.prog := with_own (l := tabW) own0_ok tabW_ok
  obtain ⟨v, h', h1, h2⟩ := runCall_sound (C := CW s) mixed0 (cfg_ok rfl hs) hO h
  split at h1
  · split at h1
    · rename_i g4 g6 g7 g11
      cases h1
      exact ⟨h', h2, g4, g6, g7, g11⟩
    · cases h1
  · cases h1

/-! ### The world at the call -/
def place0 (W : World) (g : Nat) : Ri.Place := ⟨g, 0, 0, false, W.heap[g]?⟩
def ren0 (W : World) : Ren := fun id => if id < 15 then some (place0 W id) else none
theorem ren0_some {W : World} {id : Nat} {p : Ri.Place} (h : ren0 W id = some p) : id < 15 ∧ p = place0 W id := by
  unfold ren0 at h
  split at h
  · exact ⟨by assumption, (Option.some.inj h).symm⟩
  · cases h
def rows0 : List (Nat × AObj) := [(4, .row row4), (6, .row row6), (7, .row row7), (11, .rowU ns11)]
theorem hz_get (id : Nat) : hz.get id = findB rows0 id := by
  show (putAll rows0 .leaf).get id = _
  rw [putAll_get (l := rows0) (by
    intro p hp
    simp only [rows0, List.mem_cons, List.not_mem_nil, or_false] at hp
    unfold roof
    rcases hp with rfl | rfl | rfl | rfl <;> simp)]
  cases findB rows0 id <;> rfl
theorem hz_cases {id : Nat} {o : AObj} (h : hz.get id = some o) : (id = 4 ∧ o = .row row4) ∨ (id = 6 ∧ o = .row row6) ∨ (id = 7 ∧ o = .row row7) ∨ (id = 11 ∧ o = .rowU ns11) := by
  rw [hz_get] at h
  obtain ⟨p, hp, h1, h2⟩ := findB_mem h
  simp only [rows0, List.mem_cons, List.not_mem_nil, or_false] at hp
  rcases hp with rfl | rfl | rfl | rfl
  · exact .inl ⟨h1.symm, h2.symm⟩
  · exact .inr (.inl ⟨h1.symm, h2.symm⟩)
  · exact .inr (.inr (.inl ⟨h1.symm, h2.symm⟩))
  · exact .inr (.inr (.inr ⟨h1.symm, h2.symm⟩))
theorem plain_refl {σ : Int → Int} {ρ : Ren} : ∀ {l : List Value}, l.all plainS = true → VsRel σ ρ l l
  | [], _ => .nil
  | v :: l, h => by
    simp only [List.all_cons, Bool.and_eq_true] at h
    exact .cons (.of_plain h.1) (plain_refl h.2)
theorem ns11_small : (ns11.all fun n => Nat.blt n (2 ^ 99)) = true := by kernel_rfl
theorem row_match {σ : Int → Int} {ρ : Ren} {W : World} {g : Nat} {l : List Value} (hp : l.all plainS = true) (h : ∃ e fr c, W.heap[g]? = some (.cells c e fr) ∧ c.toList = l) :
    OMatch σ Tryz.prog ρ (place0 W g) (.row l) W.heap[g]? := by
  obtain ⟨e, fr, c, h1, h2⟩ := h
  rw [h1]
  exact ⟨h1, c.toList, [], by simp, h2 ▸ plain_refl (by rw [← h2] at hp; exact hp)⟩

theorem rel0 {σ : Int → Int} {W : World} (R : RowsHold W) : HRel σ Tryz.prog (ren0 W) hz W := by
  obtain ⟨r4, r6, r7, r11, hsz⟩ := R
  refine ⟨?_, ?_, ?_, ?_⟩
  · intro id o p hg hp
    obtain ⟨_, rfl⟩ := ren0_some hp
    rcases hz_cases hg with ⟨rfl, rfl⟩ | ⟨rfl, rfl⟩ | ⟨rfl, rfl⟩ | ⟨rfl, rfl⟩
    · exact row_match (by decide +kernel) r4
    · exact row_match (by decide +kernel) r6
    · exact row_match (by decide +kernel) r7
    · obtain ⟨e, fr, c, h1, h2⟩ := r11
      show OMatch σ Tryz.prog _ (place0 W 11) _ W.heap[11]?
      rw [h1]
      refine ⟨h1, ?_, [], by simp [h2]⟩
      intro n hn
      have := blt_true.1 (List.all_eq_true.1 ns11_small n hn)
      have h3 : (Int.ofNat n) < ((2 ^ 99 : Nat) : Int) := Int.ofNat_lt.2 this
      have h4 : (((2 ^ 99 : Nat) : Int)) < big := by decide
      omega
  · intro i j p q _ _ hp hq e
    obtain ⟨_, rfl⟩ := ren0_some hp
    obtain ⟨_, rfl⟩ := ren0_some hq
    exact e
  · intro id p hp
    obtain ⟨h1, rfl⟩ := ren0_some hp
    exact ⟨by show id < 100; omega, by show id < W.heap.size; omega⟩
  · intro id hi
    cases e : hz.get id with
    | none => exact absurd e hi
    | some o =>
      show id < 100
      rcases hz_cases e with ⟨rfl, _⟩ | ⟨rfl, _⟩ | ⟨rfl, _⟩ | ⟨rfl, _⟩ <;> omega
theorem globs : Tryz.prog.globals.size = 15 := by kernel_rfl
theorem glob0 {W : World} : GlobOk Tryz.prog (ren0 W) := by
  intro g hg
  rw [globs] at hg
  exact ⟨place0 W g, if_pos hg, rfl⟩

theorem row_kept {σ : Int → Int} {W W' : World} {ρ' : Ren} {h' : AH} (E : Ext (ren0 W) hz W ρ' h' W') (H : HRel σ Tryz.prog ρ' h' W') {g : Nat} (hg : g < 15) (hr : isRow (h'.get g) = true) : W'.heap[g]? = W.heap[g]? := by
  have hp : ρ' g = some (place0 W g) := E.le g _ (if_pos hg)
  unfold isRow at hr
  split at hr
  · rename_i c e
    have := H.live g _ _ e hp
    change OMatch σ Tryz.prog ρ' (place0 W g) _ W'.heap[g]? at this
    match hx : W'.heap[g]?, this with
    | some (.cells c' e' fr), ⟨h1, _⟩ => exact h1.symm
  · rename_i c e
    have := H.live g _ _ e hp
    change OMatch σ Tryz.prog ρ' (place0 W g) _ W'.heap[g]? at this
    match hx : W'.heap[g]?, this with
    | some (.cells c' e' fr), ⟨h1, _⟩ => exact h1.symm
  · cases hr

/-- The law's call in the world. -/
theorem law_world {r fn w : Int} {off : Bool} {s : Sym} (hlo : -5 ≤ r) (hs : SymOk (sig r fn w) Tryz.prog s) (h : law (CW s) r off = some true) {W : World} (R : RowsHold W) :
    Calls Tryz.prog 3 #[.int .i64 fn, .int .i64 w, .bool off] W fun e W' => e = .returned (.bool true) ∧ Below W.heap.size W W' := by
  obtain ⟨h', K, g4, g6, g7, g11⟩ := law_call hs h
  have args : VsRel (sig r fn w) (ren0 W) [.int .i64 (big + 1005 + r), .int .i64 (big + 1), .bool off] (#[.int .i64 fn, .int .i64 w, .bool off] : Array Value).toList := by
    refine .cons ?_ (.cons ?_ (.cons (.bool off) .nil))
    · have := VRel.sym (σ := sig r fn w) (ρ := ren0 W) .i64 (big + 1005 + r) (by omega)
      have e : sig r fn w (big + 1005 + r) = fn := by unfold sig; rw [if_neg (by omega), if_pos (by omega)]
      rw [e] at this
      exact this
    · have := VRel.sym (σ := sig r fn w) (ρ := ren0 W) .i64 (big + 1) (by omega)
      have e : sig r fn w (big + 1) = w := by unfold sig; rw [if_pos (by omega)]; omega
      rw [e] at this
      exact this
  refine (K (ren0 W) W _ args (rel0 R) glob0).mono ?_
  rintro e W' ⟨v', ρ', rfl, E, H, hv⟩
  cases hv
  refine ⟨rfl, E.os, E.tape, E.output, E.size, ?_⟩
  intro k hk
  by_cases e4 : k = 4
  · subst e4; exact row_kept E H (by omega) g4
  by_cases e6 : k = 6
  · subst e6; exact row_kept E H (by omega) g6
  by_cases e7 : k = 7
  · subst e7; exact row_kept E H (by omega) g7
  by_cases e11 : k = 11
  · subst e11; exact row_kept E H (by omega) g11
  refine E.kept k hk ?_
  intro id p hl hp e
  obtain ⟨_, rfl⟩ := ren0_some hp
  have e : id = k := e
  subst e
  cases eq : hz.get id with
  | none => exact hl eq
  | some o => rcases hz_cases eq with ⟨h1, _⟩ | ⟨h1, _⟩ | ⟨h1, _⟩ | ⟨h1, _⟩ <;> omega

theorem mod_range (fn : Int) : -5 ≤ fn.tmod 6 ∧ fn.tmod 6 ≤ 5 := by
  by_cases h : fn < 0
  · have e : fn.tmod 6 = -((-fn).tmod 6) := by rw [Int.neg_tmod]; omega
    have e2 : (-fn).tmod 6 = (-fn) % 6 := Int.tmod_eq_emod_of_nonneg (by omega)
    rw [e, e2]; omega
  · have e2 : fn.tmod 6 = fn % 6 := Int.tmod_eq_emod_of_nonneg (by omega)
    rw [e2]; omega

theorem out_lo (off : Bool) : law (CW (symOut true false)) 0 off = some true := match off with
  | true => fin_lot
  | false => fin_lof
theorem out_hi (off : Bool) : law (CW (symOut false true)) 0 off = some true := match off with
  | true => fin_hit
  | false => fin_hif

theorem fin_all {r : Int} (h1 : -5 ≤ r) (h2 : r ≤ 5) (off : Bool) : law (CW symIn) r off = some true := by
  have hr : r = -5 ∨ r = -4 ∨ r = -3 ∨ r = -2 ∨ r = -1 ∨ r = 0 ∨ r = 1 ∨ r = 2 ∨ r = 3 ∨ r = 4 ∨ r = 5 := by omega
  rcases hr with rfl | rfl | rfl | rfl | rfl | rfl | rfl | rfl | rfl | rfl | rfl
  · cases off
    · exact fin_n5f
    · exact fin_n5t
  · cases off
    · exact fin_n4f
    · exact fin_n4t
  · cases off
    · exact fin_n3f
    · exact fin_n3t
  · cases off
    · exact fin_n2f
    · exact fin_n2t
  · cases off
    · exact fin_n1f
    · exact fin_n1t
  · cases off
    · exact fin_p0f
    · exact fin_p0t
  · cases off
    · exact fin_p1f
    · exact fin_p1t
  · cases off
    · exact fin_p2f
    · exact fin_p2t
  · cases off
    · exact fin_p3f
    · exact fin_p3t
  · cases off
    · exact fin_p4f
    · exact fin_p4t
  · cases off
    · exact fin_p5f
    · exact fin_p5t

/-- **The law's call, for every number, window and choice.** -/
theorem law_any (fn w : Int) (off : Bool) (W : World) (R : RowsHold W) : Calls Tryz.prog 3 #[.int .i64 fn, .int .i64 w, .bool off] W fun e W' => e = .returned (.bool true) ∧ Below W.heap.size W W' := by
  by_cases h1 : w < 1
  · exact law_world (r := 0) (by omega) (symOut_ok (lo := true) (hi := false) (decide_eq_true h1) (decide_eq_false (by omega))) (out_lo off) R
  · by_cases h2 : w > 1099511627776
    · exact law_world (r := 0) (by omega) (symOut_ok (lo := false) (hi := true) (decide_eq_false h1) (decide_eq_true h2)) (out_hi off) R
    · obtain ⟨h3, h4⟩ := mod_range fn
      exact law_world h3 (symIn_ok (by omega) (by omega) rfl) (fin_all h3 h4 off) R
end Go.Proofs.YtojhgdpmbpgdgaaGreatDoor
