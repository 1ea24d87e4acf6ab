/-
  What the listed variables hold, cell for cell.
-/
import Derived.Test.YtojhgdpmbpgdgaaGreatDoorLaw
import Derived.Test.YtojhgdpmbpgdgaaGreatDoorRows
import Derived.Lib.LaidTab
import Derived.OpenShut
import Derived.MakeChecks
namespace Go.Proofs.YtojhgdpmbpgdgaaGreatDoor
open Go Go.Ri

theorem flat_cells {α : Type} {g : α → List Value} {k : Nat} (hg : ∀ x, (g x).length = k) : ∀ (l : List α) (cs : List Value), cs.length = l.length * k → (∀ (i : Nat) x, l[i]? = some x → (cs.drop (i * k)).take k = g x) → cs = l.flatMap g
  | [], cs, hl, _ => by
    simp at hl
    subst hl; rfl
  | x :: l, cs, hl, h => by
    have h0 := h 0 x rfl
    simp only [Nat.zero_mul, List.drop_zero] at h0
    have hl' : cs.length = l.length * k + k := by rw [hl, List.length_cons, Nat.succ_mul]
    have ih := flat_cells hg l (cs.drop k) (by rw [List.length_drop, hl']; omega) (fun i y hy => by
      have := h (i + 1) y (by simpa using hy)
      rw [List.drop_drop]
      rw [show k + i * k = (i + 1) * k by rw [Nat.succ_mul, Nat.add_comm]]
      exact this)
    rw [List.flatMap_cons, ← ih, ← h0, List.take_append_drop]

section
variable {H : Type} {enc : TypeId × Value → H} {P : Program} {w : World} {base : Nat} {sp : Nat → Bool} {held : Bool}
/-- A struct of whole numbers, one cell each, one behind the other. -/
theorem struct_cells {fuel : Nat} {t : TypeId} {fs : Array Field} {cs : List Value} {zs : List (IntKind × Int)} {p : List MemPlace} (ht : P.underlying t = some (.struct fs)) (hc : P.cellsOf t = zs.length)
    (hf : ∀ (i : Nat) z, zs[i]? = some z → ∃ f, fs[i]? = some f ∧ P.underlying f.type = some (.int z.1) ∧ f.offset = i ∧ P.cellsOf f.type = 1)
    (h : DataW.trod enc P w base sp held fuel t cs = some (.agg (zs.map fun z => .lit (.int z.1 z.2)), p)) : cs = zs.map fun z => Value.int z.1 z.2 := by
  obtain ⟨xs, n, rfl, hx, hlen, hn, hel⟩ := DataW.trod_struct ht h
  simp only [Prod.mk.injEq, DataW.agg.injEq] at hx
  apply List.ext_getElem?
  intro i
  by_cases hi : i < zs.length
  · obtain ⟨f, h1, h2, h3, h4⟩ := hf i zs[i] (List.getElem?_eq_getElem hi)
    have h5 := hel i f h1
    rw [h3, h4] at h5
    have hxi : i < xs.length := by
      have := congrArg List.length hx.1
      simp at this; omega
    rw [List.getElem?_eq_getElem hxi] at h5
    obtain ⟨m, e1, e2, _⟩ := DataW.trod_int h2 h5
    have e3 : xs[i].1 = .lit (.int zs[i].1 zs[i].2) := by
      have := congrArg (·[i]?) hx.1
      simp only [List.getElem?_map, List.getElem?_eq_getElem hi, List.getElem?_eq_getElem hxi, Option.map_some, Option.some.injEq] at this
      exact this.symm
    rw [e2] at e3
    simp only [DataW.lit.injEq, Lit.int.injEq] at e3
    have e4 : (cs.drop i)[0]? = some (.int zs[i].1 m) := by
      have := congrArg (·[0]?) e1
      simpa using this
    rw [List.getElem?_drop] at e4
    simp only [Nat.add_zero] at e4
    rw [e4, e3.2]
    simp [List.getElem?_map, List.getElem?_eq_getElem hi]
  · rw [List.getElem?_eq_none (by omega), List.getElem?_eq_none (by simpa using hi)]
end

theorem var_heap {P : Program} {w : World} {n : String} {g : Nat} {cs : Array Value} (hg : P.globalNamed n = some g) (h : w.var? P n = some cs) : ∃ e fr, w.heap[g]? = some (.cells cs e fr) := by
  simp only [World.var?, hg, Option.bind_some] at h
  split at h
  · rename_i c e f hx; cases h; exact ⟨_, _, hx⟩
  · cases h

/-- The name of the n-th listed variable. -/
def nameAt (n : Nat) : String := ((Rows.metricsWindowsRow.laid[n]?).map (·.1)).getD ""
theorem g4 : Tryz.prog.globalNamed (nameAt 4) = some 4 := by kernel_rfl
theorem g6 : Tryz.prog.globalNamed (nameAt 3) = some 6 := by kernel_rfl
theorem g7 : Tryz.prog.globalNamed (nameAt 8) = some 7 := by kernel_rfl
theorem g11 : Tryz.prog.globalNamed (nameAt 12) = some 11 := by kernel_rfl
theorem t4 : (Tryz.prog.globals[4]?).map (·.type) = some 4 := by kernel_rfl
theorem t6 : (Tryz.prog.globals[6]?).map (·.type) = some 309 := by kernel_rfl
theorem t7 : (Tryz.prog.globals[7]?).map (·.type) = some 337 := by kernel_rfl
theorem t11 : (Tryz.prog.globals[11]?).map (·.type) = some 355 := by kernel_rfl
theorem rows_len : Go.Pinned.pow10Rows.length = 696 := by kernel_rfl

theorem pow_cells {enc : TypeId × Value → Unit} {w : World} {base : Nat} {sp : Nat → Bool} {held : Bool} {fuel : Nat} {cs : List Value} {p : List MemPlace}
    (h : DataW.trod enc Tryz.prog w base sp held fuel 355 cs = some (Go.Pinned.pow10Tab, p)) : cs = ns11.map fun n => Value.int .u64 (Int.ofNat n) := by
  obtain ⟨xs, m, rfl, hx, hlen, hn, hel⟩ := DataW.trod_array Tryz.underlying355 h
  have c354 : Tryz.prog.cellsOf 354 = 2 := by kernel_rfl
  have c355 : Tryz.prog.cellsOf 355 = 1392 := by kernel_rfl
  have c143 : Tryz.prog.cellsOf 143 = 1 := by kernel_rfl
  rw [c354] at hel
  simp only [Prod.mk.injEq] at hx
  have hx1 : (Go.Pinned.pow10Rows.map fun x => (DataW.agg [.lit (.int .u64 x.1), .lit (.int .u64 x.2)] : DataW Unit)) = xs.map (·.1) := by
    have := hx.1
    unfold Go.Pinned.pow10Tab at this
    simpa using this
  have e1 : cs = Go.Pinned.pow10Rows.flatMap fun x => [Value.int .u64 (x.1 : Int), .int .u64 (x.2 : Int)] := by
    refine flat_cells (k := 2) (fun _ => rfl) _ _ (by rw [hlen, c355, rows_len]) ?_
    intro i x hi
    have hlt : i < 696 := by rw [← rows_len]; exact (List.getElem?_eq_some_iff.1 hi).1
    have h1 := hel i hlt
    have hxi : i < xs.length := by omega
    rw [List.getElem?_eq_getElem hxi] at h1
    have e3 : xs[i].1 = .agg [.lit (.int .u64 x.1), .lit (.int .u64 x.2)] := by
      have := congrArg (·[i]?) hx1
      simp only [List.getElem?_map, hi, List.getElem?_eq_getElem hxi, Option.map_some, Option.some.injEq] at this
      exact this.symm
    refine struct_cells (zs := [(.u64, (x.1 : Int)), (.u64, (x.2 : Int))]) (p := xs[i].2) Tryz.underlying354 (by rw [c354]; rfl) ?_ (h1.trans (congrArg some (Prod.ext e3 rfl)))
    intro j z hz
    match j, hz with
    | 0, hz =>
      cases hz
      exact ⟨_, rfl, Tryz.underlying143, rfl, c143⟩
    | 1, hz =>
      cases hz
      exact ⟨_, rfl, Tryz.underlying143, rfl, c143⟩
    | j + 2, hz => simp at hz
  rw [e1]
  unfold ns11
  rw [List.map_flatMap]
  rfl

/-- What the rows hold. -/
def RowsHold (W : World) : Prop :=
  (∃ e fr c, W.heap[4]? = some (.cells c e fr) ∧ c.toList = row4) ∧ (∃ e fr c, W.heap[6]? = some (.cells c e fr) ∧ c.toList = row6) ∧
  (∃ e fr c, W.heap[7]? = some (.cells c e fr) ∧ c.toList = row7) ∧ (∃ e fr c, W.heap[11]? = some (.cells c e fr) ∧ c.toList = ns11.map fun n => Value.int .u64 (Int.ofNat n)) ∧ 15 ≤ W.heap.size

theorem of_laid {W : World} (h : laidMetH Tryz.prog Rows.metricsWindowsRow.laid W) : RowsHold W := by
  rw [MakeChecks.laidMetH_plain _ _ _ (by kernel_rfl)] at h
  obtain ⟨ps, hv, _, _⟩ := h
  obtain ⟨_, _, _, _, _, _, _, _, _, _, hv, _⟩ := hv
  obtain ⟨a14, b14, c14, d14, e14, q14, hg14, ht14, hv14, hd14, hv, _⟩ := hv
  obtain ⟨_, _, _, _, _, _, _, _, _, _, hv, _⟩ := hv
  obtain ⟨a6, b6, c6, d6, e6, q6, hg6, ht6, hv6, hd6, hv, _⟩ := hv
  obtain ⟨a4, b4, c4, d4, e4, q4, hg4, ht4, hv4, hd4, hv, _⟩ := hv
  obtain ⟨_, _, _, _, _, _, _, _, _, _, hv, _⟩ := hv
  obtain ⟨_, _, _, _, _, _, _, _, _, _, hv, _⟩ := hv
  obtain ⟨_, _, _, _, _, _, _, _, _, _, hv, _⟩ := hv
  obtain ⟨a7, b7, c7, d7, e7, q7, hg7, ht7, hv7, hd7, hv, _⟩ := hv
  obtain ⟨_, _, _, _, _, _, _, _, _, _, hv, _⟩ := hv
  obtain ⟨_, _, _, _, _, _, _, _, _, _, hv, _⟩ := hv
  obtain ⟨_, _, _, _, _, _, _, _, _, _, hv, _⟩ := hv
  obtain ⟨a1, b1, c1, d1, e1, q1, hg1, ht1, hv1, hd1, hv, _⟩ := hv
  obtain rfl := Option.some.inj (g4.symm.trans hg4)
  obtain rfl := Option.some.inj (g6.symm.trans hg6)
  obtain rfl := Option.some.inj (g7.symm.trans hg7)
  obtain rfl := Option.some.inj (g11.symm.trans hg1)
  obtain rfl := Option.some.inj (t4.symm.trans ht4)
  obtain rfl := Option.some.inj (t6.symm.trans ht6)
  obtain rfl := Option.some.inj (t7.symm.trans ht7)
  obtain rfl := Option.some.inj (t11.symm.trans ht1)
  have c143 : Tryz.prog.cellsOf 143 = 1 := by kernel_rfl
  have c337 : Tryz.prog.cellsOf 337 = 20 := by kernel_rfl
  have c309 : Tryz.prog.cellsOf 309 = 3 := by kernel_rfl
  have c187 : Tryz.prog.cellsOf 187 = 1 := by kernel_rfl
  have c3 : Tryz.prog.cellsOf 3 = 1 := by kernel_rfl
  refine ⟨?_, ?_, ?_, ?_, ?_⟩
  · obtain ⟨e, fr, hh⟩ := var_heap g4 hv4
    refine ⟨e, fr, c4, hh, ?_⟩
    obtain ⟨b, h1, h2⟩ := DataW.trod_bool Tryz.underlying4 hd4
    simp only [Prod.mk.injEq, Rows.laid_internal_strconv_optimize, DataW.lit.injEq, Lit.bool.injEq] at h2
    rw [h1, ← h2.1]; rfl
  · obtain ⟨e, fr, hh⟩ := var_heap g6 hv6
    refine ⟨e, fr, c6, hh, ?_⟩
    refine struct_cells (zs := [(.u64, 52), (.u64, 11), (.i64, -1023)]) Tryz.underlying309 (by rw [c309]; rfl) ?_ hd6
    intro j z hz
    match j, hz with
    | 0, hz => cases hz; exact ⟨_, rfl, Tryz.underlying187, rfl, c187⟩
    | 1, hz => cases hz; exact ⟨_, rfl, Tryz.underlying187, rfl, c187⟩
    | 2, hz => cases hz; exact ⟨_, rfl, Tryz.underlying3, rfl, c3⟩
    | j + 3, hz => simp at hz
  · obtain ⟨e, fr, hh⟩ := var_heap g7 hv7
    exact ⟨e, fr, c7, hh, Lib.cells_of_tab (zs := [1, 10, 100, 1000, 10000, 100000, 1000000, 10000000, 100000000, 1000000000, 10000000000, 100000000000, 1000000000000, 10000000000000, 100000000000000, 1000000000000000, 10000000000000000, 100000000000000000, 1000000000000000000, 10000000000000000000]) Tryz.underlying337 Tryz.underlying143 c143 c337 hd7⟩
  · obtain ⟨e, fr, hh⟩ := var_heap g11 hv1
    exact ⟨e, fr, c1, hh, pow_cells hd1⟩
  · obtain ⟨e, fr, hh⟩ := var_heap (show Tryz.prog.globalNamed (nameAt 1) = some 14 by kernel_rfl) hv14
    exact (Array.getElem?_eq_some_iff.1 hh).1
end Go.Proofs.YtojhgdpmbpgdgaaGreatDoor
