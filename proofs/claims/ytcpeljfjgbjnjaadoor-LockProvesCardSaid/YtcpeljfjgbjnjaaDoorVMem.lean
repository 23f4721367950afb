/- Cells read and written: the machine's runs, told by rows of the interpreter's values. -/
import Derived.Test.YtcpeljfjgbjnjaaDoorVHeap
import Derived.Laws.Cells
import Derived.Laws.IdiomCopy
namespace Go.Vi
open Go.RowKit

theorem ne_agg_self (l : List V) : l ≠ [V.agg l] := by
  intro h
  have h1 : SizeOf.sizeOf l = SizeOf.sizeOf [V.agg l] := congrArg SizeOf.sizeOf h
  simp at h1
  omega
theorem single_of_cells {x : V} (h : x.cells = [x]) : (∀ l, x ≠ .agg l) := by
  rintro l rfl
  exact ne_agg_self l h
/-- A value of one cell: in a cell, and in hand. -/
theorem Rep.read {X : Cx} {w : World} {x : V} (hx : x.cells = [x]) {b o : Nat} (h : Rep X w x (.at_ b o)) : ∃ v, w.cell? ⟨b, o, none⟩ = some v ∧ Rep X w x (.val v) := by
  cases x with
  | agg l => exact (single_of_cells hx l rfl).elim
  | tup l => unfold Rep at h; exact h.elim
  | cref l => unfold Rep at h; exact h.elim
  | int k n => unfold Rep at h ⊢; exact h
  | bool b => unfold Rep at h ⊢; exact h
  | str s => unfold Rep at h ⊢; exact h
  | nilptr => unfold Rep at h ⊢; exact h
  | nilfn => unfold Rep at h ⊢; exact h
  | undef => unfold Rep at h ⊢; exact h
  | fn f caps => unfold Rep at h ⊢; exact h
  | sl sz l c n => unfold Rep at h ⊢; exact h
  | ref id off => unfold Rep at h ⊢; exact h
  | own id lo len c => unfold Rep at h ⊢; exact h
theorem Rep.write {X : Cx} {w : World} {x : V} (hx : x.inCell = true) {b o : Nat} {v : Value} (hc : w.cell? ⟨b, o, none⟩ = some v) (h : Rep X w x (.val v)) : Rep X w x (.at_ b o) := by
  cases x with
  | agg l => cases hx
  | tup l => cases hx
  | cref l => cases hx
  | undef => unfold Rep at h ⊢; exact ⟨v, hc, h⟩
  | int k n => unfold Rep at h ⊢; exact ⟨v, hc, h⟩
  | bool b => unfold Rep at h ⊢; exact ⟨v, hc, h⟩
  | str s => unfold Rep at h ⊢; exact ⟨v, hc, h⟩
  | nilptr => unfold Rep at h ⊢; exact ⟨v, hc, h⟩
  | nilfn => unfold Rep at h ⊢; exact ⟨v, hc, h⟩
  | fn f caps => unfold Rep at h ⊢; exact ⟨v, hc, h⟩
  | sl sz l c n => unfold Rep at h ⊢; exact ⟨v, hc, h⟩
  | ref id off => unfold Rep at h ⊢; exact ⟨v, hc, h⟩
  | own id lo len c => unfold Rep at h ⊢; exact ⟨v, hc, h⟩
theorem cells_of_cell1 {x : V} (h : x.cell1 = true) : x.cells = [x] := by
  cases x <;> first | rfl | cases h
theorem cells_of_inCell {x : V} (h : x.inCell = true) : x.cells = [x] := by
  cases x <;> first | rfl | cases h
theorem inCell_of_cell1 {x : V} (h : x.cell1 = true) : x.inCell = true := by
  cases x <;> first | rfl | cases h
theorem cell1_of_leaf {x : V} (h : x.leaf = true) : x.cell1 = true := by
  cases x <;> first | rfl | cases h
theorem cellAll_mem : ∀ {l : List V}, V.cellAll l = true → ∀ x, x ∈ l → x.cell1 = true
  | [], _, x, hx => by cases hx
  | y :: ys, h, x, hx => by
    simp only [V.cellAll, Bool.and_eq_true] at h
    rcases List.mem_cons.1 hx with rfl | hx
    · exact h.1
    · exact cellAll_mem h.2 x hx
theorem leafAll_mem : ∀ {l : List V}, V.leafAll l = true → ∀ x, x ∈ l → x.leaf = true
  | [], _, x, hx => by cases hx
  | y :: ys, h, x, hx => by
    simp only [V.leafAll, Bool.and_eq_true] at h
    rcases List.mem_cons.1 hx with rfl | hx
    · exact h.1
    · exact leafAll_mem h.2 x hx

/-- A row of cells, in hand. -/
theorem RepL.read {X : Cx} {w : World} {b : Nat} : ∀ {l : List V} {o : Nat}, (∀ x, x ∈ l → x.cells = [x]) → RepL X w l (.at_ b o) →
    ∃ vs : List Value, vs.length = l.length ∧ (∀ i v, vs[i]? = some v → w.cell? ⟨b, o + i, none⟩ = some v) ∧ RepL X w l (.vals vs)
  | [], o, _, _ => ⟨[], rfl, fun i v h => by simp at h, by unfold RepL; rfl⟩
  | x :: xs, o, hx, h => by
    unfold RepL at h
    have h1 := hx x List.mem_cons_self
    obtain ⟨v, hc, hv⟩ := h.1.read h1
    have h2 := h.2
    rw [h1] at h2
    obtain ⟨vs, hl, hcs, hvs⟩ := RepL.read (fun y hy => hx y (List.mem_cons_of_mem _ hy)) h2
    refine ⟨v :: vs, by simp [hl], fun i u hu => ?_, ?_⟩
    · cases i with
      | zero => simp at hu; subst hu; exact hc
      | succ i =>
        have := hcs i u (by simpa using hu)
        rw [show o + (i + 1) = o + 1 + i by omega]
        exact this
    · unfold RepL; exact ⟨v, vs, rfl, hv, hvs⟩
/-- Values in hand, in a row of cells. -/
theorem RepL.write {X : Cx} {w : World} {b : Nat} : ∀ {l : List V} {vs : List Value} {o : Nat}, (∀ x, x ∈ l → x.inCell = true) → (∀ i v, vs[i]? = some v → w.cell? ⟨b, o + i, none⟩ = some v) →
    RepL X w l (.vals vs) → RepL X w l (.at_ b o)
  | [], vs, o, _, _, _ => by unfold RepL; trivial
  | x :: xs, vs, o, hx, hc, h => by
    unfold RepL at h ⊢
    obtain ⟨v, vs', rfl, hv, hvs⟩ := h
    have h1 := hx x List.mem_cons_self
    refine ⟨hv.write h1 (by simpa using hc 0 v (by simp)), ?_⟩
    rw [cells_of_inCell h1]
    refine RepL.write (fun y hy => hx y (List.mem_cons_of_mem _ hy)) (fun i u hu => ?_) hvs
    have := hc (i + 1) u (by simpa using hu)
    rw [show o + [x].length + i = o + (i + 1) by simp; omega]
    exact this

/-! ### rows joined and parted -/
def cellsLen : List V → Nat
  | [] => 0
  | x :: xs => x.cells.length + cellsLen xs
theorem repL_append_at {X : Cx} {w : World} {b : Nat} : ∀ {l m : List V} {o : Nat}, RepL X w (l ++ m) (.at_ b o) ↔ RepL X w l (.at_ b o) ∧ RepL X w m (.at_ b (o + cellsLen l))
  | [], m, o => by
    constructor
    · intro h
      exact ⟨by unfold RepL; trivial, by simpa [cellsLen] using h⟩
    · intro h
      simpa [cellsLen] using h.2
  | x :: xs, m, o => by
    have ih := repL_append_at (X := X) (w := w) (b := b) (l := xs) (m := m) (o := o + x.cells.length)
    constructor
    · intro h
      rw [List.cons_append] at h
      unfold RepL at h
      have h2 := ih.1 h.2
      refine ⟨by unfold RepL; exact ⟨h.1, h2.1⟩, ?_⟩
      have := h2.2
      rw [Nat.add_assoc] at this
      exact this
    · rintro ⟨h1, h2⟩
      rw [List.cons_append]
      unfold RepL at h1 ⊢
      refine ⟨h1.1, ih.2 ⟨h1.2, ?_⟩⟩
      rw [Nat.add_assoc]
      exact h2
theorem repL_append_vals {X : Cx} {w : World} : ∀ {l m : List V} {vs us : List Value}, RepL X w l (.vals vs) → RepL X w m (.vals us) → RepL X w (l ++ m) (.vals (vs ++ us))
  | [], m, vs, us, h1, h2 => by
    unfold RepL at h1
    subst h1
    exact h2
  | x :: xs, m, vs, us, h1, h2 => by
    unfold RepL at h1
    obtain ⟨v, vs', rfl, hv, hvs⟩ := h1
    rw [List.cons_append]
    unfold RepL
    exact ⟨v, vs' ++ us, rfl, hv, repL_append_vals hvs h2⟩
theorem repL_drop_vals {X : Cx} {w : World} : ∀ (n : Nat) {l : List V} {vs : List Value}, RepL X w l (.vals vs) → RepL X w (l.drop n) (.vals (vs.drop n))
  | 0, _, _, h => h
  | n + 1, [], vs, h => by
    unfold RepL at h
    subst h
    unfold RepL
    rfl
  | n + 1, x :: xs, vs, h => by
    unfold RepL at h
    obtain ⟨v, vs', rfl, _, hvs⟩ := h
    exact repL_drop_vals n hvs
theorem repL_take_vals {X : Cx} {w : World} : ∀ (n : Nat) {l : List V} {vs : List Value}, RepL X w l (.vals vs) → RepL X w (l.take n) (.vals (vs.take n))
  | 0, _, _, _ => by simp only [List.take_zero]; unfold RepL; rfl
  | n + 1, [], vs, h => by
    unfold RepL at h
    subst h
    unfold RepL
    rfl
  | n + 1, x :: xs, vs, h => by
    unfold RepL at h
    obtain ⟨v, vs', rfl, hv, hvs⟩ := h
    simp only [List.take_succ_cons]
    unfold RepL
    exact ⟨v, _, rfl, hv, repL_take_vals n hvs⟩

/-! ### the machine's runs -/
theorem add_off (b o i : Nat) : (⟨b, o, none⟩ : Addr).add i = ⟨b, o + i, none⟩ := by
  unfold Addr.add
  split
  · rename_i h; subst h; rfl
  · rfl
theorem run_row {P : Program} {w : World} {b o : Nat} {vs : List Value} (h : ∀ i v, vs[i]? = some v → w.cell? ⟨b, o + i, none⟩ = some v) : (loadCells ⟨b, o, none⟩ vs.length).run P w = .ok vs.toArray w :=
  run_loadCells_list w _ vs (fun j v hv => by rw [add_off]; exact h j v hv)

end Go.Vi
