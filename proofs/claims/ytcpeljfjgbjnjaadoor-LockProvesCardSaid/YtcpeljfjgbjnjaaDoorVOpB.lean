/- Stores. -/
import Derived.Test.YtcpeljfjgbjnjaaDoorVOpA
namespace Go.Vi
open Go.RowKit

theorem rep_one {X : Cx} {w : World} {x : V} {v : Value} (hx : x.cell1 = true) (h : Rep X w x (.val v)) : v.oneCell' = true := by
  cases x with
  | agg l => cases hx
  | tup l => cases hx
  | cref l => cases hx
  | undef => cases hx
  | int k n => rw [rep_int h]; rfl
  | bool b => rw [rep_bool h]; rfl
  | str s => rw [rep_str h]; rfl
  | nilptr => unfold Rep holds at h; rw [h]; rfl
  | nilfn => unfold Rep holds at h; rw [h]; rfl
  | fn f caps => unfold Rep holds at h; obtain ⟨cs, rfl, _⟩ := h; rfl
  | sl sz l c n =>
    unfold Rep holds at h
    cases n with
    | true => rw [h.2]; rfl
    | false => obtain ⟨a, cap, rfl, _⟩ := h; rfl
  | ref id off => unfold Rep holds at h; obtain ⟨_, ⟨a, rfl⟩, _⟩ := h; rfl
  | own id lo len c => unfold Rep holds at h; exact h.2.1
theorem repL_one {X : Cx} {w : World} : ∀ {l : List V} {vs : List Value}, V.cellAll l = true → RepL X w l (.vals vs) → ∀ v, v ∈ vs → v.oneCell' = true
  | [], vs, _, h, v, hv => by
    unfold RepL at h; subst h; cases hv
  | x :: xs, vs, hc, h, v, hv => by
    simp only [V.cellAll, Bool.and_eq_true] at hc
    unfold RepL at h
    obtain ⟨u, us, rfl, hu, hus⟩ := h
    rcases List.mem_cons.1 hv with rfl | hv
    · exact rep_one hc.1 hu
    · exact repL_one hc.2 hus v hv
theorem cells_one {v : Value} (h : v.oneCell' = true) : v.cells = #[v] := by
  cases v <;> first | rfl | cases h
/-- A value's cells, in hand. -/
theorem rep_cells {X : Cx} {w : World} {x : V} {v : Value} (hx : V.cellAll x.cells = true) (h : Rep X w x (.val v)) : RepL X w x.cells (.vals v.cells.toList) := by
  cases x with
  | agg l =>
    unfold Rep at h
    obtain ⟨vs, rfl, hl⟩ := h
    exact hl
  | tup l => simp [V.cells, V.cellAll, V.cell1] at hx
  | cref l => simp [V.cells, V.cellAll, V.cell1] at hx
  | undef => simp [V.cells, V.cellAll, V.cell1] at hx
  | _ =>
    have h1 := rep_one (by simpa [V.cells, V.cellAll] using hx) h
    rw [cells_one h1]
    simp only [V.cells]
    unfold RepL
    exact ⟨v, [], rfl, h, by unfold RepL; rfl⟩

/-! ### cells set in a block -/
theorem setCell_heap_ne (w : World) (b o : Nat) (v : Value) {b' : Nat} (h : b' ≠ b) : (w.setCell ⟨b, o, none⟩ v).heap[b']? = w.heap[b']? := by
  simp only [World.setCell]
  rw [Array.getElem?_modify, if_neg (fun e => h e.symm)]
theorem setCell_heap_same (w : World) (b o : Nat) (v : Value) {c : Array Value} {t : TypeId} {f : Nat × Nat} (h : w.heap[b]? = some (.cells c t f)) : (w.setCell ⟨b, o, none⟩ v).heap[b]? = some (.cells (c.setIfInBounds o v) t f) := by
  simp only [World.setCell]
  rw [Array.getElem?_modify, if_pos rfl, h]
  rfl
theorem setCells_facts (b : Nat) : ∀ (vs : List Value) (o : Nat) (w : World) {c : Array Value} {t : TypeId} {f : Nat × Nat}, w.heap[b]? = some (.cells c t f) →
    (∃ c', (w.setCells b o vs).heap[b]? = some (.cells c' t f) ∧ c'.size = c.size) ∧ (∀ b', b' ≠ b → (w.setCells b o vs).heap[b']? = w.heap[b']?) ∧
    (w.setCells b o vs).heap.size = w.heap.size ∧ (w.setCells b o vs).os = w.os ∧ (w.setCells b o vs).tape = w.tape ∧ (w.setCells b o vs).output = w.output
  | [], o, w, c, t, f, h => ⟨⟨c, h, rfl⟩, fun _ _ => rfl, rfl, rfl, rfl, rfl⟩
  | v :: vs, o, w, c, t, f, h => by
    have h1 := setCell_heap_same w b o v h
    obtain ⟨⟨c', g1, g2⟩, g3, g4, g5, g6, g7⟩ := setCells_facts b vs (o + 1) (w.setCell ⟨b, o, none⟩ v) h1
    refine ⟨⟨c', g1, by rw [g2]; simp⟩, fun b' hb => (g3 b' hb).trans (setCell_heap_ne w b o v hb), ?_, g5, g6, g7⟩
    rw [World.setCells, g4]
    simp [World.setCell]
theorem cell_of_heap {w : World} {b o : Nat} {c : Array Value} {t : TypeId} {f : Nat × Nat} (h : w.heap[b]? = some (.cells c t f)) : w.cell? ⟨b, o, none⟩ = c[o]? := by
  simp [World.cell?, h]

/-! ### flat rows -/
theorem flatL_append : ∀ (l m : List V), flatL (l ++ m) = flatL l ++ flatL m
  | [], m => rfl
  | x :: xs, m => by rw [List.cons_append, flatL, flatL, flatL_append xs m, List.append_assoc]
theorem flatL_len : ∀ (l : List V), (flatL l).length = cellsLen l
  | [] => rfl
  | x :: xs => by rw [flatL, List.length_append, flatL_len xs, cellsLen]
theorem rep_unrow {X : Cx} {w : World} {x : V} {b o : Nat} (h : RepL X w x.cells (.at_ b o)) : Rep X w x (.at_ b o) := by
  cases x with
  | agg l => unfold Rep; exact h
  | _ => simp only [V.cells] at h; unfold RepL at h; exact h.1
theorem repL_flat {X : Cx} {w : World} {b : Nat} : ∀ {l : List V} {o : Nat}, (∀ x, x ∈ l → ∀ y, y ∈ x.cells → y.cells = [y]) → (RepL X w l (.at_ b o) ↔ RepL X w (flatL l) (.at_ b o))
  | [], o, _ => by simp only [flatL]
  | x :: xs, o, hs => by
    rw [flatL, repL_append_at, cellsLen_single (hs x List.mem_cons_self)]
    have ih := repL_flat (X := X) (w := w) (b := b) (l := xs) (o := o + x.cells.length) (fun y hy => hs y (List.mem_cons_of_mem _ hy))
    constructor
    · intro h
      unfold RepL at h
      exact ⟨h.1.row, ih.1 h.2⟩
    · rintro ⟨h1, h2⟩
      unfold RepL
      exact ⟨rep_unrow h1, ih.2 h2⟩
/-- A part of a row of cells written: the run, and the row behind it. -/
theorem store_row {P : Program} {X : Cx} {w : World} {b off : Nat} {c : Array Value} {t : TypeId} {f : Nat × Nat} {R cs : List V} {us : List Value}
    (hb : w.heap[b]? = some (.cells c t f)) (hf : ∀ o, o < c.size → w.frozen? ⟨b, o, none⟩ = false) (hR : ∀ x, x ∈ R → x.inCell = true) (hrow : RepL X w R (.at_ b 0)) (hlen : R.length ≤ c.size)
    (hc : V.cellAll cs = true) (hcs : RepL X w cs (.vals us)) (ho : off + cs.length ≤ R.length) :
    (storeCells ⟨b, off, none⟩ us).run P w = .ok () (w.setCells b off us) ∧ ∀ X', Later X w X' (w.setCells b off us) → RepL X' (w.setCells b off us) (splice R off cs) (.at_ b 0) := by
  have hul := hcs.len
  have hcell : ∀ j, j < us.length → (w.cell? ⟨b, off + j, none⟩).isSome = true := fun j hj => by
    rw [cell_of_heap hb, Array.getElem?_eq_getElem (by omega)]; rfl
  have hrun := run_storeCells_cells (P := P) b off us 0 w (fun j hj => by rw [Nat.add_zero]; exact hcell j hj) (fun j hj => by rw [Nat.add_zero]; exact hf _ (by omega)) (repL_one hc hcs)
  rw [Nat.add_zero] at hrun
  refine ⟨hrun, fun X' L => ?_⟩
  obtain ⟨vs, hvl, hvc, hvr⟩ := hrow.read (fun x hx => cells_of_inCell (hR x hx))
  have hvr' := RepL.later L R _ (fun b o e => by cases e) hvr
  have hcs' := RepL.later L cs _ (fun b o e => by cases e) hcs
  have hnew : RepL X' (w.setCells b off us) (splice R off cs) (.vals (vs.take off ++ us ++ vs.drop (off + us.length))) := by
    unfold splice
    rw [← hul]
    exact repL_append_vals (repL_append_vals (repL_take_vals off hvr') hcs') (repL_drop_vals (off + cs.length) hvr')
  refine RepL.write (fun x hx => ?_) (fun i v hi => ?_) hnew
  · unfold splice at hx
    rcases List.mem_append.1 hx with hx | hx
    · rcases List.mem_append.1 hx with hx | hx
      · exact hR x (List.mem_of_mem_take hx)
      · exact inCell_of_cell1 (cellAll_mem hc x hx)
    · exact hR x (List.mem_of_mem_drop hx)
  · rw [Nat.zero_add]
    have hold : ∀ k, vs[k]? = some v → w.cell? ⟨b, k, none⟩ = some v := fun k hk => by
      have := hvc k v hk
      rw [Nat.zero_add] at this
      exact this
    have hto : (vs.take off).length = off := by rw [List.length_take]; omega
    by_cases h1 : i < off
    · rw [World.cell?_setCells_out b us off w ⟨b, i, none⟩ (fun _ _ => .inl h1)]
      refine hold i ?_
      rw [List.append_assoc, List.getElem?_append_left (by omega), List.getElem?_take_of_lt h1] at hi
      exact hi
    · by_cases h2 : i < off + us.length
      · have hj : i - off < us.length := by omega
        have := World.cell?_setCells_in b us off w hcell (i - off) hj
        rw [show off + (i - off) = i by omega] at this
        rw [this]
        rw [List.append_assoc, List.getElem?_append_right (by omega), hto, List.getElem?_append_left hj, List.getElem?_eq_getElem hj] at hi
        exact hi
      · rw [World.cell?_setCells_out b us off w ⟨b, i, none⟩ (fun _ _ => .inr (by simp; omega))]
        refine hold i ?_
        rw [List.getElem?_append_right (by rw [List.length_append, hto]; omega), List.length_append, hto, List.getElem?_drop] at hi
        rw [← hi]
        congr 1
        omega

end Go.Vi
