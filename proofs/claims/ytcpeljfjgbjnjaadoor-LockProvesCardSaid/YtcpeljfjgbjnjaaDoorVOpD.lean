/- What lays new memory: a variable, a box, a slice's literal, make. -/
import Derived.Test.YtcpeljfjgbjnjaaDoorVOpC
namespace Go.Vi
open Go.RowKit

/-- A new entry e at place slot: in whatever heap that has it, what was told holds on, and the value reads so. -/
def NewOk (X : Cx) (w : World) (slot : Nat) (e : Ent) (x : V) (v : Value) (w' : World) : Prop :=
  ∀ H', look H' slot = e → (∀ id, id ≠ slot → look H' id = look X.H id) → Later X w (X.add slot w.heap.size H') w' ∧ Ents (X.add slot w.heap.size H') w' ∧ Rep (X.add slot w.heap.size H') w' x (.val v)

section
variable {P : Program} {T : Ty} {X : Cx} {w : World}

theorem alloc_cell (w : World) (c : Array Value) (t : TypeId) (f : Nat × Nat) (o : Nat) : (w.alloc (.cells c t f)).cell? ⟨w.heap.size, o, none⟩ = c[o]? := cell_of_heap (heap_alloc_new w _)
theorem alloc_frozen (w : World) (c : Array Value) (t : TypeId) (o : Nat) : (w.alloc (.cells c t)).frozen? ⟨w.heap.size, o, none⟩ = false := by
  simp only [World.frozen?, heap_alloc_new]
  simp
/-- a new block of a row's cells, and some behind it -/
theorem new_box {slot : Nat} (hs : ¬ X.ok slot) (E : Ents X w) {l : List V} {vs : List Value} (t : TypeId) (hl : V.cellAll l = true) (hr : RepL X w l (.vals vs)) :
    NewOk X w slot (.box l t) (.ref slot 0) (.pointer (some ⟨w.heap.size, 0, none⟩)) (w.alloc (.cells vs.toArray t)) := by
  intro H' h1 h2
  have L := add_later E (.cells vs.toArray t) hs h2
  have hι : (X.add slot w.heap.size H').ι slot = w.heap.size := if_pos rfl
  refine ⟨L, add_ents E _ hs h2 ?_, ?_⟩
  · rw [h1]
    refine ⟨vs.toArray, (0, 0), heap_alloc_new w _, by rw [hr.len]; simp, fun o _ => alloc_frozen w _ t o, fun x hx => inCell_of_cell1 (cellAll_mem hl x hx), ?_⟩
    refine RepL.write (fun x hx => inCell_of_cell1 (cellAll_mem hl x hx)) (fun i v hi => ?_) (RepL.later L l _ (fun b o e => by cases e) hr)
    rw [alloc_cell, Nat.zero_add]
    simpa using hi
  · unfold Rep holds
    exact ⟨.inr rfl, ⟨_, rfl⟩, fun _ => by rw [hι]⟩
theorem flat_vals_plain {sz : Nat} {l : List V} (h : ∀ x, x ∈ l → V.plain sz x = true) : V.cellAll (flatL l) = true := cellAll_of_leafAll (leafAll_of_mem (flat_leaf h))
theorem new_arr {slot : Nat} (hs : ¬ X.ok slot) (E : Ents X w) {sz : Nat} {xs : List V} {vs us : List Value} (t : TypeId) (f : Nat × Nat) (clip : Bool) (n cap : Nat) (hp : ∀ x, x ∈ xs → V.plain sz x = true) (hr : RepL X w (flatL xs) (.vals vs))
    (hf : ∀ o, o < (vs ++ us).length → (w.alloc (.cells (vs ++ us).toArray t f)).frozen? ⟨w.heap.size, o, none⟩ = false) (hc : n ≤ cap) (hcl : clip = true → cap = n) (hcap : cap * sz ≤ (vs ++ us).length) :
    NewOk X w slot (.arr sz xs t) (.own slot 0 n clip) (.slice (some ⟨w.heap.size, 0, none⟩) n cap) (w.alloc (.cells (vs ++ us).toArray t f)) := by
  intro H' h1 h2
  have L := add_later E (.cells (vs ++ us).toArray t f) hs h2
  have hι : (X.add slot w.heap.size H').ι slot = w.heap.size := if_pos rfl
  have hfl : (flatL xs).length = xs.length * sz := by rw [flatL_len, cellsLen_plain hp]
  have hvl := hr.len
  refine ⟨L, add_ents E _ hs h2 ?_, ?_⟩
  · rw [h1]
    refine ⟨(vs ++ us).toArray, f, heap_alloc_new w _, ?_, fun o ho => hf o (by simpa using ho), hp, ?_⟩
    · simp only [List.size_toArray, List.length_append]; omega
    · refine (repL_flat (fun x hx => plain_single (hp x hx))).2 ?_
      refine RepL.write (fun x hx => inCell_of_cell1 (cell1_of_leaf (flat_leaf hp x hx))) (fun i v hi => ?_) (RepL.later L _ _ (fun b o e => by cases e) hr)
      rw [alloc_cell, Nat.zero_add]
      have hi' : i < vs.length := by
        apply Classical.byContradiction
        intro hn
        rw [List.getElem?_eq_none (by omega)] at hi
        cases hi
      simp only [List.getElem?_toArray]
      rw [List.getElem?_append_left hi']
      exact hi
  · unfold Rep holds
    refine ⟨.inr rfl, rfl, fun _ => ⟨_, cap, rfl, .inr ?_, hc, hcl, ?_⟩⟩
    · rw [hι, Nat.zero_mul]
    · rw [show look (X.add slot w.heap.size H').H slot = .arr sz xs t from h1, hι, cellsIn_of (heap_alloc_new w _), Nat.zero_add]
      simpa [Ent.sz] using hcap

theorem run_newVar (t : TypeId) (v : Value) : (newVar t v).run P w = .ok ⟨w.heap.size, 0, none⟩ (w.alloc (.cells v.cells t)) := rfl
theorem alloc_sound (hT : TabOk P T) (E : Ents X w) {slot : Nat} (hs : ¬ X.ok slot) {t : TypeId} {i : TI} (hi : T t = some i) :
    ∃ v w', (Instr.alloc t true (.tuple #[])).run P w = .ok v w' ∧ NewOk X w slot (.box i.zero t) (.ref slot 0) v w' := by
  have F := hT.facts hi
  obtain ⟨z, h1, h2, h3, h4⟩ := run_zero F X w
  have := new_box hs E t (cellAll_of_leafAll h3) h2
  refine ⟨_, _, ?_, this⟩
  simp only [Instr.alloc, Sem.run_bind, h1, Result.andThen_ok, run_newVar, Sem.run_pure]
theorem box_sound (E : Ents X w) {slot : Nat} (hs : ¬ X.ok slot) {t : TypeId} {x : V} {v : Value} (hc : V.cellAll x.cells = true) (hv : Rep X w x (.val v)) :
    ∃ v' w', (Instr.box t v).run P w = .ok v' w' ∧ NewOk X w slot (.box x.cells t) (.ref slot 0) v' w' := by
  have := new_box hs E t hc (rep_cells hc hv)
  refine ⟨_, _, ?_, this⟩
  simp only [Instr.box, Sem.run_bind, run_newVar, Result.andThen_ok, Sem.run_pure]
end

end Go.Vi
