/- The interpreter's heap in the machine's: a new entry, a written one, one that is given up; memory that others lay. -/
import Derived.Test.YtcpeljfjgbjnjaaDoorVRel
import Derived.Laws.World
namespace Go.Vi
open Go.RowKit

/-- An entry of the interpreter's heap, in block b. -/
def EntOk (X : Cx) (w : World) (b : Nat) : Ent → Prop
  | .dead => True
  | .box l bt => ∃ c f, w.heap[b]? = some (.cells c bt f) ∧ c.size = l.length ∧ (∀ o, o < c.size → w.frozen? ⟨b, o, none⟩ = false) ∧ (∀ x, x ∈ l → x.inCell = true) ∧ RepL X w l (.at_ b 0)
  | .arr sz xs bt => ∃ c f, w.heap[b]? = some (.cells c bt f) ∧ xs.length * sz ≤ c.size ∧ (∀ o, o < c.size → w.frozen? ⟨b, o, none⟩ = false) ∧ (∀ x, x ∈ xs → V.plain sz x = true) ∧ RepL X w xs (.at_ b 0)
structure Ents (X : Cx) (w : World) : Prop where
  en : ∀ id, EntOk X w (X.ι id) (look X.H id)
  ok : ∀ id, X.alive id → X.ok id
  inj : ∀ id id', X.alive id → X.alive id' → X.ι id = X.ι id' → id = id'
  phlt : ∀ b, X.ph b → b < w.heap.size
  nph : ∀ id, X.alive id → ¬ X.ph (X.ι id)

theorem EntOk.block {X : Cx} {w : World} {b : Nat} {e : Ent} (h : EntOk X w b e) (ha : e.alive = true) : ∃ c t f, w.heap[b]? = some (.cells c t f) := by
  cases e with
  | dead => cases ha
  | box l bt => obtain ⟨c, f, h, _⟩ := h; exact ⟨c, _, f, h⟩
  | arr sz xs low => obtain ⟨c, f, h, _⟩ := h; exact ⟨c, _, f, h⟩
theorem lt_of_block {w : World} {b : Nat} {o : Obj} (h : w.heap[b]? = some o) : b < w.heap.size := by
  apply Classical.byContradiction
  intro hn
  rw [Array.getElem?_eq_none (by omega)] at h
  cases h
theorem Ents.lt {X : Cx} {w : World} (E : Ents X w) {id : Nat} (ha : X.alive id) : X.ι id < w.heap.size := by
  obtain ⟨c, t, f, h⟩ := (E.en id).block ha
  exact lt_of_block h
theorem Ents.own_lt {X : Cx} {w : World} (E : Ents X w) {b : Nat} (ho : X.own b) : b < w.heap.size := by
  obtain ⟨id, ha, rfl⟩ := ho
  exact E.lt ha
theorem frozen_same {w w' : World} {b : Nat} (h : w'.heap[b]? = w.heap[b]?) (o : Nat) (s : Option Nat) : w'.frozen? ⟨b, o, s⟩ = w.frozen? ⟨b, o, s⟩ := by
  simp only [World.frozen?, h]
theorem cellsIn_same {w w' : World} {b : Nat} (h : w'.heap[b]? = w.heap[b]?) : World.cellsIn w' b = World.cellsIn w b := by
  simp only [World.cellsIn, h]
theorem cellsIn_of {w : World} {b : Nat} {c : Array Value} {t : TypeId} {f : Nat × Nat} (h : w.heap[b]? = some (.cells c t f)) : World.cellsIn w b = c.size := by
  simp only [World.cellsIn, h]
theorem EntOk.later {X X' : Cx} {w w' : World} (L : Later X w X' w') {b : Nat} {e : Ent} (hb : w'.heap[b]? = w.heap[b]?) (h : EntOk X w b e) : EntOk X' w' b e := by
  cases e with
  | dead => trivial
  | box l bt =>
    obtain ⟨c, f, h1, h2, h3, h4, h5⟩ := h
    exact ⟨c, f, hb.trans h1, h2, fun o ho => (frozen_same hb o none).trans (h3 o ho), h4, RepL.later L l _ (fun b' o' e => by cases e; exact hb) h5⟩
  | arr sz xs low =>
    obtain ⟨c, f, h1, h2, h3, h4, h5⟩ := h
    exact ⟨c, f, hb.trans h1, h2, fun o ho => (frozen_same hb o none).trans (h3 o ho), h4, RepL.later L xs _ (fun b' o' e => by cases e; exact hb) h5⟩

/-- What others lay changes nothing. -/
theorem grow_later {X : Cx} {w w' : World} (E : Ents X w) (hb : Below w.heap.size w w') : Later X w X w' ∧ Ents X w' := by
  have L : Later X w X w' :=
    ⟨fun _ _ => rfl, fun _ h => h, fun id _ ha => ⟨ha, rfl, cellsIn_same (hb.block _ (E.lt ha))⟩, hb.size, hb.os, hb.tape, hb.output, fun b h => hb.block b h.1, fun _ h => .inl h, fun _ => Iff.rfl⟩
  refine ⟨L, ⟨fun id => ?_, E.ok, E.inj, fun b h => Nat.lt_of_lt_of_le (E.phlt b h) hb.size, E.nph⟩⟩
  by_cases ha : X.alive id
  · exact (E.en id).later L (hb.block _ (E.lt ha))
  · have : look X.H id = .dead := by
      cases h : look X.H id with
      | dead => rfl
      | box l bt => exact (ha (by unfold Cx.alive; rw [h]; rfl)).elim
      | arr sz xs low => exact (ha (by unfold Cx.alive; rw [h]; rfl)).elim
    rw [this]; trivial

/-- The context with a new entry, in block b. -/
def Cx.add (X : Cx) (slot b : Nat) (H : List Ent) : Cx := { ι := fun id => if id = slot then b else X.ι id, ok := fun id => X.ok id ∨ id = slot, H := H, ph := X.ph }

theorem heap_alloc_lt (w : World) (o : Obj) {b : Nat} (h : b < w.heap.size) : (w.alloc o).heap[b]? = w.heap[b]? := by
  show (w.heap.push o)[b]? = w.heap[b]?
  rw [Array.getElem?_push, if_neg (by omega)]
theorem heap_alloc_new (w : World) (o : Obj) : (w.alloc o).heap[w.heap.size]? = some o := by
  show (w.heap.push o)[w.heap.size]? = some o
  simp
theorem add_later {X : Cx} {w : World} (E : Ents X w) (o : Obj) {slot : Nat} {H : List Ent} (hs : ¬ X.ok slot) (hH : ∀ id, id ≠ slot → look H id = look X.H id) :
    Later X w (X.add slot w.heap.size H) (w.alloc o) := by
  have hne : ∀ id, X.ok id → id ≠ slot := fun id h e => hs (e ▸ h)
  refine ⟨fun id h => if_neg (hne id h), fun id h => .inl h, fun id h ha => ?_, by simp, rfl, rfl, rfl, fun b h => heap_alloc_lt w o h.1, fun b hb => ?_, fun _ => Iff.rfl⟩
  · have e := hH id (hne id h)
    have ha' : X.alive id := by
      unfold Cx.alive at ha ⊢
      rw [show look (X.add slot w.heap.size H).H id = look X.H id from e] at ha
      exact ha
    exact ⟨ha', congrArg Ent.sz e, cellsIn_same (heap_alloc_lt w o (E.lt ha'))⟩
  · obtain ⟨id, ha, hi⟩ := hb
    by_cases e : id = slot
    · right
      have : (X.add slot w.heap.size H).ι id = w.heap.size := if_pos e
      omega
    · left
      refine ⟨id, ?_, ?_⟩
      · unfold Cx.alive at ha ⊢
        rw [show look (X.add slot w.heap.size H).H id = look X.H id from hH id e] at ha
        exact ha
      · rw [← hi]
        exact (if_neg e).symm
theorem add_ents {X : Cx} {w : World} (E : Ents X w) (o : Obj) {slot : Nat} {H : List Ent} (hs : ¬ X.ok slot) (hH : ∀ id, id ≠ slot → look H id = look X.H id)
    (hnew : EntOk (X.add slot w.heap.size H) (w.alloc o) w.heap.size (look H slot)) : Ents (X.add slot w.heap.size H) (w.alloc o) := by
  have L := add_later E o hs hH
  have hal : ∀ id, id ≠ slot → (X.add slot w.heap.size H).alive id → X.alive id := fun id e ha => by
    unfold Cx.alive at ha ⊢
    rw [show look (X.add slot w.heap.size H).H id = look X.H id from hH id e] at ha
    exact ha
  refine ⟨fun id => ?_, fun id ha => ?_, fun id id' ha ha' he => ?_, fun b h => by have := E.phlt b h; simp; omega, fun id ha hp => ?_⟩
  rotate_right
  · by_cases e : id = slot
    · rw [show (X.add slot w.heap.size H).ι id = w.heap.size from if_pos e] at hp
      have := E.phlt _ hp
      omega
    · rw [show (X.add slot w.heap.size H).ι id = X.ι id from if_neg e] at hp
      exact E.nph id (hal id e ha) hp
  · by_cases e : id = slot
    · subst e
      rw [show (X.add id w.heap.size H).ι id = w.heap.size from if_pos rfl]
      exact hnew
    · rw [show (X.add slot w.heap.size H).ι id = X.ι id from if_neg e, show look (X.add slot w.heap.size H).H id = look X.H id from hH id e]
      by_cases ha : X.alive id
      · exact (E.en id).later L (heap_alloc_lt w o (E.lt ha))
      · have hd : look X.H id = .dead := by
          cases h : look X.H id with
          | dead => rfl
          | box l bt => exact (ha (by unfold Cx.alive; rw [h]; rfl)).elim
          | arr sz xs low => exact (ha (by unfold Cx.alive; rw [h]; rfl)).elim
        rw [hd]; trivial
  · by_cases e : id = slot
    · exact .inr e
    · exact .inl (E.ok id (hal id e ha))
  · by_cases e : id = slot <;> by_cases e' : id' = slot
    · rw [e, e']
    · have h1 : (X.add slot w.heap.size H).ι id = w.heap.size := if_pos e
      have h2 : (X.add slot w.heap.size H).ι id' = X.ι id' := if_neg e'
      have := E.lt (hal id' e' ha')
      omega
    · have h1 : (X.add slot w.heap.size H).ι id' = w.heap.size := if_pos e'
      have h2 : (X.add slot w.heap.size H).ι id = X.ι id := if_neg e
      have := E.lt (hal id e ha)
      omega
    · have h1 : (X.add slot w.heap.size H).ι id = X.ι id := if_neg e
      have h2 : (X.add slot w.heap.size H).ι id' = X.ι id' := if_neg e'
      exact E.inj id id' (hal id e ha) (hal id' e' ha') (by omega)

/-- The context whose heap is another one. -/
def Cx.with (X : Cx) (H : List Ent) : Cx := { X with H := H }
theorem look_set (H : List Ent) (id : Nat) (e : Ent) (h : id < H.length) (i : Nat) : look (H.set id e) i = if i = id then e else look H i := by
  unfold look
  simp only [List.getD_eq_getElem?_getD, List.getElem?_set]
  by_cases hi : id = i
  · subst hi; simp [h]
  · rw [if_neg hi, if_neg (fun e => hi e.symm)]
theorem lt_of_alive {H : List Ent} {id : Nat} (h : (look H id).alive = true) : id < H.length := by
  apply Classical.byContradiction
  intro hn
  unfold look at h
  rw [List.getD_eq_getElem?_getD, List.getElem?_eq_none (by omega)] at h
  cases h
/-- A written entry: only its block is another one, of as many cells. -/
theorem write_later {X : Cx} {w w' : World} {id : Nat} {e : Ent} (ha : X.alive id) (hz : e.sz = (look X.H id).sz)
    (hsz : w'.heap.size = w.heap.size) (hos : w'.os = w.os) (htp : w'.tape = w.tape) (hout : w'.output = w.output)
    (hb : ∀ b, b ≠ X.ι id → w'.heap[b]? = w.heap[b]?) (hc : World.cellsIn w' (X.ι id) = World.cellsIn w (X.ι id)) :
    Later X w (X.with (X.H.set id e)) w' := by
  have hl := lt_of_alive ha
  have hal : ∀ i, (X.with (X.H.set id e)).alive i → X.alive i := fun i hi => by
    by_cases h : i = id
    · rw [h]; exact ha
    · unfold Cx.alive at hi ⊢
      rw [show look (X.with (X.H.set id e)).H i = look X.H i from (look_set X.H id e hl i).trans (if_neg h)] at hi
      exact hi
  refine ⟨fun _ _ => rfl, fun _ h => h, fun i _ hi => ⟨hal i hi, ?_, ?_⟩, by omega, hos, htp, hout, fun b h => ?_, fun b ho => ?_, fun _ => Iff.rfl⟩
  · show (look (X.H.set id e) i).sz = _
    rw [look_set X.H id e hl i]
    by_cases h : i = id
    · rw [if_pos h, h]; exact hz
    · rw [if_neg h]
  · by_cases h : X.ι i = X.ι id
    · rw [h]; exact hc
    · exact cellsIn_same (hb _ h)
  · exact hb b (fun h' => h.2 ⟨id, ha, h'.symm⟩)
  · obtain ⟨i, hi, hb'⟩ := ho
    exact .inl ⟨i, hal i hi, hb'⟩
theorem write_ents {X : Cx} {w w' : World} (E : Ents X w) {id : Nat} {e : Ent} (ha : X.alive id) (hz : e.sz = (look X.H id).sz)
    (hsz : w'.heap.size = w.heap.size) (hos : w'.os = w.os) (htp : w'.tape = w.tape) (hout : w'.output = w.output)
    (hb : ∀ b, b ≠ X.ι id → w'.heap[b]? = w.heap[b]?) (hc : World.cellsIn w' (X.ι id) = World.cellsIn w (X.ι id))
    (hnew : EntOk (X.with (X.H.set id e)) w' (X.ι id) e) : Ents (X.with (X.H.set id e)) w' := by
  have L := write_later (X := X) (e := e) ha hz hsz hos htp hout hb hc
  have hl := lt_of_alive ha
  have hal : ∀ i, (X.with (X.H.set id e)).alive i → X.alive i := fun i hi => by
    by_cases h : i = id
    · rw [h]; exact ha
    · unfold Cx.alive at hi ⊢
      rw [show look (X.with (X.H.set id e)).H i = look X.H i from (look_set X.H id e hl i).trans (if_neg h)] at hi
      exact hi
  refine ⟨fun i => ?_, fun i hi => E.ok i (hal i hi), fun i j hi hj h => E.inj i j (hal i hi) (hal j hj) h, fun b h => by have := E.phlt b h; omega, fun i hi => E.nph i (hal i hi)⟩
  show EntOk _ w' (X.ι i) (look (X.H.set id e) i)
  rw [look_set X.H id e hl i]
  by_cases h : i = id
  · rw [if_pos h, h]; exact hnew
  · rw [if_neg h]
    by_cases hai : X.alive i
    · exact (E.en i).later L (hb _ (fun h' => h (E.inj i id hai ha h')))
    · have hd : look X.H i = .dead := by
        cases h : look X.H i with
        | dead => rfl
        | box l bt => exact (hai (by unfold Cx.alive; rw [h]; rfl)).elim
        | arr sz xs low => exact (hai (by unfold Cx.alive; rw [h]; rfl)).elim
      rw [hd]; trivial
/-- An entry given up: its block stays as it is from now on. -/
theorem kill_later {X : Cx} {w : World} {id : Nat} : Later X w (X.with (X.H.set id .dead)) w := by
  have hal : ∀ i, (X.with (X.H.set id .dead)).alive i → X.alive i ∧ i ≠ id := fun i hi => by
    unfold Cx.alive at hi ⊢
    by_cases hl : id < X.H.length
    · rw [show look (X.with (X.H.set id .dead)).H i = _ from look_set X.H id .dead hl i] at hi
      by_cases h : i = id
      · rw [if_pos h] at hi; cases hi
      · rw [if_neg h] at hi; exact ⟨hi, h⟩
    · rw [show (X.with (X.H.set id .dead)).H = X.H from List.set_eq_of_length_le (by omega)] at hi
      exact ⟨hi, fun h => hl (h ▸ lt_of_alive hi)⟩
  refine ⟨fun _ _ => rfl, fun _ h => h, fun i _ hi => ⟨(hal i hi).1, ?_, rfl⟩, Nat.le_refl _, rfl, rfl, rfl, fun _ _ => rfl, fun b ho => ?_, fun _ => Iff.rfl⟩
  · have hl : id < X.H.length ∨ ¬ id < X.H.length := Classical.em _
    rcases hl with hl | hl
    · show (look (X.H.set id .dead) i).sz = _
      rw [look_set X.H id .dead hl i, if_neg (hal i hi).2]
    · show (look (X.H.set id .dead) i).sz = _
      rw [List.set_eq_of_length_le (by omega)]
  · obtain ⟨i, hi, hb'⟩ := ho
    exact .inl ⟨i, (hal i hi).1, hb'⟩
theorem kill_ents {X : Cx} {w : World} (E : Ents X w) {id : Nat} : Ents (X.with (X.H.set id .dead)) w := by
  have L : Later X w (X.with (X.H.set id .dead)) w := kill_later
  have hal : ∀ i, (X.with (X.H.set id .dead)).alive i → X.alive i ∧ look (X.H.set id .dead) i = look X.H i := fun i hi => by
    unfold Cx.alive at hi ⊢
    by_cases hl : id < X.H.length
    · have e := look_set X.H id .dead hl i
      rw [show look (X.with (X.H.set id .dead)).H i = _ from e] at hi
      by_cases h : i = id
      · rw [if_pos h] at hi; cases hi
      · rw [if_neg h] at hi e; exact ⟨hi, e⟩
    · have e : X.H.set id .dead = X.H := List.set_eq_of_length_le (by omega)
      rw [show (X.with (X.H.set id .dead)).H = X.H from e] at hi
      exact ⟨hi, by rw [e]⟩
  refine ⟨fun i => ?_, fun i hi => E.ok i (hal i hi).1, fun i j hi hj h => E.inj i j (hal i hi).1 (hal j hj).1 h, E.phlt, fun i hi => E.nph i (hal i hi).1⟩
  show EntOk _ w (X.ι i) (look (X.H.set id .dead) i)
  by_cases ha : (X.with (X.H.set id .dead)).alive i
  · rw [(hal i ha).2]
    exact (E.en i).later L rfl
  · have hd : look (X.H.set id .dead) i = .dead := by
      cases h : look (X.H.set id .dead) i with
      | dead => rfl
      | box l bt => exact (ha (by unfold Cx.alive; rw [show look (X.with (X.H.set id .dead)).H i = _ from h]; rfl)).elim
      | arr sz xs low => exact (ha (by unfold Cx.alive; rw [show look (X.with (X.H.set id .dead)).H i = _ from h]; rfl)).elim
    rw [hd]; trivial

end Go.Vi
