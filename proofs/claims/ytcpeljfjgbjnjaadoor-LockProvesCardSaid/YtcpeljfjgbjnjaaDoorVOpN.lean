/- append, whole. -/
import Derived.Test.YtcpeljfjgbjnjaaDoorVOpM
namespace Go.Vi
open Go.RowKit

/-- What an operation leaves: in whatever heap its outcome makes of the old one. -/
def Res.HeapOk (r : Res) (slot : Nat) (H H' : List Ent) : Prop :=
  match r.up with
  | some H1 => H' = H1
  | none => ∀ id, look H' id = match r.nw with
    | some e => if id = slot then e else dlook H id r.dl
    | none => dlook H id r.dl
def OkLt (X : Cx) : Prop := ∀ id, X.ok id → id < X.H.length
def OpPost (X : Cx) (w : World) (slot : Nat) (r : Res) (v : Value) (w' : World) : Prop :=
  ∀ H', r.HeapOk slot X.H H' → (r.up = none → X.H.length ≤ H'.length ∧ (r.nw ≠ none → slot < H'.length)) → ∃ X', X'.H = H' ∧ Later X w X' w' ∧ Ents X' w' ∧ Rep X' w' r.v (.val v) ∧ (OkLt X → OkLt X') ∧ (r.up = none → ∀ id, X'.ok id → X.ok id ∨ (id = slot ∧ r.nw ≠ none))

section
variable {P : Program} {T : Ty} {X : Cx} {w : World}

theorem relook (E : Ents X w) {H' : List Ent} (h : ∀ id, look H' id = look X.H id) : Later X w (X.with H') w ∧ Ents (X.with H') w := by
  have hal : ∀ id, (X.with H').alive id → X.alive id := fun id ha => by
    unfold Cx.alive at ha ⊢
    rw [show look (X.with H').H id = look X.H id from h id] at ha
    exact ha
  have L : Later X w (X.with H') w := ⟨fun _ _ => rfl, fun _ h => h, fun id _ ha => ⟨hal id ha, by rw [show look (X.with H').H id = look X.H id from h id], rfl⟩, Nat.le_refl _, rfl, rfl, rfl, fun _ _ => rfl, fun b hb => by
    obtain ⟨id, ha, hb⟩ := hb
    exact .inl ⟨id, hal id ha, hb⟩, fun _ => Iff.rfl⟩
  refine ⟨L, ⟨fun id => ?_, fun id ha => E.ok id (hal id ha), fun i j hi hj he => E.inj i j (hal i hi) (hal j hj) he, E.phlt, fun id ha => E.nph id (hal id ha)⟩⟩
  rw [show look (X.with H').H id = look X.H id from h id]
  exact (E.en id).later L rfl
theorem OpPost.lift {slot : Nat} {r : Res} {v : Value} {w' : World} {X1 : Cx} (h1 : r.up = none) (hL : Later X w X1 w') (hE : Ents X1 w') (hok : ∀ id, X1.ok id → X.ok id ∨ (id = slot ∧ r.nw ≠ none)) (hr : Rep X1 w' r.v (.val v))
    (hH : ∀ H', r.HeapOk slot X.H H' → ∀ id, look H' id = look X1.H id) : OpPost X w slot r v w' := by
  intro H' hh hlen
  obtain ⟨L, E⟩ := relook hE (hH H' hh)
  refine ⟨X1.with H', rfl, hL.trans L, E, Rep.later L _ _ (fun b o e => by cases e) hr, fun ho id hid => ?_, fun _ => hok⟩
  show id < H'.length
  obtain ⟨k1, k2⟩ := hlen h1
  rcases hok id hid with h | ⟨rfl, h⟩
  · have := ho id h; omega
  · exact k2 h
theorem quiet_heap {slot : Nat} {r : Res} (h1 : (r.up, r.dl) = (none, [])) (h2 : r.nw = none) {H H' : List Ent} (h : r.HeapOk slot H H') : ∀ id, look H' id = look H id := by
  simp only [Prod.mk.injEq] at h1
  unfold Res.HeapOk at h
  rw [h1.1, h1.2, h2] at h
  exact h
theorem OpPost.pure (E : Ents X w) {slot : Nat} {r : Res} {v : Value} (h1 : (r.up, r.dl) = (none, [])) (h2 : r.nw = none) (h : Rep X w r.v (.val v)) : OpPost X w slot r v w :=
  .lift (by simp only [Prod.mk.injEq] at h1; exact h1.1) (.refl X w) E (fun _ h => .inl h) h (fun _ hh => quiet_heap h1 h2 hh)
theorem OpPost.grown (E : Ents X w) {slot : Nat} {r : Res} {v : Value} {w' : World} (h1 : (r.up, r.dl) = (none, [])) (h2 : r.nw = none) (hb : Below w.heap.size w w') (h : Rep X w' r.v (.val v)) : OpPost X w slot r v w' := by
  obtain ⟨L, E'⟩ := grow_later E hb
  exact .lift (by simp only [Prod.mk.injEq] at h1; exact h1.1) L E' (fun _ h => .inl h) h (fun _ hh => quiet_heap h1 h2 hh)
theorem OpPost.new {slot : Nat} {r : Res} {e : Ent} {v : Value} {w' : World} (h1 : (r.up, r.dl) = (none, [])) (h2 : r.nw = some e) (h : NewOk X w slot e r.v v w') : OpPost X w slot r v w' := by
  simp only [Prod.mk.injEq] at h1
  intro H' hH hs
  unfold Res.HeapOk at hH
  rw [h1.1, h1.2, h2] at hH
  obtain ⟨L, E', hr⟩ := h H' ((hH slot).trans (if_pos rfl)) (fun id hid => (hH id).trans (if_neg hid))
  refine ⟨_, rfl, L, E', hr, fun hok id hid => ?_, fun _ id hid => ?_⟩
  rotate_right
  · rcases hid with hid | hid
    · exact .inl hid
    · exact .inr ⟨hid, by rw [h2]; simp⟩
  have hs' := hs h1.1
  show id < H'.length
  rcases hid with hid | hid
  · exact Nat.lt_of_lt_of_le (hok id hid) hs'.1
  · have := hs'.2 (by rw [h2]; simp)
    omega
theorem dlook_one (H : List Ent) (id i : Nat) (e : Ent) : dlook H i [(id, e)] = if i = id then e else look H i := rfl
theorem Later.heap {X : Cx} {w w' : World} (h : w'.heap = w.heap) (ho : w'.os = w.os) (ht : w'.tape = w.tape) (hp : w'.output = w.output) : Later X w X w' :=
  ⟨fun _ _ => rfl, fun _ h => h, fun id _ ha => ⟨ha, rfl, cellsIn_same (by rw [h])⟩, by rw [h]; exact Nat.le_refl _, ho, ht, hp, fun b _ => by rw [h], fun _ h => .inl h, fun _ => Iff.rfl⟩
theorem Later.drew (X : Cx) (w : World) : Later X w X w.drew := .heap rfl rfl rfl rfl
theorem Ents.heap {X : Cx} {w w' : World} (E : Ents X w) (L : Later X w X w') (h : w'.heap = w.heap) : Ents X w' :=
  ⟨fun id => (E.en id).later L (by rw [h]), E.ok, E.inj, fun b hb => by rw [h]; exact E.phlt b hb, E.nph⟩
theorem NewOk.drew {slot : Nat} {e : Ent} {x : V} {v : Value} {w' : World} (h : NewOk X w.drew slot e x v w') : NewOk X w slot e x v w' := by
  intro H' h1 h2
  obtain ⟨L, E', hr⟩ := h H' h1 h2
  exact ⟨(Later.drew X w).trans L, E', hr⟩
theorem tyIs_spec {t : TypeId} {p : TD → Bool} (h : tyIs T t p = true) : ∃ i, T t = some i ∧ p i.desc = true := by
  unfold tyIs at h
  cases hi : T t with
  | none => rw [hi] at h; cases h
  | some i => rw [hi] at h; exact ⟨i, rfl, h⟩
theorem und_src (hT : TabOk P T) {u : TypeId} (h : tyIs T u (fun | .slice _ => true | .str => true | _ => false) = true) : ∃ d, P.underlying u = some d ∧ (d = .string ∨ ∃ e, d = .slice e) := by
  obtain ⟨i, hi, hp⟩ := tyIs_spec h
  have F := hT.facts hi
  obtain ⟨d, h1, h2⟩ := F.und
  refine ⟨d, h1, ?_⟩
  cases hd : i.desc <;> rw [hd] at hp h2 <;> first | (cases hp; done) | skip
  · cases d <;> first | (exfalso; simp [tdOk] at h2; done) | skip
    exact .inl rfl
  · cases d <;> first | (exfalso; simp [tdOk] at h2; done) | skip
    exact .inr ⟨_, rfl⟩
theorem base_facts (E : Ents X w) {sz' size : Nat} {l : List V} {clip nl : Bool} {v : Value} (ha : Rep X w (.sl sz' l clip nl) (.val v)) (hz : (nl || sz' == size) = true) :
    ∃ base cap os, v = .slice base l.length cap ∧ l.length ≤ cap ∧ (clip = true → cap = l.length) ∧ (nl = true → cap = 0 ∧ base = none ∧ l = []) ∧
      (∀ w', w'.heap = w.heap → (Builtin.firstCells size l.length v).run P w' = .ok os.toArray w') ∧ RepL X w (flatL l) (.vals os) ∧ (∀ y, y ∈ l → V.plain size y = true) ∧ Rep X w (.sl size l false nl) (.val v) := by
  obtain ⟨os, S, h1, h2⟩ := src_sound (P := P) E (x := .sl sz' l clip nl) rfl rfl ha
  have ha' := ha
  unfold Rep holds at ha
  cases nl with
  | true =>
    obtain ⟨rfl, rfl⟩ := ha
    refine ⟨none, 0, [], rfl, Nat.le_refl _, fun _ => rfl, fun _ => ⟨rfl, rfl, rfl⟩, fun _ _ => rfl, by simp only [flatL]; unfold RepL; rfl, fun y hy => (by cases hy), ?_⟩
    unfold Rep holds
    exact ⟨rfl, rfl⟩
  | false =>
    obtain ⟨a, cap, rfl, g1, g2, g3, g4⟩ := ha
    simp only [Bool.false_or, beq_iff_eq] at hz
    subst hz
    refine ⟨some a, cap, os, rfl, g1, g2, (fun h => by cases h), fun w' hw => ?_, h1, h2, ?_⟩
    · have := S.first w' l.length hw (Nat.le_refl _)
      have hl : os.length = l.length * sz' := by rw [← h1.len, flat_len_plain h2]
      rw [← hl, List.take_length] at this
      exact this
    · unfold Rep holds
      exact ⟨a, cap, rfl, g1, (fun h => by cases h), g3, g4⟩
/-- a row of plain elements laid in a new block -/
theorem rep_newrow {X : Cx} {w w' : World} {size n cap : Nat} {l : List V} {vs us : List Value} {e : TypeId} (E : Ents X w) (hp : ∀ y, y ∈ l → V.plain size y = true) (hr : RepL X w (flatL l) (.vals vs)) (hn : l.length = n) (hc : n ≤ cap) (he : w' = w.alloc (.cells (vs ++ us).toArray e)) :
    Rep X w' (.sl size l false false) (.val (.slice (some ⟨w.heap.size, 0, none⟩) n cap)) := by
  subst he
  obtain ⟨L, _⟩ := grow_later E ((Below.refl _ _).alloc (Nat.le_refl _) (.cells (vs ++ us).toArray e))
  unfold Rep holds
  refine ⟨_, cap, by rw [hn], by omega, (fun h => by cases h), hp, .inr ⟨rfl, ⟨⟨by simp, fun ho => ?_⟩, fun hp => ?_⟩, ?_⟩⟩
  · have := E.own_lt ho
    simp at this
  · have := E.phlt _ hp
    simp at this
  · refine (repL_flat (fun x hx => plain_single (hp x hx))).2 ?_
    refine RepL.write (fun x hx => inCell_of_cell1 (cell1_of_leaf (flat_leaf hp x hx))) (fun i v hi => ?_) (RepL.later L _ _ (fun b o e => by cases e) hr)
    rw [alloc_cell, Nat.zero_add]
    have hi' : i < vs.length := by
      apply Classical.byContradiction
      intro hn
      rw [List.getElem?_eq_none (by omega)] at hi
      cases hi
    simp only [List.getElem?_toArray]
    rw [List.getElem?_append_left hi']
    exact hi
end

end Go.Vi
