/- What it means that a machine's value, a slot or a row of cells, is a value of the interpreter; and that it stays so. -/
import Derived.Test.YtcpeljfjgbjnjaaDoorVDef
import Derived.Below
import Derived.Laws.Sem
namespace Go.Vi

/-- Where the own entries lie: the block of each, which of them there may be, the heap of the interpreter. -/
structure Cx where
  ι : Nat → Nat
  ok : Nat → Prop
  H : List Ent
  /-- blocks that are others' own: not to be looked at -/
  ph : Nat → Prop := fun _ => False

def Cx.alive (X : Cx) (id : Nat) : Prop := (look X.H id).alive = true
def Cx.own (X : Cx) (b : Nat) : Prop := ∃ id, X.alive id ∧ X.ι id = b
/-- how many cells a block has -/
def World.cellsIn (w : World) (b : Nat) : Nat :=
  match w.heap[b]? with
  | some (.cells c _ _) => c.size
  | _ => 0
/-- A block that is nobody's of the interpreter's: it stays as it is. -/
def Fixed (X : Cx) (w : World) (b : Nat) : Prop := b < w.heap.size ∧ ¬ X.own b
/-- A block that stays as it is, and may be looked at. -/
def Stable (X : Cx) (w : World) (b : Nat) : Prop := Fixed X w b ∧ ¬ X.ph b

/-- a value in hand, or one cell -/
inductive M1 where
  | val (v : Value)
  | at_ (b o : Nat)
/-- values in hand, or a row of cells -/
inductive ML where
  | vals (vs : List Value)
  | at_ (b o : Nat)
def holds (w : World) (m : M1) (p : Value → Prop) : Prop :=
  match m with
  | .val v => p v
  | .at_ b o => ∃ v, w.cell? ⟨b, o, none⟩ = some v ∧ p v

mutual
def Rep (X : Cx) (w : World) : V → M1 → Prop
  | .int k n, m => holds w m fun v => v = .int k n
  | .bool b, m => holds w m fun v => v = .bool b
  | .str s, m => holds w m fun v => v = .string s
  | .nilptr, m => holds w m fun v => v = .pointer none
  | .nilfn, m => holds w m fun v => v = .nilFunc
  | .fn f caps, m => holds w m fun v => ∃ cs : Array Value, v = .func (.func f) #[] cs ∧ RepL X w caps (.vals cs.toList)
  | .agg l, .val v => ∃ vs : Array Value, v = .agg vs ∧ RepL X w l (.vals vs.toList)
  | .agg l, .at_ b o => RepL X w l (.at_ b o)
  | .tup l, .val v => ∃ vs : Array Value, v = .tuple vs ∧ RepL X w l (.vals vs.toList)
  | .tup _, .at_ _ _ => False
  | .sl sz l clip nl, m => holds w m fun v =>
      if nl then l = [] ∧ v = .slice none 0 0
      else ∃ a cap, v = .slice (some a) l.length cap ∧ l.length ≤ cap ∧ (clip = true → cap = l.length) ∧ (∀ x, x ∈ l → V.plain sz x = true) ∧
        (l = [] ∨ (a.spot = none ∧ Stable X w a.block ∧ RepL X w l (.at_ a.block a.off)))
  | .cref l, .val v => ∃ b o, v = .pointer (some ⟨b, o, none⟩) ∧ Stable X w b ∧ (∀ x, x ∈ l → x.cells = [x]) ∧ RepL X w l (.at_ b o)
  | .cref _, .at_ _ _ => False
  | .ref id off, m => holds w m fun v => X.ok id ∧ (∃ a, v = .pointer (some a)) ∧ (X.alive id → v = .pointer (some ⟨X.ι id, off, none⟩))
  | .own id lo len clip, m => holds w m fun v => X.ok id ∧ v.oneCell' = true ∧ (X.alive id → ∃ A cap, v = .slice (some A) len cap ∧ (cap = 0 ∨ A = ⟨X.ι id, lo * (look X.H id).sz, none⟩) ∧ len ≤ cap ∧ (clip = true → cap = len) ∧
      (lo + cap) * (look X.H id).sz ≤ World.cellsIn w (X.ι id))
  | .undef, m => holds w m fun _ => True
def RepL (X : Cx) (w : World) : List V → ML → Prop
  | [], .vals vs => vs = []
  | [], .at_ _ _ => True
  | x :: xs, .vals vs => ∃ v vs', vs = v :: vs' ∧ Rep X w x (.val v) ∧ RepL X w xs (.vals vs')
  | x :: xs, .at_ b o => Rep X w x (.at_ b o) ∧ RepL X w xs (.at_ b (o + x.cells.length))
end

/-- A later world, a later context: what was told of values holds on. -/
structure Later (X : Cx) (w : World) (X' : Cx) (w' : World) : Prop where
  ι : ∀ id, X.ok id → X'.ι id = X.ι id
  ok : ∀ id, X.ok id → X'.ok id
  al : ∀ id, X.ok id → X'.alive id → X.alive id ∧ (look X'.H id).sz = (look X.H id).sz ∧ World.cellsIn w' (X.ι id) = World.cellsIn w (X.ι id)
  size : w.heap.size ≤ w'.heap.size
  os : w'.os = w.os
  tape : w'.tape = w.tape
  output : w'.output = w.output
  same : ∀ b, Fixed X w b → w'.heap[b]? = w.heap[b]?
  new : ∀ b, X'.own b → X.own b ∨ w.heap.size ≤ b
  ph : ∀ b, X'.ph b ↔ X.ph b

theorem Later.st {X : Cx} {w : World} {X' : Cx} {w' : World} (L : Later X w X' w') (b : Nat) (h : Stable X w b) : Stable X' w' b ∧ w'.heap[b]? = w.heap[b]? := by
  refine ⟨⟨⟨Nat.lt_of_lt_of_le h.1.1 L.size, fun ho => ?_⟩, fun hp => h.2 ((L.ph b).1 hp)⟩, L.same b h.1⟩
  rcases L.new b ho with h1 | h1
  · exact h.1.2 h1
  · have := h.1.1; omega
theorem Later.fx {X : Cx} {w : World} {X' : Cx} {w' : World} (L : Later X w X' w') (b : Nat) (h : Fixed X w b) : Fixed X' w' b ∧ w'.heap[b]? = w.heap[b]? := by
  refine ⟨⟨Nat.lt_of_lt_of_le h.1 L.size, fun ho => ?_⟩, L.same b h⟩
  rcases L.new b ho with h1 | h1
  · exact h.2 h1
  · have := h.1; omega
theorem Later.refl (X : Cx) (w : World) : Later X w X w :=
  ⟨fun _ _ => rfl, fun _ h => h, fun _ _ h => ⟨h, rfl, rfl⟩, Nat.le_refl _, rfl, rfl, rfl, fun _ _ => rfl, fun _ h => .inl h, fun _ => Iff.rfl⟩
theorem Later.trans {X : Cx} {w : World} {X' : Cx} {w' : World} {X'' : Cx} {w'' : World} (L : Later X w X' w') (M : Later X' w' X'' w'') : Later X w X'' w'' where
  ι id h := (M.ι id (L.ok id h)).trans (L.ι id h)
  ok id h := M.ok id (L.ok id h)
  al id h ha := by
    obtain ⟨h1, h2, h3⟩ := M.al id (L.ok id h) ha
    obtain ⟨g1, g2, g3⟩ := L.al id h h1
    rw [L.ι id h] at h3
    exact ⟨g1, h2.trans g2, h3.trans g3⟩
  size := Nat.le_trans L.size M.size
  os := M.os.trans L.os
  tape := M.tape.trans L.tape
  output := M.output.trans L.output
  same b h := by
    obtain ⟨h1, h2⟩ := L.fx b h
    exact (M.same b h1).trans h2
  new b h := by
    rcases M.new b h with h | h
    · exact L.new b h
    · exact .inr (Nat.le_trans L.size h)
  ph b := (M.ph b).trans (L.ph b)

theorem cell?_same {w w' : World} {b : Nat} (h : w'.heap[b]? = w.heap[b]?) (o : Nat) (s : Option Nat) : w'.cell? ⟨b, o, s⟩ = w.cell? ⟨b, o, s⟩ := by
  simp only [World.cell?, h]

theorem holds_later {w w' : World} {m : M1} {p q : Value → Prop} (hm : ∀ b o, m = .at_ b o → w'.heap[b]? = w.heap[b]?) (hpq : ∀ v, p v → q v) (h : holds w m p) : holds w' m q := by
  cases m with
  | val v => exact hpq v h
  | at_ b o =>
    obtain ⟨v, hc, hp⟩ := h
    exact ⟨v, (cell?_same (hm b o rfl) o none).trans hc, hpq v hp⟩

mutual
theorem Rep.later {X X' : Cx} {w w' : World} (L : Later X w X' w') : ∀ (x : V) (m : M1), (∀ b o, m = .at_ b o → w'.heap[b]? = w.heap[b]?) → Rep X w x m → Rep X' w' x m
  | .int _ _, _, hm, h => by unfold Rep at h ⊢; exact holds_later hm (fun _ h => h) h
  | .bool _, _, hm, h => by unfold Rep at h ⊢; exact holds_later hm (fun _ h => h) h
  | .str _, _, hm, h => by unfold Rep at h ⊢; exact holds_later hm (fun _ h => h) h
  | .nilptr, _, hm, h => by unfold Rep at h ⊢; exact holds_later hm (fun _ h => h) h
  | .nilfn, _, hm, h => by unfold Rep at h ⊢; exact holds_later hm (fun _ h => h) h
  | .undef, _, hm, h => by unfold Rep at h ⊢; exact holds_later hm (fun _ h => h) h
  | .fn f caps, _, hm, h => by
    unfold Rep at h ⊢
    refine holds_later hm ?_ h
    rintro v ⟨cs, rfl, hc⟩
    exact ⟨cs, rfl, RepL.later L caps _ (fun b o e => by cases e) hc⟩
  | .agg l, .val v, _, h => by
    unfold Rep at h ⊢
    obtain ⟨vs, rfl, hl⟩ := h
    exact ⟨vs, rfl, RepL.later L l _ (fun b o e => by cases e) hl⟩
  | .agg l, .at_ b o, hm, h => by
    unfold Rep at h ⊢
    exact RepL.later L l _ (fun b' o' e => by cases e; exact hm b o rfl) h
  | .tup l, .val v, _, h => by
    unfold Rep at h ⊢
    obtain ⟨vs, rfl, hl⟩ := h
    exact ⟨vs, rfl, RepL.later L l _ (fun b o e => by cases e) hl⟩
  | .tup l, .at_ b o, _, h => by unfold Rep at h; exact h.elim
  | .sl sz l clip nl, _, hm, h => by
    unfold Rep at h ⊢
    refine holds_later hm ?_ h
    intro v hv
    cases nl with
    | true => exact hv
    | false =>
      obtain ⟨a, cap, rfl, h1, h2, h3, h4⟩ := hv
      refine ⟨a, cap, rfl, h1, h2, h3, ?_⟩
      rcases h4 with h4 | ⟨hs, hst, hl⟩
      · exact .inl h4
      · obtain ⟨hst', hh⟩ := L.st _ hst
        exact .inr ⟨hs, hst', RepL.later L l _ (fun b' o' e => by cases e; exact hh) hl⟩
  | .cref l, .val v, _, h => by
    unfold Rep at h ⊢
    obtain ⟨b, o, rfl, hst, h1, hl⟩ := h
    obtain ⟨hst', hh⟩ := L.st _ hst
    exact ⟨b, o, rfl, hst', h1, RepL.later L l _ (fun b' o' e => by cases e; exact hh) hl⟩
  | .cref _, .at_ b o, _, h => by unfold Rep at h; exact h.elim
  | .ref id off, _, hm, h => by
    unfold Rep at h ⊢
    refine holds_later hm ?_ h
    rintro v ⟨hok, h1, hv⟩
    refine ⟨L.ok id hok, h1, fun ha => ?_⟩
    obtain ⟨ha', _, _⟩ := L.al id hok ha
    rw [L.ι id hok]
    exact hv ha'
  | .own id lo len clip, _, hm, h => by
    unfold Rep at h ⊢
    refine holds_later hm ?_ h
    rintro v ⟨hok, h1, hv⟩
    refine ⟨L.ok id hok, h1, fun ha => ?_⟩
    obtain ⟨ha', hz, hn⟩ := L.al id hok ha
    rw [L.ι id hok, hz, hn]
    exact hv ha'
theorem RepL.later {X X' : Cx} {w w' : World} (L : Later X w X' w') : ∀ (l : List V) (m : ML), (∀ b o, m = .at_ b o → w'.heap[b]? = w.heap[b]?) → RepL X w l m → RepL X' w' l m
  | [], .vals _, _, h => by unfold RepL at h ⊢; exact h
  | [], .at_ _ _, _, _ => by unfold RepL; trivial
  | x :: xs, .vals vs, _, h => by
    unfold RepL at h ⊢
    obtain ⟨v, vs', rfl, hx, hxs⟩ := h
    exact ⟨v, vs', rfl, Rep.later L x _ (fun b o e => by cases e) hx, RepL.later L xs _ (fun b o e => by cases e) hxs⟩
  | x :: xs, .at_ b o, hm, h => by
    unfold RepL at h ⊢
    exact ⟨Rep.later L x _ (fun b' o' e => by cases e; exact hm b o rfl) h.1, RepL.later L xs _ (fun b' o' e => by cases e; exact hm b o rfl) h.2⟩
end

/-! ### rows of values, rows of cells -/
theorem RepL.len {X : Cx} {w : World} : ∀ {l : List V} {vs : List Value}, RepL X w l (.vals vs) → l.length = vs.length
  | [], vs, h => by unfold RepL at h; subst h; rfl
  | x :: xs, vs, h => by
    unfold RepL at h
    obtain ⟨v, vs', rfl, _, hxs⟩ := h
    simp only [List.length_cons, RepL.len hxs]
theorem RepL.get {X : Cx} {w : World} : ∀ {l : List V} {vs : List Value} (_ : RepL X w l (.vals vs)) (i : Nat) (x : V), l[i]? = some x → ∃ v, vs[i]? = some v ∧ Rep X w x (.val v)
  | [], _, _, i, x, hi => by simp at hi
  | y :: ys, vs, h, i, x, hi => by
    unfold RepL at h
    obtain ⟨v, vs', rfl, hy, hys⟩ := h
    cases i with
    | zero => simp at hi; subst hi; exact ⟨v, by simp, hy⟩
    | succ i =>
      obtain ⟨u, hu, hr⟩ := RepL.get hys i x (by simpa using hi)
      exact ⟨u, by simpa using hu, hr⟩

end Go.Vi
