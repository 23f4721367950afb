/- What the table of types must say; the machine's questions on types; loads. -/
import Derived.Test.YtcpeljfjgbjnjaaDoorVMem
namespace Go.Vi
open Go.RowKit

def tdOk : TypeDesc → TD → Bool
  | .int k, .int k' => k == k'
  | .bool, .bool => true
  | .string, .str => true
  | .slice e, .slice e' => e == e'
  | .array n e, .array n' e' => n == n' && e == e'
  | .struct fs, .struct gs => (fs.toList.map fun f => (f.offset, f.type)) == gs
  | .struct _, _ => false
  | .array _ _, _ => false
  | .pointer _, .pointer => true
  | .func _ _ _, .func => true
  | .invalid, .other | .float _, .other | .complex _, .other | .unsafePointer, .other | .map _ _, .other | .chan _ _, .other | .interface _, .other | .tuple _, .other => true
  | _, _ => false
def zero1 : V → Value → Bool
  | .int k n, .int k' n' => k == k' && n == n'
  | .bool b, .bool b' => b == b'
  | .str s, .string s' => s.data.toList == s'.data.toList
  | .sl _ [] _ true, .slice none 0 0 => true
  | .nilptr, .pointer none => true
  | .nilfn, .nilFunc => true
  | _, _ => false
def zeroOk : List V → List Value → Bool
  | [], [] => true
  | x :: xs, v :: vs => zero1 x v && zeroOk xs vs
  | _, _ => false
def isAggV : Value → Bool
  | .agg _ => true
  | _ => false
def tyOk (P : Program) (t : TypeId) (i : TI) : Bool :=
  match P.info? t, P.underlying t with
  | some inf, some d => tdOk d i.desc && inf.size == i.size && inf.bytes == i.bytes && (match inf.zero with
      | some z => zeroOk i.zero z.cells.toList && (isAggV z == isAggD i.desc)
      | none => false) && i.zero.length == i.size && (isAggD i.desc || i.size == 1)
  | _, _ => false

/-- What the table tells of a type, in the machine. -/
structure TyFacts (P : Program) (t : TypeId) (i : TI) : Prop where
  inf : ∃ inf, P.info? t = some inf ∧ inf.size = i.size ∧ inf.bytes = i.bytes ∧ ∃ z, inf.zero = some z ∧ zeroOk i.zero z.cells.toList = true ∧ isAggV z = isAggD i.desc
  und : ∃ d, P.underlying t = some d ∧ tdOk d i.desc = true
  zlen : i.zero.length = i.size
  one : isAggD i.desc = false → i.size = 1
theorem tyFacts {P : Program} {t : TypeId} {i : TI} (h : tyOk P t i = true) : TyFacts P t i := by
  unfold tyOk at h
  cases h1 : P.info? t with
  | none => rw [h1] at h; cases h
  | some inf =>
    cases h2 : P.underlying t with
    | none => rw [h1, h2] at h; cases h
    | some d =>
      rw [h1, h2] at h
      simp only [Bool.and_eq_true, beq_iff_eq, Bool.or_eq_true] at h
      obtain ⟨⟨⟨⟨⟨h3, h4⟩, h5⟩, h6⟩, h7⟩, h8⟩ := h
      cases hz : inf.zero with
      | none => rw [hz] at h6; cases h6
      | some z =>
        rw [hz] at h6
        simp only [Bool.and_eq_true, beq_iff_eq] at h6
        refine ⟨⟨inf, h1, h4, h5, z, hz, h6.1, h6.2⟩, ⟨d, h2, h3⟩, h7, fun hn => ?_⟩
        rcases h8 with h8 | h8
        · rw [hn] at h8; cases h8
        · exact h8

section
variable {P : Program} {t : TypeId} {i : TI}
theorem tdOk_agg {d : TypeDesc} {e : TD} (h : tdOk d e = true) : (match d with | .struct _ | .array _ _ => true | _ => false) = isAggD e := by
  cases d <;> cases e <;> first | rfl | cases h
theorem run_und (F : TyFacts P t i) (w : World) : ∃ d, (underlying t).run P w = .ok d w ∧ tdOk d i.desc = true := by
  obtain ⟨d, h1, h2⟩ := F.und
  exact ⟨d, by simp [underlying, program, Sem.run, h1], h2⟩
theorem run_isAgg (F : TyFacts P t i) (w : World) : (isAgg t).run P w = .ok (isAggD i.desc) w := by
  obtain ⟨d, h1, h2⟩ := run_und F w
  have h3 := tdOk_agg h2
  unfold isAgg
  rw [Sem.run_bind, h1]
  show (match d with | .struct _ | .array _ _ => (pure true : Sem Bool) | _ => pure false).run P w = _
  rw [← h3]
  cases d <;> rfl
theorem run_size (F : TyFacts P t i) (w : World) : (sizeOf t).run P w = .ok i.size w := by
  obtain ⟨inf, h1, h2, _⟩ := F.inf
  simp [sizeOf, typeInfo, program, Sem.run, h1, h2]
theorem run_info (F : TyFacts P t i) (w : World) : ∃ inf, (typeInfo t).run P w = .ok inf w ∧ inf.bytes = i.bytes ∧ inf.size = i.size := by
  obtain ⟨inf, h1, h2, h3, _⟩ := F.inf
  exact ⟨inf, by simp [typeInfo, program, Sem.run, h1], h3, h2⟩
theorem zero1_rep {X : Cx} {w : World} {x : V} {v : Value} (h : zero1 x v = true) : Rep X w x (.val v) ∧ x.leaf = true := by
  unfold zero1 at h
  split at h <;> first | cases h | skip
  · simp only [Bool.and_eq_true, beq_iff_eq] at h
    obtain ⟨rfl, rfl⟩ := h
    exact ⟨by unfold Rep holds; rfl, rfl⟩
  · rw [beq_iff_eq] at h; subst h
    exact ⟨by unfold Rep holds; rfl, rfl⟩
  · rename_i s s'
    have : s = s' := by
      rw [beq_iff_eq] at h
      cases s; cases s'
      congr 1
      exact Array.toList_inj.1 h
    subst this
    exact ⟨by unfold Rep holds; rfl, rfl⟩
  · exact ⟨by unfold Rep holds; exact ⟨rfl, rfl⟩, rfl⟩
  · exact ⟨by unfold Rep holds; rfl, rfl⟩
  · exact ⟨by unfold Rep holds; rfl, rfl⟩
theorem zeroOk_rep {X : Cx} {w : World} : ∀ {l : List V} {vs : List Value}, zeroOk l vs = true → RepL X w l (.vals vs) ∧ V.leafAll l = true
  | [], [], _ => ⟨by unfold RepL; rfl, rfl⟩
  | [], _ :: _, h => by cases h
  | _ :: _, [], h => by cases h
  | x :: xs, v :: vs, h => by
    simp only [zeroOk, Bool.and_eq_true] at h
    obtain ⟨h1, h2⟩ := zero1_rep (X := X) (w := w) h.1
    obtain ⟨h3, h4⟩ := zeroOk_rep (X := X) (w := w) h.2
    exact ⟨by unfold RepL; exact ⟨v, vs, rfl, h1, h3⟩, by simp [V.leafAll, h2, h4]⟩
theorem run_zero (F : TyFacts P t i) (X : Cx) (w : World) : ∃ z, (zeroValue t).run P w = .ok z w ∧ RepL X w i.zero (.vals z.cells.toList) ∧ V.leafAll i.zero = true ∧ isAggV z = isAggD i.desc := by
  obtain ⟨inf, h1, _, _, z, hz, h4, h5⟩ := F.inf
  obtain ⟨h6, h7⟩ := zeroOk_rep (X := X) (w := w) h4
  exact ⟨z, by simp [zeroValue, typeInfo, program, Sem.run, h1, hz], h6, h7, h5⟩

/-- A variable's value, out of its row of cells. -/
theorem run_loadVar (F : TyFacts P t i) {X : Cx} {w : World} {b o : Nat} {l : List V} (h1 : ∀ x, x ∈ l → x.cells = [x]) (hl : l.length = i.size) (h : RepL X w l (.at_ b o)) :
    ∃ v, (loadVar t ⟨b, o, none⟩).run P w = .ok v w ∧ Rep X w (mkv i l) (.val v) := by
  obtain ⟨vs, hv, hc, hr⟩ := h.read h1
  unfold loadVar mkv
  rw [Sem.run_bind, run_isAgg F]
  show ∃ v, (if isAggD i.desc = true then (do let n ← sizeOf t; let cs ← loadCells ⟨b, o, none⟩ n; pure (Value.agg cs)) else load ⟨b, o, none⟩ : Sem Value).run P w = .ok v w ∧ _
  cases ha : isAggD i.desc with
  | true =>
    refine ⟨.agg vs.toArray, ?_, ?_⟩
    · simp only [if_true, Sem.run_bind, run_size F, Result.andThen_ok]
      rw [← hl, ← hv, run_row hc]
      rfl
    · simp only [if_true]
      unfold Rep
      exact ⟨vs.toArray, rfl, hr⟩
  | false =>
    have hs := F.one ha
    rw [hs] at hl
    match l, hl with
    | [x], _ =>
      unfold RepL at hr
      obtain ⟨v, vs', rfl, hx, _⟩ := hr
      have hc0 := hc 0 v (by simp)
      refine ⟨v, ?_, ?_⟩
      · simp only [Bool.false_eq_true, if_false, run_load]
        rw [Nat.add_zero] at hc0
        rw [hc0]
      · simpa using hx
end

theorem reshape_eq {k : LK} {v : V} (h : shapeOk k v = true) : reshape k v = v ∧ v.leaf = true := by
  unfold shapeOk at h
  split at h
  · rw [beq_iff_eq] at h; subst h; exact ⟨rfl, rfl⟩
  · exact ⟨rfl, rfl⟩
  · exact ⟨rfl, rfl⟩
  · rw [beq_iff_eq] at h; subst h; exact ⟨rfl, rfl⟩
  · exact ⟨rfl, h⟩
  · cases h
theorem reshapeB_eq {k : LK} {v : V} (h : shapeOkB k v = true) : reshapeB k v = v := by
  unfold shapeOkB at h
  split at h
  · rw [beq_iff_eq] at h; subst h; rfl
  · rfl
  · rfl
  · rfl
  · rfl
  · cases h
theorem reshapesAt_eq : ∀ {ks : List LK} {l : List V} {o : Nat}, shapesAt ks l o = true → o + ks.length ≤ l.length → reshapesAt ks l o = (l.drop o).take ks.length
  | [], l, o, _, _ => by simp [reshapesAt]
  | k :: ks, l, o, h, hl => by
    simp only [shapesAt, Bool.and_eq_true] at h
    simp only [List.length_cons] at hl
    have ih := reshapesAt_eq h.2 (by omega)
    have hlt : o < l.length := by omega
    rw [reshapesAt, reshapeB_eq h.1, ih, List.drop_eq_getElem_cons hlt, List.length_cons, List.take_succ_cons, List.getD_eq_getElem?_getD, List.getElem?_eq_getElem hlt]
    rfl
theorem reshapes_eq : ∀ {ks : List LK} {cs : List V}, shapesOk ks cs = true → reshapes ks cs = cs.take ks.length ∧ ks.length ≤ cs.length ∧ ∀ x, x ∈ cs.take ks.length → x.leaf = true
  | [], cs, _ => ⟨by simp [reshapes], by simp, fun x hx => by simp at hx⟩
  | k :: ks, cs, h => by
    simp only [shapesOk, Bool.and_eq_true, decide_eq_true_eq] at h
    obtain ⟨⟨h0, h1⟩, h2⟩ := h
    match cs, h0 with
    | c :: cs, _ =>
      obtain ⟨g1, g2⟩ := reshape_eq (show shapeOk k c = true from h1)
      obtain ⟨g3, g4, g5⟩ := reshapes_eq (show shapesOk ks cs = true from h2)
      refine ⟨?_, by simp; omega, ?_⟩
      · show reshape k c :: reshapes ks cs = _
        rw [g1, g3]; rfl
      · intro x hx
        simp only [List.length_cons, List.take_succ_cons] at hx
        rcases List.mem_cons.1 hx with rfl | hx
        · exact g2
        · exact g5 x hx
theorem cells_of_leaf {x : V} (h : x.leaf = true) : x.cells = [x] := cells_of_cell1 (cell1_of_leaf h)
theorem cellsLen_single : ∀ {l : List V}, (∀ x, x ∈ l → x.cells = [x]) → cellsLen l = l.length
  | [], _ => rfl
  | x :: xs, h => by
    rw [cellsLen, h x List.mem_cons_self, cellsLen_single (fun y hy => h y (List.mem_cons_of_mem _ hy))]
    simp; omega
theorem repL_drop_at {X : Cx} {w : World} {b o : Nat} {l : List V} (h1 : ∀ x, x ∈ l → x.cells = [x]) (k : Nat) (hk : k ≤ l.length) (h : RepL X w l (.at_ b o)) : RepL X w (l.drop k) (.at_ b (o + k)) := by
  rw [← List.take_append_drop k l] at h
  have := (repL_append_at.1 h).2
  rw [cellsLen_single (fun x hx => h1 x (List.mem_of_mem_take hx)), List.length_take, Nat.min_eq_left hk] at this
  exact this
theorem repL_take_at {X : Cx} {w : World} {b o : Nat} {l : List V} (k : Nat) (h : RepL X w l (.at_ b o)) : RepL X w (l.take k) (.at_ b o) := by
  rw [← List.take_append_drop k l] at h
  exact (repL_append_at.1 h).1
/-- An element's cells. -/
theorem Rep.row {X : Cx} {w : World} {x : V} {b o : Nat} (h : Rep X w x (.at_ b o)) : RepL X w x.cells (.at_ b o) := by
  cases x with
  | agg l => unfold Rep at h; exact h
  | _ => simp only [V.cells]; unfold RepL; exact ⟨h, by unfold RepL; trivial⟩
theorem cellsLen_plain {sz : Nat} : ∀ {l : List V}, (∀ x, x ∈ l → V.plain sz x = true) → cellsLen l = l.length * sz
  | [], _ => by simp [cellsLen]
  | x :: xs, h => by
    have hx := h x List.mem_cons_self
    simp only [V.plain, Bool.and_eq_true, beq_iff_eq] at hx
    rw [cellsLen, hx.1, cellsLen_plain (fun y hy => h y (List.mem_cons_of_mem _ hy)), List.length_cons, Nat.succ_mul]
    omega
theorem repL_elem {X : Cx} {w : World} {b o sz : Nat} {l : List V} (h1 : ∀ x, x ∈ l → V.plain sz x = true) (h : RepL X w l (.at_ b o)) (k : Nat) (hk : k < l.length) : Rep X w (l.getD k .undef) (.at_ b (o + k * sz)) := by
  have e : l = l.take k ++ l.getD k .undef :: l.drop (k + 1) := by
    rw [List.getD_eq_getElem?_getD, List.getElem?_eq_getElem hk]
    simp
  rw [e] at h
  have h2 := (repL_append_at.1 h).2
  rw [cellsLen_plain (fun x hx => h1 x (List.mem_of_mem_take hx)), List.length_take, Nat.min_eq_left (Nat.le_of_lt hk)] at h2
  unfold RepL at h2
  exact h2.1

end Go.Vi
