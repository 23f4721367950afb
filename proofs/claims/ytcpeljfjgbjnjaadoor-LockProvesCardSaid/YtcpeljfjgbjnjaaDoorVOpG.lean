/- Small operations: parts of tuples, nil checks, len. -/
import Derived.Test.YtcpeljfjgbjnjaaDoorVOpF
namespace Go.Vi
open Go.RowKit

section
variable {P : Program} {T : Ty} {X : Cx} {w : World}

theorem extract_sound {l : List V} {va : Value} {k : Nat} {x : V} (h : l[k]? = some x) (ha : Rep X w (.tup l) (.val va)) : ∃ v, (Instr.extract va k).run P w = .ok v w ∧ Rep X w x (.val v) := by
  unfold Rep at ha
  obtain ⟨vs, rfl, hl⟩ := ha
  obtain ⟨v, hv, hr⟩ := hl.get k x h
  refine ⟨v, ?_, hr⟩
  have hv' : vs[k]? = some v := by simpa using hv
  simp only [Instr.extract, hv', Sem.run_pure]
theorem rep_slice_val {sz : Nat} {l : List V} {c n : Bool} {v : Value} (h : Rep X w (.sl sz l c n) (.val v)) : ∃ A cap, v = .slice A l.length cap ∧ l.length ≤ cap := by
  unfold Rep holds at h
  cases n with
  | true => obtain ⟨rfl, rfl⟩ := h; exact ⟨none, 0, rfl, Nat.le_refl 0⟩
  | false => obtain ⟨a, cap, rfl, h1, _⟩ := h; exact ⟨_, _, rfl, h1⟩
theorem rep_own_val {id lo len : Nat} {c : Bool} {v : Value} (ha : X.alive id) (h : Rep X w (.own id lo len c) (.val v)) : ∃ A cap, v = .slice (some A) len cap ∧ (cap = 0 ∨ A = ⟨X.ι id, lo * (look X.H id).sz, none⟩) ∧ len ≤ cap ∧
    (c = true → cap = len) ∧ (lo + cap) * (look X.H id).sz ≤ World.cellsIn w (X.ι id) := by
  unfold Rep holds at h
  exact h.2.2 ha
theorem len_sound (hT : TabOk P T) {t : TypeId} {ts : List TypeId} {i : TI} {ty : TypeId} {x r : V} {va : Value} (hi : T t = some i) (h : lenE X.H i.desc x = some r) (ha : Rep X w x (.val va)) :
    ∃ v, (Builtin.len_ (t :: ts).toArray ty #[va]).run P w = .ok v w ∧ Rep X w r (.val v) := by
  have F := hT.facts hi
  cases hd : i.desc <;> rw [hd] at h <;> first | (cases x <;> cases h; done) | skip
  case str =>
    cases x <;> first | (cases h; done) | skip
    cases h
    have := rep_str ha
    subst this
    refine ⟨_, ?_, rep_int_mk⟩
    unfold Builtin.len_
    simp only [List.getElem?_toArray, List.getElem?_cons_zero, Sem.run_bind, und_str F hd, Result.andThen_ok]
    rfl
  case slice e =>
    cases x <;> first | (cases h; done) | skip
    case sl sz l c n =>
      cases h
      obtain ⟨A, cap, rfl, _⟩ := rep_slice_val ha
      refine ⟨_, ?_, rep_int_mk⟩
      unfold Builtin.len_
      simp only [List.getElem?_toArray, List.getElem?_cons_zero, Sem.run_bind, und_slice F hd, Result.andThen_ok]
      rfl
    case own id lo n c =>
      change (if (look X.H id).alive then some (V.int .i64 n) else none) = some r at h
      split at h
      case isFalse => cases h
      rename_i hal
      cases h
      obtain ⟨A, cap, rfl, _⟩ := rep_own_val hal ha
      refine ⟨_, ?_, rep_int_mk⟩
      unfold Builtin.len_
      simp only [List.getElem?_toArray, List.getElem?_cons_zero, Sem.run_bind, und_slice F hd, Result.andThen_ok]
      rfl
end

end Go.Vi
