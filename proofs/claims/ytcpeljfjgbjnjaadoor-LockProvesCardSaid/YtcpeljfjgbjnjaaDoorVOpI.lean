/- Structs and arrays, built of their parts. -/
import Derived.Test.YtcpeljfjgbjnjaaDoorVOpH
namespace Go.Vi
open Go.RowKit

section
variable {P : Program} {T : Ty} {X : Cx} {w : World}

theorem run_placesV (hT : TabOk P T) : ∀ (fs : List Field) (pl : List (Nat × Nat)), places T (fs.map fun f => (f.offset, f.type)) = some pl →
    (fs.mapM fun f => (do pure (f.offset, ← sizeOf f.type) : Sem (Nat × Nat))).run P w = .ok pl w
  | [], pl, h => by
    cases h
    rfl
  | f :: fs, pl, h => by
    rw [List.map_cons] at h
    unfold places at h
    dsimp only at h
    cases h1 : T f.type with
    | none => rw [h1] at h; cases h
    | some i =>
      cases h2 : places T (fs.map fun f => (f.offset, f.type)) with
      | none => rw [h1, h2] at h; cases h
      | some l =>
        rw [h1, h2] at h
        simp only [Option.some.injEq] at h
        subst h
        have ih := run_placesV hT fs l h2
        simp only [List.mapM_cons, Sem.run_bind, run_size (hT.facts h1), Result.andThen_ok, Sem.run_pure, ih]
theorem und_struct {t : TypeId} {i : TI} (F : TyFacts P t i) {fs : List (Nat × TypeId)} (hd : i.desc = .struct fs) (w : World) : ∃ fields : Array Field, (underlying t).run P w = .ok (.struct fields) w ∧ (fields.toList.map fun f => (f.offset, f.type)) = fs := by
  obtain ⟨d, h1, h2⟩ := run_und F w
  rw [hd] at h2
  cases d <;> first | (simp only [tdOk] at h2; done) | (exfalso; simp [tdOk] at h2; done) | skip
  rename_i fields
  simp only [tdOk, beq_iff_eq] at h2
  exact ⟨fields, h1, h2⟩
theorem build_sound (hT : TabOk P T) {t : TypeId} {ps : List (Nat × V)} {qs : Array (Nat × Value)} {r : V} (h : buildE T t ps = some r) (hp : PartsRep X w ps qs.toList) :
    ∃ v, (Instr.build t qs).run P w = .ok v w ∧ Rep X w r (.val v) := by
  unfold buildE at h
  cases hi : T t with
  | none => rw [hi] at h; cases h
  | some i =>
    have F := hT.facts hi
    rw [hi] at h
    dsimp only at h
    obtain ⟨z, z1, z2, z3, _⟩ := run_zero F X w
    unfold Instr.build
    simp only [Sem.run_bind, z1, Result.andThen_ok]
    cases hd : i.desc <;> rw [hd] at h <;> first | (cases h; done) | skip
    case struct fs =>
      dsimp only at h
      cases hpl : places T fs with
      | none => rw [hpl] at h; cases h
      | some pl =>
        rw [hpl] at h
        simp only [Option.map_eq_some_iff] at h
        obtain ⟨cs, h1, rfl⟩ := h
        obtain ⟨fields, f1, rfl⟩ := und_struct F hd w
        have hr := run_placesV (w := w) hT fields.toList pl hpl
        obtain ⟨c, k1, k2, _, _⟩ := fill_sound h1 hp z2 (cellAll_of_leafAll z3)
        refine ⟨.agg c, ?_, by unfold Rep; exact ⟨c, rfl, k2⟩⟩
        rw [f1]
        simp only [Result.andThen_ok, Sem.run_bind, Array.mapM_eq_mapM_toList, Sem.run_map, hr]
        have e : (fun x : Nat => pl.toArray[x]?) = fun j : Nat => pl[j]? := by funext j; simp
        rw [e, k1]
        rfl
    case array n e =>
      dsimp only at h
      cases hj : T e with
      | none => rw [hj] at h; cases h
      | some j =>
        rw [hj] at h
        simp only [Option.map_eq_some_iff] at h
        obtain ⟨cs, h1, rfl⟩ := h
        obtain ⟨c, k1, k2, _, _⟩ := fill_sound h1 hp z2 (cellAll_of_leafAll z3)
        refine ⟨.agg c, ?_, by unfold Rep; exact ⟨c, rfl, k2⟩⟩
        rw [und_array F hd]
        simp only [Result.andThen_ok, Sem.run_bind, run_size (hT.facts hj), k1]
        rfl
end

end Go.Vi
