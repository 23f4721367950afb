/- Operations on values alone: fields, elements, parts of strings and slices. -/
import Derived.Test.YtcpeljfjgbjnjaaDoorVOpD
namespace Go.Vi
open Go.RowKit

section
variable {P : Program} {T : Ty} {X : Cx} {w : World}

theorem run_part {t : TypeId} {i : TI} (F : TyFacts P t i) {l : List V} {vs : Array Value} (hl : RepL X w l (.vals vs.toList)) {off : Nat} (ho : off + i.size ≤ l.length) :
    ∃ v, (part t vs off).run P w = .ok v w ∧ Rep X w (mkv i ((l.drop off).take i.size)) (.val v) := by
  have hlen := hl.len
  have hsub := repL_take_vals i.size (repL_drop_vals off hl)
  unfold part mkv
  rw [Sem.run_bind, run_isAgg F]
  cases ha : isAggD i.desc with
  | true =>
    refine ⟨.agg (vs.extract off (off + i.size)), ?_, ?_⟩
    · simp only [Result.andThen_ok, if_true, Sem.run_bind, run_size F, Sem.run_pure]
    · simp only [if_true]
      unfold Rep
      refine ⟨_, rfl, ?_⟩
      have : (vs.extract off (off + i.size)).toList = (vs.toList.drop off).take i.size := by
        rw [Array.toList_extract, List.extract_eq_take_drop]
        congr 1
        omega
      rw [this]
      exact hsub
  | false =>
    have hs := F.one ha
    rw [hs] at hsub ho ⊢
    have hlt : off < vs.size := by
      have : vs.toList.length = vs.size := by simp
      omega
    refine ⟨vs[off], ?_, ?_⟩
    · simp only [Result.andThen_ok, Bool.false_eq_true, if_false]
      rw [Array.getElem?_eq_getElem hlt]
      rfl
    · simp only [Bool.false_eq_true, if_false]
      obtain ⟨v, hv, hr⟩ := RepL.get hl off (l.getD off .undef) (by rw [List.getD_eq_getElem?_getD, List.getElem?_eq_getElem (by omega)]; rfl)
      have : (l.drop off).take 1 = [l.getD off .undef] := by
        have hlt' : off < l.length := by omega
        rw [List.drop_eq_getElem_cons hlt', List.getD_eq_getElem?_getD, List.getElem?_eq_getElem hlt']
        simp only [List.take_succ_cons, List.take_zero, Option.getD_some]
      rw [this]
      simp only [List.headD_cons]
      have hv' : v = vs[off] := by
        rw [List.getElem?_eq_getElem (by simpa using hlt)] at hv
        simpa using hv.symm
      rw [← hv']
      exact hr
theorem field_sound (hT : TabOk P T) {t : TypeId} {x : V} {f : Nat} {va : Value} {r : Res} (h : fieldE T t x f = some r) (ha : Rep X w x (.val va)) :
    (r.up, r.dl) = (none, []) ∧ r.nw = none ∧ ∃ v, (Instr.field t va f).run P w = .ok v w ∧ Rep X w r.v (.val v) := by
  unfold fieldE at h
  cases hf : fieldAt? T t f with
  | none => rw [hf] at h; cases h
  | some p =>
    obtain ⟨fd, j⟩ := p
    rw [hf] at h
    cases x <;> first | (cases h; done) | skip
    rename_i l
    dsimp only at h
    split at h
    case isFalse => cases h
    rename_i hle
    simp only [Option.some.injEq] at h
    subst h
    obtain ⟨i, fs, ty, h1, h2, h3, h4⟩ := fieldAt_spec hf
    obtain ⟨fields, fl, g1, g2, g3, g4⟩ := struct_field (hT.facts h1) h2 h3 w
    unfold Rep at ha
    obtain ⟨vs, rfl, hl⟩ := ha
    obtain ⟨v, k1, k2⟩ := run_part (hT.facts h4) hl hle
    refine ⟨rfl, rfl, v, ?_, k2⟩
    unfold Instr.field
    rw [Sem.run_bind, g1]
    simp only [Result.andThen_ok, g2, asAgg, Sem.run_bind, Sem.run_pure, g3, g4]
    exact k1
theorem byteAt_eq {s : ByteArray} {k : Nat} (h : k < s.size) : s[k]? = some (s[k]'h) ∧ byteAt s k = ((s[k]'h).toNat : Int) := by
  refine ⟨?_, ?_⟩
  · rw [getElem?_pos s k h]
  · unfold byteAt; rw [dif_pos h]
theorem index_sound (hT : TabOk P T) {t : TypeId} {x ix : V} {va vi : Value} {r : Res} (h : indexE T t x ix = some r) (hr : r.req = true) (ha : Rep X w x (.val va)) (hi : Rep X w ix (.val vi)) :
    (r.up, r.dl) = (none, []) ∧ r.nw = none ∧ ∃ v, (Instr.index t va vi).run P w = .ok v w ∧ Rep X w r.v (.val v) := by
  unfold indexE at h
  cases h2 : idx ix with
  | none => rw [h2] at h; cases x <;> cases h
  | some p =>
    obtain ⟨k, q⟩ := p
    obtain ⟨kk, n0, rfl, rfl, rfl⟩ := idx_spec h2
    have hv := rep_int hi
    subst hv
    rw [h2] at h
    cases h1 : T t with
    | none => rw [h1] at h; cases x <;> cases h
    | some i =>
      have F := hT.facts h1
      rw [h1] at h
      cases x <;> first | (cases h; done) | skip
      case agg l =>
        dsimp only at h
        cases hd : i.desc <;> rw [hd] at h <;> first | (cases h; done) | skip
        rename_i n e
        dsimp only at h
        cases h3 : T e with
        | none => rw [h3] at h; cases h
        | some j =>
          rw [h3] at h
          simp only [Option.some.injEq] at h
          subst h
          simp only [Bool.and_eq_true, decide_eq_true_eq] at hr
          obtain ⟨⟨⟨⟨g0, g1⟩, g2⟩, g3⟩, g4⟩ := hr
          rw [reshapesAt_eq g4 (by omega), g3]
          unfold Rep at ha
          obtain ⟨vs, rfl, hl⟩ := ha
          obtain ⟨v, k1, k2⟩ := run_part (hT.facts h3) hl g2
          refine ⟨rfl, rfl, v, ?_, k2⟩
          have hc : 0 ≤ n0 ∧ n0 < (n : Int) := ⟨g0, by omega⟩
          unfold Instr.index
          simp only [asIntOf, Sem.run_bind, Sem.run_pure, Result.andThen_ok, und_array F hd]
          rw [if_pos hc]
          simp only [Sem.run_bind, run_size (hT.facts h3), Result.andThen_ok]
          exact k1
      case str s =>
        dsimp only at h
        cases hd : i.desc <;> rw [hd] at h <;> first | (cases h; done) | skip
        simp only [Option.some.injEq] at h
        subst h
        simp only [Bool.and_eq_true, decide_eq_true_eq] at hr
        have hv := rep_str ha
        subst hv
        obtain ⟨e1, e2⟩ := byteAt_eq hr.2
        refine ⟨rfl, rfl, .int .u8 ((s[n0.toNat]'hr.2).toNat), ?_, by rw [e2]; exact rep_int_mk⟩
        obtain ⟨d, u1, u2⟩ := run_und F w
        rw [hd] at u2
        cases d <;> first | (exfalso; simp [tdOk] at u2; done) | skip
        unfold Instr.index
        simp only [asIntOf, Sem.run_bind, Sem.run_pure, Result.andThen_ok, u1]
        rw [if_pos hr.1, e1]
        rfl
end

end Go.Vi
