/- Composite values, out of their parts. -/
import Derived.Test.YtcpeljfjgbjnjaaDoorVOpG
import Derived.Great.FillDense
namespace Go.Vi
open Go.RowKit

section
variable {P : Program} {T : Ty} {X : Cx} {w : World}

def PartsRep (X : Cx) (w : World) : List (Nat × V) → List (Nat × Value) → Prop
  | [], [] => True
  | p :: ps, q :: qs => p.1 = q.1 ∧ Rep X w p.2 (.val q.2) ∧ PartsRep X w ps qs
  | _, _ => False
theorem cellAll_append : ∀ {l m : List V}, V.cellAll (l ++ m) = (V.cellAll l && V.cellAll m)
  | [], _ => by simp [V.cellAll]
  | x :: xs, m => by simp [V.cellAll, cellAll_append (l := xs), Bool.and_assoc]
theorem cellAll_of_mem : ∀ {l : List V}, (∀ x, x ∈ l → x.cell1 = true) → V.cellAll l = true
  | [], _ => rfl
  | x :: xs, h => by simp [V.cellAll, h x List.mem_cons_self, cellAll_of_mem (fun y hy => h y (List.mem_cons_of_mem _ hy))]
theorem fold_splice (off : Nat) (us : List Value) (cs : Array Value) (h : off + us.length ≤ cs.size) :
    ((us.zipIdx 0).foldl (fun cs (x : Value × Nat) => cs.setIfInBounds (off + x.2) x.1) cs).toList = cs.toList.take off ++ us ++ cs.toList.drop (off + us.length) := by
  obtain ⟨h1, h2⟩ := Go.Great.foldl_set off us 0 cs
  apply List.ext_getElem?
  intro k
  have hk := h2 k
  have e : ((us.zipIdx 0).foldl (fun cs (x : Value × Nat) => cs.setIfInBounds (off + x.2) x.1) cs).toList[k]? = ((us.zipIdx 0).foldl (fun cs (x : Value × Nat) => cs.setIfInBounds (off + x.2) x.1) cs)[k]? := by simp
  rw [e, hk, Nat.add_zero]
  have hto : (cs.toList.take off).length = off := by rw [List.length_take, Array.length_toList]; omega
  by_cases k1 : k < off
  · rw [if_neg (by omega), List.append_assoc, List.getElem?_append_left (by omega), List.getElem?_take_of_lt k1, Array.getElem?_toList]
  · by_cases k2 : k < off + us.length
    · rw [if_pos ⟨by omega, k2, by omega⟩, List.append_assoc, List.getElem?_append_right (by omega), hto, List.getElem?_append_left (by omega)]
    · rw [if_neg (by omega), List.getElem?_append_right (by rw [List.length_append, hto]; omega), List.length_append, hto, List.getElem?_drop, Array.getElem?_toList]
      congr 1
      omega
theorem fill_sound {place : Nat → Option (Nat × Nat)} : ∀ {ps : List (Nat × V)} {qs : List (Nat × Value)} {cs cs' : List V} {c : Array Value}, fillE place cs ps = some cs' → PartsRep X w ps qs → RepL X w cs (.vals c.toList) → V.cellAll cs = true →
    ∃ r, Instr.fill place c qs = some r ∧ RepL X w cs' (.vals r.toList) ∧ V.cellAll cs' = true ∧ cs'.length = cs.length
  | [], [], cs, cs', c, h, _, hc, h1 => by
    cases h
    exact ⟨c, rfl, hc, h1, rfl⟩
  | [], _ :: _, _, _, _, _, h, _, _ => h.elim
  | _ :: _, [], _, _, _, _, h, _, _ => h.elim
  | (i, x) :: ps, (i', v) :: qs, cs, cs', c, h, hp, hc, h1 => by
    obtain ⟨rfl, hx, hps⟩ := hp
    dsimp only at hx
    unfold fillE at h
    unfold Instr.fill
    cases hpl : place i with
    | none => rw [hpl] at h; cases h
    | some o =>
      obtain ⟨off, size⟩ := o
      rw [hpl] at h
      dsimp only at h ⊢
      split at h
      case isFalse => cases h
      rename_i hg
      simp only [Bool.and_eq_true, decide_eq_true_eq] at hg
      obtain ⟨⟨hl, ho⟩, hca⟩ := hg
      have hcells := rep_cells hca hx
      have hvl := hcells.len
      have hcl := hc.len
      simp only [Array.length_toList] at hvl hcl
      rw [if_neg (by simp only [ne_eq, decide_not, Bool.or_eq_true, Bool.not_eq_true', decide_eq_false_iff_not, decide_eq_true_eq, not_or, Decidable.not_not]; omega)]
      have hfold : v.cells.zipIdx.foldl (fun cs (c, j) => cs.setIfInBounds (off + j) c) c = ((v.cells.toList.zipIdx 0).foldl (fun cs (x : Value × Nat) => cs.setIfInBounds (off + x.2) x.1) c) := by
        rw [← Array.foldl_toList, Array.toList_zipIdx]
      rw [hfold]
      have hspl := fold_splice off v.cells.toList c (by simp only [Array.length_toList]; omega)
      have hnew : RepL X w (splice cs off x.cells) (.vals ((v.cells.toList.zipIdx 0).foldl (fun cs (x : Value × Nat) => cs.setIfInBounds (off + x.2) x.1) c).toList) := by
        rw [hspl]
        unfold splice
        rw [hcells.len]
        exact repL_append_vals (repL_append_vals (repL_take_vals off hc) hcells) (repL_drop_vals _ hc)
      have hall : V.cellAll (splice cs off x.cells) = true := by
        unfold splice
        rw [cellAll_append, cellAll_append, cellAll_of_mem (fun y hy => cellAll_mem h1 y (List.mem_of_mem_take hy)), hca, cellAll_of_mem (fun y hy => cellAll_mem h1 y (List.mem_of_mem_drop hy))]
        rfl
      obtain ⟨r, k1, k2, k3, k4⟩ := fill_sound h hps hnew hall
      exact ⟨r, k1, k2, k3, k4.trans (splice_len (by omega))⟩
end

end Go.Vi
