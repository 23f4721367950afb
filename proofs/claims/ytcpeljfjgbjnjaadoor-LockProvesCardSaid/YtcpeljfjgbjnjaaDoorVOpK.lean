/- A slice's literal. -/
import Derived.Test.YtcpeljfjgbjnjaaDoorVOpJ
namespace Go.Vi
open Go.RowKit

section
variable {P : Program} {T : Ty} {X : Cx} {w : World}

theorem flat_len {sz : Nat} : ∀ {xs : List V}, (∀ x, x ∈ xs → x.cells.length = sz) → (flatL xs).length = xs.length * sz
  | [], _ => by simp [flatL]
  | x :: xs, h => by
    rw [flatL, List.length_append, h x List.mem_cons_self, flat_len (fun y hy => h y (List.mem_cons_of_mem _ hy)), List.length_cons, Nat.add_mul, Nat.one_mul, Nat.add_comm]
theorem flat_set {sz : Nat} {xs : List V} (h : ∀ x, x ∈ xs → x.cells.length = sz) {k : Nat} (hk : k < xs.length) {v : V} (hv : v.cells.length = sz) : flatL (xs.set k v) = splice (flatL xs) (k * sz) v.cells := by
  have e1 := list_set_at xs k hk v
  have e2 := list_at xs k hk
  have hA : (flatL (xs.take k)).length = k * sz := by
    rw [flat_len (fun x hx => h x (List.mem_of_mem_take hx)), List.length_take, Nat.min_eq_left (by omega)]
  have hx : (xs.getD k .undef).cells.length = sz := h _ (by
    rw [List.getD_eq_getElem?_getD, List.getElem?_eq_getElem hk]
    exact List.getElem_mem hk)
  have e3 : flatL xs = flatL (xs.take k) ++ ((xs.getD k .undef).cells ++ flatL (xs.drop (k + 1))) := by
    conv => lhs; rw [e2]
    rw [flatL_append, flatL]
  have e4 := splice_mid (A := flatL (xs.take k)) (C := (xs.getD k .undef).cells) (B := flatL (xs.drop (k + 1))) (cs := v.cells) (o := 0) (by omega)
  rw [hA, Nat.add_zero (k * sz)] at e4
  rw [e1, flatL_append, flatL, e3, e4]
  congr 2
  unfold splice
  rw [List.take_zero, List.nil_append, List.drop_eq_nil_of_le (by omega), List.append_nil]
theorem elems_fill {sz : Nat} : ∀ {ps : List (Nat × V)} {xs ys : List V}, (∀ x, x ∈ xs → x.cells.length = sz) → elemsE sz xs ps = some ys →
    fillE (fun k => some (k * sz, sz)) (flatL xs) ps = some (flatL ys) ∧ ys.length = xs.length ∧ ∀ y, y ∈ ys → y.cells.length = sz
  | [], xs, ys, h, he => by
    cases he
    exact ⟨rfl, rfl, h⟩
  | (i, v) :: ps, xs, ys, h, he => by
    unfold elemsE at he
    split at he
    case isFalse => cases he
    rename_i hg
    have hg' := hg
    simp only [Bool.and_eq_true, decide_eq_true_eq] at hg'
    obtain ⟨⟨g1, g2⟩, g3⟩ := hg'
    obtain ⟨k1, k2, k3⟩ := elems_fill (xs := xs.set i v) (fun x hx => by
      rcases List.mem_or_eq_of_mem_set hx with hx | rfl
      · exact h x hx
      · exact g2) he
    refine ⟨?_, by rw [k2, List.length_set], k3⟩
    unfold fillE
    dsimp only
    have hle : i * sz + sz ≤ (flatL xs).length := by
      rw [flat_len h]
      have : (i + 1) * sz ≤ xs.length * sz := Nat.mul_le_mul_right _ (by omega)
      rw [Nat.add_mul, Nat.one_mul] at this
      exact this
    rw [if_pos (by simp only [Bool.and_eq_true, decide_eq_true_eq]; exact ⟨⟨g2, hle⟩, g3⟩), ← flat_set h g1 g2]
    exact k1
end

end Go.Vi
