/- copy; conversions; operations on one and on two values. -/
import Derived.Test.YtcpeljfjgbjnjaaDoorVOpO
import Derived.Laws.IdiomStrings
import Derived.WalkSpells
namespace Go.Vi
open Go.RowKit

section
variable {P : Program} {T : Ty} {X : Cx} {w : World}

theorem flat_take {sz : Nat} {l : List V} (h : ∀ x, x ∈ l → V.plain sz x = true) (k : Nat) : flatL (l.take k) = (flatL l).take (k * sz) := by
  by_cases hk : k ≤ l.length
  · have e : flatL l = flatL (l.take k) ++ flatL (l.drop k) := by rw [← flatL_append, List.take_append_drop]
    have hl : (flatL (l.take k)).length = k * sz := by rw [flat_len_plain (fun x hx => h x (List.mem_of_mem_take hx)), List.length_take, Nat.min_eq_left hk]
    rw [e, ← hl, List.take_left]
  · rw [List.take_of_length_le (by omega), List.take_of_length_le]
    rw [flat_len_plain h]
    exact Nat.mul_le_mul_right _ (by omega)
theorem flat_drop {sz : Nat} {l : List V} (h : ∀ x, x ∈ l → V.plain sz x = true) (k : Nat) : flatL (l.drop k) = (flatL l).drop (k * sz) := by
  by_cases hk : k ≤ l.length
  · have e : flatL l = flatL (l.take k) ++ flatL (l.drop k) := by rw [← flatL_append, List.take_append_drop]
    have hl : (flatL (l.take k)).length = k * sz := by rw [flat_len_plain (fun x hx => h x (List.mem_of_mem_take hx)), List.length_take, Nat.min_eq_left hk]
    rw [e, ← hl, List.drop_left]
  · rw [List.drop_eq_nil_of_le (by omega), List.drop_eq_nil_of_le]
    · rfl
    · rw [flat_len_plain h]
      exact Nat.mul_le_mul_right _ (by omega)
theorem flat_splice {sz : Nat} {l cs : List V} (h : ∀ x, x ∈ l → V.plain sz x = true) (hc : ∀ x, x ∈ cs → V.plain sz x = true) (k : Nat) : flatL (splice l k cs) = splice (flatL l) (k * sz) (flatL cs) := by
  unfold splice
  rw [flatL_append, flatL_append, flat_take h, flat_drop h, flat_len_plain hc, Nat.add_mul]
theorem copy_sound (hT : TabOk P T) (E : Ents X w) {slot : Nat} {t u ty e : TypeId} {i j : TI} (hi : T t = some i) (hd : i.desc = .slice e) (hj : T e = some j)
    {d s : V} {vd vs : Value} {r : Res} (h : copyE X.H j.size d s = some r) (hr : r.req = true) (ha : Rep X w d (.val vd)) (hx : Rep X w s (.val vs)) :
    ∃ v w', (Builtin.copy_ #[t, u] ty #[vd, vs]).run P w = .ok v w' ∧ OpPost X w slot r v w' := by
  have F := hT.facts hi
  have G := hT.facts hj
  unfold copyE at h
  cases d <;> first | (cases h; done) | skip
  rename_i id lo len clip
  cases hsrc : srcE X.H s with
  | none => rw [hsrc] at h; cases h
  | some p =>
    obtain ⟨sz, new, r0, mine⟩ := p
    rw [hsrc] at h
    dsimp only at h
    cases hE : look X.H id with
    | dead => rw [hE] at h; cases h
    | box bl bt => rw [hE] at h; cases h
    | arr sz' xs low =>
      rw [hE] at h
      dsimp only at h
      split at h
      case isFalse => cases h
      rename_i hzz
      simp only [Bool.and_eq_true, decide_eq_true_eq] at hzz
      obtain ⟨rfl, hz2⟩ := hzz
      simp only [Option.some.injEq] at h
      subst h
      simp only [Bool.and_eq_true, decide_eq_true_eq] at hr
      obtain ⟨g1, g3⟩ := hr
      have hal : X.alive id := by unfold Cx.alive; rw [hE]; rfl
      obtain ⟨A, cap, rfl, hA, c1, c2, c3⟩ := rep_own_val hal ha
      obtain ⟨cs, S, k1, k2⟩ := src_sound (P := P) E hsrc g1 hx
      have hcl : cs.length = new.length * sz := by rw [← k1.len, flat_len_plain k2]
      have hzsz : (look X.H id).sz = sz := by rw [hE]; rfl
      rw [hzsz] at c3 hA
      have hen := E.en id
      rw [hE] at hen
      obtain ⟨c, f, h1, h2, h3, h4, h5⟩ := hen
      have hfl := (repL_flat (fun x hx => plain_single (h4 x hx))).1 h5
      have hpt : ∀ x, x ∈ new.take len → V.plain sz x = true := fun x hx => k2 x (List.mem_of_mem_take hx)
      have hcs : RepL X w (flatL (new.take len)) (.vals (cs.take (min new.length len * sz))) := by
        rw [show new.take len = new.take (min new.length len) by rw [Nat.min_comm, ← List.take_take, List.take_length], flat_take k2]
        exact repL_take_vals _ k1
      have hmin : min new.length len ≤ len := Nat.min_le_right _ _
      have hft : (flatL (new.take len)).length = min new.length len * sz := by rw [flat_len_plain hpt, List.length_take, Nat.min_comm]
      obtain ⟨q1, q2⟩ := store_row (P := P) (b := X.ι id) (off := lo * sz) (R := flatL xs) (cs := flatL (new.take len)) h1 h3 (fun x hx => inCell_of_cell1 (cell1_of_leaf (flat_leaf h4 x hx))) hfl (by rw [flat_len_plain h4]; exact h2) (flat_vals_plain hpt) hcs (by
        rw [hft, flat_len_plain h4, ← Nat.add_mul]
        exact Nat.mul_le_mul_right _ (by omega))
      obtain ⟨⟨c', p1, p2⟩, p3, p4, p5, p6, p7⟩ := setCells_facts (X.ι id) (cs.take (min new.length len * sz)) (lo * sz) w h1
      have hcin : World.cellsIn (w.setCells (X.ι id) (lo * sz) (cs.take (min new.length len * sz))) (X.ι id) = World.cellsIn w (X.ι id) := by rw [cellsIn_of p1, cellsIn_of h1, p2]
      have L := write_later (X := X) (e := .arr sz (splice xs lo (new.take len)) low) hal (by rw [hE]; rfl) p4 p5 p6 p7 p3 hcin
      have hsl : (splice xs lo (new.take len)).length = xs.length := splice_len (by rw [List.length_take]; omega)
      have hpall : ∀ y, y ∈ splice xs lo (new.take len) → V.plain sz y = true := fun y hy => by
        unfold splice at hy
        rcases List.mem_append.1 hy with hy | hy
        · rcases List.mem_append.1 hy with hy | hy
          · exact h4 y (List.mem_of_mem_take hy)
          · exact hpt y hy
        · exact h4 y (List.mem_of_mem_drop hy)
      have E' := write_ents E (e := .arr sz (splice xs lo (new.take len)) low) hal (by rw [hE]; rfl) p4 p5 p6 p7 p3 hcin ⟨c', f, p1, by rw [hsl, p2]; exact h2, fun o ho => by
        rw [World.frozen?_setCells]; exact h3 o (by omega), hpall, (repL_flat (fun x hx => plain_single (hpall x hx))).2 (by
          rw [flat_splice h4 hpt]
          exact q2 _ L)⟩
      refine ⟨.int .i64 ((min new.length len : Nat) : Int), _, ?_, .lift rfl L E' (fun _ h => .inl h) rep_int_mk (fun H' hH id' => ?_)⟩
      · have hf := S.first w (min new.length len) rfl (Nat.min_le_left _ _)
        have hst : (storeCells A (cs.take (min new.length len * sz))).run P w = .ok () (w.setCells (X.ι id) (lo * sz) (cs.take (min new.length len * sz))) := by
          rcases hA with hA | rfl
          · have h0 : min new.length len = 0 := by omega
            rw [h0, Nat.zero_mul, List.take_zero]
            rfl
          · exact q1
        have hmm : Nat.min new.length len = min new.length len := rfl
        revert hf hst hmm
        generalize min new.length len = m
        intro hf hst hmm
        simp [Builtin.copy_, run_underlying (und_slice' F hd), S.len, run_size G, ← hz2, hmm, hf, hst, goInt]
      · have := hH id'
        rw [this]
        show dlook X.H id' [(id, _)] = look (X.H.set id _) id'
        rw [dlook_one, look_set _ _ _ (lt_of_alive hal)]

theorem und_int {t : TypeId} {i : TI} (F : TyFacts P t i) {k : IntKind} (hd : i.desc = .int k) : P.underlying t = some (.int k) := by
  obtain ⟨d, d1, d2⟩ := F.und
  rw [hd] at d2
  cases d <;> first | (exfalso; simp [tdOk] at d2; done) | skip
  simp only [tdOk, beq_iff_eq] at d2
  subst d2
  exact d1
theorem und_string {t : TypeId} {i : TI} (F : TyFacts P t i) (hd : i.desc = .str) : P.underlying t = some .string := by
  obtain ⟨d, d1, d2⟩ := F.und
  rw [hd] at d2
  cases d <;> first | (exfalso; simp [tdOk] at d2; done) | skip
  exact d1
end

end Go.Vi
