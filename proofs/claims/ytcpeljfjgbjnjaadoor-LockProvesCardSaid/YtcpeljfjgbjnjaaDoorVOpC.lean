/- Stores, whole: into a box, into an own array. -/
import Derived.Test.YtcpeljfjgbjnjaaDoorVOpB
namespace Go.Vi
open Go.RowKit

theorem splice_len {l cs : List V} {off : Nat} (h : off + cs.length ≤ l.length) : (splice l off cs).length = l.length := by
  unfold splice
  rw [List.length_append, List.length_append, List.length_take, List.length_drop]
  omega
theorem splice_mid {A C B cs : List V} {o : Nat} (h : o + cs.length ≤ C.length) : splice (A ++ (C ++ B)) (A.length + o) cs = A ++ (splice C o cs ++ B) := by
  unfold splice
  rw [List.take_append, List.take_of_length_le (by omega : A.length ≤ A.length + o), show A.length + o - A.length = o by omega, List.take_append, show o - C.length = 0 by omega, List.take_zero, List.append_nil]
  rw [List.drop_append, List.drop_eq_nil_of_le (by omega : A.length ≤ A.length + o + cs.length), List.nil_append, show A.length + o + cs.length - A.length = o + cs.length by omega, List.drop_append, show o + cs.length - C.length = 0 by omega, List.drop_zero]
  simp only [List.append_assoc]
theorem cellAll_of_leafAll : ∀ {l : List V}, V.leafAll l = true → V.cellAll l = true
  | [], _ => rfl
  | x :: xs, h => by
    simp only [V.leafAll, Bool.and_eq_true] at h
    simp only [V.cellAll, Bool.and_eq_true]
    exact ⟨cell1_of_leaf h.1, cellAll_of_leafAll h.2⟩
theorem leafAll_append : ∀ {l m : List V}, V.leafAll (l ++ m) = (V.leafAll l && V.leafAll m)
  | [], m => by simp [V.leafAll]
  | x :: xs, m => by rw [List.cons_append, V.leafAll, V.leafAll, leafAll_append, Bool.and_assoc]
theorem leafAll_of_mem : ∀ {l : List V}, (∀ x, x ∈ l → x.leaf = true) → V.leafAll l = true
  | [], _ => rfl
  | x :: xs, h => by
    simp only [V.leafAll, Bool.and_eq_true]
    exact ⟨h x List.mem_cons_self, leafAll_of_mem (fun y hy => h y (List.mem_cons_of_mem _ hy))⟩
theorem leafAll_splice {l cs : List V} {o : Nat} (h : V.leafAll l = true) (hc : V.leafAll cs = true) : V.leafAll (splice l o cs) = true := by
  refine leafAll_of_mem (fun x hx => ?_)
  unfold splice at hx
  rcases List.mem_append.1 hx with hx | hx
  · rcases List.mem_append.1 hx with hx | hx
    · exact leafAll_mem h x (List.mem_of_mem_take hx)
    · exact leafAll_mem hc x hx
  · exact leafAll_mem h x (List.mem_of_mem_drop hx)
theorem remake_cells {x : V} {cs : List V} (h1 : cs.length = x.cells.length) (h2 : V.leafAll cs = true) : (remake x cs).cells = cs := by
  cases x with
  | agg l => rfl
  | _ =>
    simp only [V.cells, List.length_singleton] at h1
    match cs, h1 with
    | [c], _ =>
      simp only [V.leafAll, Bool.and_true] at h2
      exact cells_of_leaf h2
theorem plain_single {sz : Nat} {x : V} (h : V.plain sz x = true) : ∀ y, y ∈ x.cells → y.cells = [y] := by
  simp only [V.plain, Bool.and_eq_true] at h
  exact fun y hy => cells_of_leaf (leafAll_mem h.2 y hy)
theorem flat_leaf {sz : Nat} : ∀ {l : List V}, (∀ x, x ∈ l → V.plain sz x = true) → ∀ y, y ∈ flatL l → y.leaf = true
  | [], _, y, hy => by cases hy
  | x :: xs, h, y, hy => by
    rw [flatL] at hy
    rcases List.mem_append.1 hy with hy | hy
    · have := h x List.mem_cons_self
      simp only [V.plain, Bool.and_eq_true] at this
      exact leafAll_mem this.2 y hy
    · exact flat_leaf (fun z hz => h z (List.mem_cons_of_mem _ hz)) y hy
theorem list_at (xs : List V) (k : Nat) (hk : k < xs.length) : xs = xs.take k ++ (xs.getD k .undef :: xs.drop (k + 1)) := by
  rw [List.getD_eq_getElem?_getD, List.getElem?_eq_getElem hk]
  simp
theorem list_set_at (xs : List V) (k : Nat) (hk : k < xs.length) (y : V) : xs.set k y = xs.take k ++ (y :: xs.drop (k + 1)) := by
  rw [List.set_eq_take_append_cons_drop, if_pos hk]

section
variable {P : Program} {T : Ty} {X : Cx} {w : World}
theorem run_storeVar {t : TypeId} {i : TI} (F : TyFacts P t i) {a : Addr} {v : Value} (hv : v.cells.size = i.size) {w' : World} (h : (storeCells a v.cells.toList).run P w = .ok () w') : (storeVar t a v).run P w = .ok () w' := by
  unfold storeVar
  simp only [Sem.run_bind, run_size F, Result.andThen_ok]
  rw [if_neg (by simpa using hv)]
  simpa using h

theorem store_sound (hT : TabOk P T) (E : Ents X w) {t : TypeId} {a v : V} {va vv : Value} {r : Res} (h : storeE T X.H t a v = some r) (hr : r.req = true) (ha : Rep X w a (.val va)) (hv : Rep X w v (.val vv)) :
    r.v = .undef ∧ r.nw = none ∧ ∃ id e w', r.up = none ∧ r.dl = [(id, e)] ∧ X.alive id ∧ (Instr.storeAt t va vv).run P w = .ok () w' ∧ Later X w (X.with (X.H.set id e)) w' ∧ Ents (X.with (X.H.set id e)) w' := by
  unfold storeE at h
  cases hi : T t with
  | none => rw [hi] at h; cases h
  | some i =>
    have F := hT.facts hi
    rw [hi] at h
    cases a <;> first | (cases h; done) | skip
    rename_i id off
    dsimp only at h
    split at h
    case isFalse => cases h
    rename_i hsz
    have hmain : ∀ e', e'.alive = true → e'.sz = (look X.H id).sz → ∀ us, RepL X w v.cells (.vals us) → us = vv.cells.toList → X.alive id →
        (∃ c tt f, w.heap[X.ι id]? = some (.cells c tt f) ∧ (storeCells ⟨X.ι id, off, none⟩ us).run P w = .ok () (w.setCells (X.ι id) off us) ∧
          (∀ X', Later X w X' (w.setCells (X.ι id) off us) → EntOk X' (w.setCells (X.ι id) off us) (X.ι id) e')) →
        ∃ w', (Instr.storeAt t va vv).run P w = .ok () w' ∧ Later X w (X.with (X.H.set id e')) w' ∧ Ents (X.with (X.H.set id e')) w' := by
      rintro e' he hz us hus rfl hal ⟨c, tt, f, hb, hrun, hent⟩
      have hva := rep_ref hal ha
      subst hva
      obtain ⟨⟨c', g1, g2⟩, g3, g4, g5, g6, g7⟩ := setCells_facts (X.ι id) vv.cells.toList off w hb
      have hcl : World.cellsIn (w.setCells (X.ι id) off vv.cells.toList) (X.ι id) = World.cellsIn w (X.ι id) := by rw [cellsIn_of g1, cellsIn_of hb, g2]
      have L := write_later (X := X) (w := w) (e := e') hal hz g4 g5 g6 g7 g3 hcl
      refine ⟨_, ?_, L, write_ents E hal hz g4 g5 g6 g7 g3 hcl (hent _ L)⟩
      simp only [Instr.storeAt, Instr.sureAddr, Sem.run_bind, Sem.run_pure, Result.andThen_ok]
      refine run_storeVar F ?_ hrun
      have := hus.len
      rw [← hsz, this]
      simp
    have hen := E.en id
    cases he : look X.H id with
    | dead => rw [he] at h; cases h
    | box l bt =>
      rw [he] at h hen
      simp only [entWrite] at h
      cases hca : V.cellAll v.cells with
      | false => rw [hca] at h; cases h
      | true =>
        rw [hca] at h
        simp only [if_true, Option.some.injEq] at h
        subst h
        rw [decide_eq_true_eq] at hr
        obtain ⟨c, f, h1, h2, h3, h4, h5⟩ := hen
        have hus := rep_cells hca hv
        obtain ⟨g1, g2⟩ := store_row (P := P) h1 h3 h4 h5 (by omega) hca hus hr
        have hal : X.alive id := by unfold Cx.alive; rw [he]; rfl
        obtain ⟨w', k1, k2, k3⟩ := hmain (.box (splice l off v.cells) bt) rfl (by rw [he]; rfl) _ hus rfl hal ⟨c, _, f, h1, g1, fun X' L => by
          obtain ⟨⟨c', q1, q2⟩, _⟩ := setCells_facts (X.ι id) vv.cells.toList off w h1
          refine ⟨c', f, q1, by rw [q2, h2, splice_len hr], fun o ho => ?_, fun x hx => ?_, g2 X' L⟩
          · rw [World.frozen?_setCells]; exact h3 o (by omega)
          · unfold splice at hx
            rcases List.mem_append.1 hx with hx | hx
            · rcases List.mem_append.1 hx with hx | hx
              · exact h4 x (List.mem_of_mem_take hx)
              · exact inCell_of_cell1 (cellAll_mem hca x hx)
            · exact h4 x (List.mem_of_mem_drop hx)⟩
        exact ⟨rfl, rfl, _, _, w', rfl, rfl, hal, k1, k2, k3⟩
    | arr sz xs low =>
      rw [he] at h hen
      simp only [entWrite] at h
      cases hca : V.leafAll v.cells with
      | false => rw [hca] at h; cases h
      | true =>
        rw [hca] at h
        simp only [if_true, Option.some.injEq] at h
        subst h
        simp only [Bool.and_eq_true, decide_eq_true_eq] at hr
        obtain ⟨⟨q0, q1⟩, q2⟩ := hr
        obtain ⟨c, f, h1, h2, h3, h4, h5⟩ := hen
        have hcc := cellAll_of_leafAll hca
        have hus := rep_cells hcc hv
        have hsing : ∀ x, x ∈ xs → ∀ y, y ∈ x.cells → y.cells = [y] := fun x hx => plain_single (h4 x hx)
        have hfl := (repL_flat hsing).1 h5
        have hpx := h4 (xs.getD (off / sz) .undef) (by
          rw [List.getD_eq_getElem?_getD, List.getElem?_eq_getElem q1]
          exact List.getElem_mem q1)
        have hpx' := hpx
        simp only [V.plain, Bool.and_eq_true, beq_iff_eq] at hpx'
        have hoff : off / sz * sz + off % sz = off := by rw [Nat.mul_comm]; exact Nat.div_add_mod off sz
        have hfle : (flatL xs).length = xs.length * sz := by rw [flatL_len, cellsLen_plain h4]
        have hbound : off + v.cells.length ≤ (flatL xs).length := by
          rw [hfle]
          have : (off / sz + 1) * sz ≤ xs.length * sz := Nat.mul_le_mul_right sz q1
          rw [Nat.succ_mul] at this
          omega
        obtain ⟨g1, g2⟩ := store_row (P := P) (R := flatL xs) h1 h3 (fun x hx => inCell_of_cell1 (cell1_of_leaf (flat_leaf h4 x hx))) hfl (by omega) hcc hus hbound
        have hal : X.alive id := by unfold Cx.alive; rw [he]; rfl
        have hsl : V.leafAll (splice (xs.getD (off / sz) .undef).cells (off % sz) v.cells) = true := leafAll_splice hpx'.2 hca
        have hsn : (splice (xs.getD (off / sz) .undef).cells (off % sz) v.cells).length = (xs.getD (off / sz) .undef).cells.length := splice_len (by omega)
        have hrc := remake_cells hsn hsl
        have hplain : ∀ x, x ∈ xs.set (off / sz) (remake (xs.getD (off / sz) .undef) (splice (xs.getD (off / sz) .undef).cells (off % sz) v.cells)) → V.plain sz x = true := by
          intro x hx
          rcases List.mem_or_eq_of_mem_set hx with hx | rfl
          · exact h4 x hx
          · unfold V.plain
            rw [hrc, hsn, hpx'.1, hsl]
            simp
        have hflat : flatL (xs.set (off / sz) (remake (xs.getD (off / sz) .undef) (splice (xs.getD (off / sz) .undef).cells (off % sz) v.cells))) = splice (flatL xs) off v.cells := by
          rw [list_set_at xs _ q1, flatL_append, flatL, hrc]
          have e1 : flatL xs = flatL (xs.take (off / sz)) ++ ((xs.getD (off / sz) .undef).cells ++ flatL (xs.drop (off / sz + 1))) := by
            rw [← flatL, ← flatL_append, ← list_at xs _ q1]
          have e2 : (flatL (xs.take (off / sz))).length = off / sz * sz := by
            rw [flatL_len, cellsLen_plain (fun x hx => h4 x (List.mem_of_mem_take hx)), List.length_take, Nat.min_eq_left (Nat.le_of_lt q1)]
          rw [e1]
          have := splice_mid (A := flatL (xs.take (off / sz))) (C := (xs.getD (off / sz) .undef).cells) (B := flatL (xs.drop (off / sz + 1))) (cs := v.cells) (o := off % sz) (by omega)
          rw [e2, hoff] at this
          exact this.symm
        obtain ⟨w', k1, k2, k3⟩ := hmain (.arr sz (xs.set (off / sz) (remake (xs.getD (off / sz) .undef) (splice (xs.getD (off / sz) .undef).cells (off % sz) v.cells))) low) rfl (by rw [he]; rfl) _ hus rfl hal ⟨c, _, f, h1, g1, fun X' L => by
          obtain ⟨⟨c', p1, p2⟩, _⟩ := setCells_facts (X.ι id) vv.cells.toList off w h1
          refine ⟨c', f, p1, by rw [p2, List.length_set]; exact h2, fun o ho => ?_, hplain, ?_⟩
          · rw [World.frozen?_setCells]; exact h3 o (by omega)
          · refine (repL_flat (fun x hx => plain_single (hplain x hx))).2 ?_
            rw [hflat]
            exact g2 X' L⟩
        exact ⟨rfl, rfl, _, _, w', rfl, rfl, hal, k1, k2, k3⟩
end

end Go.Vi
