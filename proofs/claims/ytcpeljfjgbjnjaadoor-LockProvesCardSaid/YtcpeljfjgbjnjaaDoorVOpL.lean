/- A slice's literal, whole. -/
import Derived.Test.YtcpeljfjgbjnjaaDoorVOpK
namespace Go.Vi
open Go.RowKit

section
variable {P : Program} {T : Ty} {X : Cx} {w : World}

theorem und_slice' {t e : TypeId} {i : TI} (F : TyFacts P t i) (hd : i.desc = .slice e) : P.underlying t = some (.slice e) := by
  obtain ⟨d, d1, d2⟩ := F.und
  rw [hd] at d2
  cases d <;> first | (exfalso; simp [tdOk] at d2; done) | skip
  simp only [tdOk, beq_iff_eq] at d2
  subst d2
  exact d1
theorem plainAll_mem {sz : Nat} : ∀ {l : List V}, plainAll sz l = true → ∀ x, x ∈ l → V.plain sz x = true
  | [], _, x, hx => by cases hx
  | y :: ys, h, x, hx => by
    simp only [plainAll, Bool.and_eq_true] at h
    rcases List.mem_cons.1 hx with rfl | hx
    · exact h.1
    · exact plainAll_mem h.2 x hx
theorem buildSlice_sound (hT : TabOk P T) (E : Ents X w) {slot : Nat} (hs : ¬ X.ok slot) {t e : TypeId} {i j : TI} {len : Nat} {ps : List (Nat × V)} {qs : Array (Nat × Value)} {xs : List V} (hi : T t = some i) (hd : i.desc = .slice e) (hj : T e = some j)
    (he : elemsE j.size (List.replicate len (zeroEl j)) ps = some xs) (hlen : len * j.size ≤ 16777216) (hp : PartsRep X w ps qs.toList) :
    ∃ v w', (Instr.buildSlice t len qs).run P w = .ok v w' ∧ (plainAll j.size xs = true → NewOk X w slot (.arr j.size xs e) (.own slot 0 len true) v w') ∧ (j.size = 1 → NewOk X w slot (.box (flatL xs) e) (.own slot 0 len true) v w') := by
  have F := hT.facts hi
  have G := hT.facts hj
  obtain ⟨inf, j1, j2, j3, z, j4, j5, _⟩ := G.inf
  have hz := zeroOk_rep (X := X) (w := w) j5
  have hcell := zeroEl_cells (fun ha => by rw [G.zlen]; exact G.one ha) hz.2
  have hzs : z.cells.size = j.size := by have := hz.1.len; rw [G.zlen] at this; simpa using this.symm
  have hfl := flat_replicate hcell hz.1 len
  have h0 : ∀ x, x ∈ List.replicate len (zeroEl j) → x.cells.length = j.size := fun x hx => by rw [List.eq_of_mem_replicate hx, hcell, G.zlen]
  obtain ⟨k1, k2, k3⟩ := elems_fill h0 he
  rw [List.length_replicate] at k2
  have hmade : (madeCells z.cells (len * j.size)).toList = (List.replicate len z.cells.toList).flatten := by rw [← hzs]; exact madeCells_list z.cells len
  rw [← hmade] at hfl
  have hca : V.cellAll (flatL (List.replicate len (zeroEl j))) = true := cellAll_of_leafAll (leafAll_of_mem (flat_leaf (sz := j.size) fun x hx => by
    rw [List.eq_of_mem_replicate hx]
    simp only [V.plain, hcell, G.zlen, hz.2, beq_self_eq_true, Bool.and_self]))
  obtain ⟨c, c1, c2, c3, c4⟩ := fill_sound k1 hp hfl hca
  have hfx := flat_len k3
  rw [k2] at hfx
  have hcs : c.size = len * j.size := by have := c2.len; rw [hfx] at this; simpa using this.symm
  refine ⟨.slice (some ⟨w.heap.size, 0, none⟩) len len, w.alloc (.cells c e), ?_, fun hpl => ?_, fun h1 => ?_⟩
  · have hnot : ¬ (len * j.size > 2 ^ 24) := by omega
    unfold Instr.buildSlice
    rw [Sem.run_bind, und_slice F hd]
    simp only [Result.andThen_ok]
    rw [Sem.run_bind, run_size G]
    simp only [Result.andThen_ok]
    rw [if_neg hnot]
    by_cases hn : len * j.size = 0
    · rw [if_pos hn]
      have : ((Array.range (len * j.size)).map fun k => (#[] : Array Value)[k % (#[] : Array Value).size]!) = madeCells z.cells (len * j.size) := by rw [hn]; simp [madeCells]
      simp only [Sem.run_bind, Sem.run_pure, Result.andThen_ok, this, c1]
      rfl
    · rw [if_neg hn]
      obtain ⟨z', z1, _⟩ := run_zero G X w
      have hzz : (zeroValue e).run P w = .ok z w := by simp [zeroValue, typeInfo, program, Sem.run, j1, j4]
      have : ((Array.range (len * j.size)).map fun k => z.cells[k % z.cells.size]!) = madeCells z.cells (len * j.size) := rfl
      simp only [Sem.run_bind, Sem.run_pure, Result.andThen_ok, hzz, this, c1]
      rfl
  · have := new_arr hs E (us := []) e (0, 0) true len len (plainAll_mem hpl) c2 (fun o _ => by rw [List.append_nil]; exact alloc_frozen w _ e o) (Nat.le_refl _) (fun _ => rfl) (by simp [hcs])
    simpa using this
  · intro H' g1 g2
    obtain ⟨L, E', _⟩ := new_box hs E e c3 c2 H' g1 g2
    refine ⟨by simpa using L, by simpa using E', ?_⟩
    unfold Rep holds
    refine ⟨.inr rfl, rfl, fun _ => ⟨_, len, rfl, .inr ?_, Nat.le_refl _, fun _ => rfl, ?_⟩⟩
    · rw [show (X.add slot w.heap.size H').ι slot = w.heap.size from if_pos rfl, Nat.zero_mul]
    · rw [show look (X.add slot w.heap.size H').H slot = .box (flatL xs) e from g1, show (X.add slot w.heap.size H').ι slot = w.heap.size from if_pos rfl, cellsIn_of (heap_alloc_new w _), hcs, h1]
      simp [Ent.sz]
end

end Go.Vi
