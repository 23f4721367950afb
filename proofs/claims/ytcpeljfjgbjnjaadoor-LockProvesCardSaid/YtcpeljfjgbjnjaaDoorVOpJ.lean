/- make; a slice's literal. -/
import Derived.Test.YtcpeljfjgbjnjaaDoorVOpI
import Derived.Laws.MakeOwn
namespace Go.Vi
open Go.RowKit

section
variable {P : Program} {T : Ty} {X : Cx} {w : World}

theorem cyc (z : List Value) (f : Nat → Value) (hf : ∀ k, k < z.length → z[k]? = some (f k)) (hp : ∀ k, f (k + z.length) = f k) : ∀ n, (List.range (n * z.length)).map f = (List.replicate n z).flatten
  | 0 => by simp
  | n + 1 => by
    have e : (n + 1) * z.length = z.length + n * z.length := by rw [Nat.add_mul, Nat.one_mul, Nat.add_comm]
    have h1 : (List.range z.length).map f = z := by
      apply List.ext_getElem?
      intro k
      rw [List.getElem?_map]
      by_cases hk : k < z.length
      · rw [List.getElem?_range hk, hf k hk]; rfl
      · rw [List.getElem?_eq_none (by simp; omega), List.getElem?_eq_none (by omega)]; rfl
    rw [e, List.range_add, List.map_append, h1, List.map_map, List.replicate_succ, List.flatten_cons, ← cyc z f hf hp n]
    congr 1
    apply List.map_congr_left
    intro k _
    show f (z.length + k) = f k
    rw [Nat.add_comm]
    exact hp k
theorem madeCells_list (z : Array Value) (n : Nat) : (madeCells z (n * z.size)).toList = (List.replicate n z.toList).flatten := by
  have := cyc z.toList (fun k => z[k % z.size]!) (fun k hk => by
    have hk' : k < z.size := by simpa using hk
    rw [Nat.mod_eq_of_lt hk', Array.getElem?_toList, Array.getElem?_eq_getElem hk', getElem!_pos z k hk']) (fun k => by
    show z[(k + z.toList.length) % z.size]! = z[k % z.size]!
    rw [Array.length_toList, Nat.add_mod_right]) n
  rw [Array.length_toList] at this
  rw [← this]
  simp [madeCells]
theorem flat_replicate {l : List V} {vs : List Value} {x : V} (hx : x.cells = l) (h : RepL X w l (.vals vs)) : ∀ n, RepL X w (flatL (List.replicate n x)) (.vals (List.replicate n vs).flatten)
  | 0 => by simp only [List.replicate_zero, flatL, List.flatten_nil]; unfold RepL; rfl
  | n + 1 => by
    rw [List.replicate_succ, List.replicate_succ, flatL, List.flatten_cons, hx]
    exact repL_append_vals h (flat_replicate hx h n)
theorem zeroEl_cells {i : TI} (hz : isAggD i.desc = false → i.zero.length = 1) (hl : V.leafAll i.zero = true) : (zeroEl i).cells = i.zero := by
  unfold zeroEl
  split
  · rfl
  · rename_i ha
    have h1 := hz (by simpa using ha)
    match hm : i.zero, h1 with
    | [x], _ =>
      rw [hm] at hl
      simp only [V.leafAll, Bool.and_true] at hl
      exact cells_of_leaf hl
theorem makeSlice_sound (hT : TabOk P T) (E : Ents X w) {slot : Nat} (hs : ¬ X.ok slot) {t : TypeId} {l c : V} {vl vc : Value} {r : Res} (h : makeSliceE T slot t l c = some r) (hr : r.req = true) (hl : Rep X w l (.val vl)) (hc : Rep X w c (.val vc)) :
    (r.up, r.dl) = (none, []) ∧ ∃ e v w', r.nw = some e ∧ (Instr.makeSlice t vl vc).run P w = .ok v w' ∧ NewOk X w slot e r.v v w' := by
  unfold makeSliceE at h
  cases hi : T t with
  | none => rw [hi] at h; cases h
  | some i =>
    cases h1 : idx l with
    | none => rw [hi, h1] at h; cases h
    | some p1 =>
      cases h2 : idx c with
      | none => rw [hi, h1, h2] at h; cases h
      | some p2 =>
        obtain ⟨n, q⟩ := p1
        obtain ⟨m, q'⟩ := p2
        rw [hi, h1, h2] at h
        dsimp only at h
        obtain ⟨k1, a, rfl, rfl, rfl⟩ := idx_spec h1
        obtain ⟨k2, b, rfl, rfl, rfl⟩ := idx_spec h2
        have F := hT.facts hi
        cases hd : i.desc <;> rw [hd] at h <;> first | (cases h; done) | skip
        rename_i e
        dsimp only at h
        cases hj : T e with
        | none => rw [hj] at h; cases h
        | some j =>
          have G := hT.facts hj
          rw [hj] at h
          dsimp only at h
          split at h
          case isFalse => cases h
          rename_i hg
          simp only [Bool.and_eq_true, decide_eq_true_eq] at hg
          obtain ⟨hlf, hzl⟩ := hg
          simp only [Option.some.injEq] at h
          subst h
          simp only [Bool.and_eq_true, decide_eq_true_eq] at hr
          obtain ⟨⟨⟨⟨g1, g2⟩, g3⟩, g4⟩, g5⟩ := hr
          have e1 := rep_int hl
          have e2 := rep_int hc
          subst e1 e2
          obtain ⟨inf, j1, j2, j3, z, j4, j5, _⟩ := G.inf
          have hu : P.underlying t = some (.slice e) := by
            obtain ⟨d, d1, d2⟩ := F.und
            rw [hd] at d2
            cases d <;> first | (exfalso; simp [tdOk] at d2; done) | skip
            simp only [tdOk, beq_iff_eq] at d2
            subst d2
            exact d1
          have hz := zeroOk_rep (X := X) (w := w) j5
          have hcell := zeroEl_cells (fun ha => by rw [hzl]; exact G.one ha) hlf
          have hzs : z.cells.size = j.size := by have := hz.1.len; simpa [hzl] using this.symm
          unfold most at g4
          have hbyte : (inf.bytes : Int) * b ≤ 281474976710656 := by
            have hb0 : (inf.bytes : Int) ≤ 4096 := by rw [j3]; omega
            have : (inf.bytes : Int) * b ≤ 4096 * b := Int.mul_le_mul_of_nonneg_right hb0 g2
            omega
          have hrun := run_make (P := P) w t e inf z hu j1 j4 k1 k2 a b g1 (by omega) hbyte (by omega)
          refine ⟨rfl, _, _, _, rfl, hrun, ?_⟩
          have hfl := flat_replicate hcell hz.1 a.toNat
          have hsplit : (madeCells z.cells (b.toNat * inf.size)).toList = (List.replicate a.toNat z.cells.toList).flatten ++ (List.replicate (b.toNat - a.toNat) z.cells.toList).flatten := by
            rw [j2, ← hzs, madeCells_list, ← List.flatten_append, List.replicate_append_replicate]
            congr 2
            omega
          have harr : madeCells z.cells (b.toNat * inf.size) = ((List.replicate a.toNat z.cells.toList).flatten ++ (List.replicate (b.toNat - a.toNat) z.cells.toList).flatten).toArray := by
            rw [← hsplit]
          rw [harr]
          refine new_arr hs E e (0, 0) _ a.toNat b.toNat (fun x hx => ?_) hfl (fun o _ => alloc_frozen w _ e o) (by omega) (fun hc => by simp only [decide_eq_true_eq] at hc; exact hc.symm) ?_
          · rw [List.eq_of_mem_replicate hx]
            simp only [V.plain, hcell, hzl, hlf, beq_self_eq_true, Bool.and_self]
          · rw [← hsplit, Array.length_toList, size_madeCells, j2]
            exact Nat.le_refl _
end

end Go.Vi
