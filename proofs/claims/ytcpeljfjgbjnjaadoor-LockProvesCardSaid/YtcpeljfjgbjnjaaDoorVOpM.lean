/- What is appended or copied: a string, a slice, an own slice: its length, its cells. -/
import Derived.Test.YtcpeljfjgbjnjaaDoorVOpL
import Derived.Laws.AppendOwn
namespace Go.Vi
open Go.RowKit

/-- What is asked of a source in every world of the same heap. -/
structure Src (P : Program) (w : World) (sz : Nat) (v : Value) (n : Nat) (cs : List Value) : Prop where
  len : ∀ w', (Builtin.lenOf v).run P w' = .ok n w'
  first : ∀ w' k, w'.heap = w.heap → k ≤ n → (Builtin.firstCells sz k v).run P w' = .ok (cs.take (k * sz)).toArray w'

section
variable {P : Program} {T : Ty} {X : Cx} {w : World}

theorem plain_cells {sz : Nat} {x : V} (h : V.plain sz x = true) : x.cells.length = sz := by
  simp only [V.plain, Bool.and_eq_true, beq_iff_eq] at h
  exact h.1
theorem flat_len_plain {sz : Nat} {l : List V} (h : ∀ x, x ∈ l → V.plain sz x = true) : (flatL l).length = l.length * sz := flat_len (fun x hx => plain_cells (h x hx))
/-- a row of plain elements, read -/
theorem row_first {sz b o : Nat} {new : List V} (hp : ∀ x, x ∈ new → V.plain sz x = true) (h : RepL X w new (.at_ b o)) :
    ∃ cs : List Value, RepL X w (flatL new) (.vals cs) ∧ cs.length = new.length * sz ∧
      ∀ w' k, w'.heap = w.heap → k ≤ new.length → (loadCells ⟨b, o, none⟩ (k * sz)).run P w' = .ok (cs.take (k * sz)).toArray w' := by
  have hf := (repL_flat (fun x hx => plain_single (hp x hx))).1 h
  obtain ⟨vs, h1, h2, h3⟩ := hf.read (fun x hx => cells_of_leaf (flat_leaf hp x hx))
  rw [flat_len_plain hp] at h1
  refine ⟨vs, h3, h1, fun w' k hw hk => ?_⟩
  have hle : k * sz ≤ vs.length := by rw [h1]; exact Nat.mul_le_mul_right _ hk
  have hl : (vs.take (k * sz)).length = k * sz := by rw [List.length_take]; omega
  have := run_row (P := P) (w := w') (b := b) (o := o) (vs := vs.take (k * sz)) (fun i v hi => by
    have hlt : i < (vs.take (k * sz)).length := by
      apply Classical.byContradiction
      intro hn
      rw [List.getElem?_eq_none (by omega)] at hi
      cases hi
    rw [List.getElem?_take_of_lt (by omega)] at hi
    rw [cell?_same (w := w) (by rw [hw])]
    exact h2 i v hi)
  rw [hl] at this
  exact this
theorem run_loadZero {A : Addr} {w' : World} : (loadCells A 0).run P w' = .ok #[] w' := rfl
theorem bytesV_len (s : ByteArray) : (bytesV s).length = s.size := by unfold bytesV; simp
theorem flat_bytes (l : List UInt8) : flatL (l.map byteV) = l.map byteV := by
  induction l with
  | nil => rfl
  | cons b l ih => rw [List.map_cons, flatL, ih]; rfl
theorem rep_bytes (l : List UInt8) : RepL X w (l.map byteV) (.vals (l.map fun b => Value.int .u8 b.toNat)) := by
  induction l with
  | nil => unfold RepL; rfl
  | cons b l ih =>
    rw [List.map_cons, List.map_cons]
    unfold RepL
    exact ⟨_, _, rfl, rep_int_mk, ih⟩
theorem plain_byte (b : UInt8) : V.plain 1 (byteV b) = true := rfl
theorem src_str (s : ByteArray) : ∃ cs, Src P w 1 (.string s) (bytesV s).length cs ∧ RepL X w (flatL (bytesV s)) (.vals cs) ∧ ∀ y, y ∈ bytesV s → V.plain 1 y = true := by
  refine ⟨s.data.toList.map fun b => Value.int .u8 b.toNat, ⟨fun w' => ?_, fun w' k _ hk => ?_⟩, ?_, fun y hy => ?_⟩
  · rw [bytesV_len]; rfl
  · show (pure ((s.extract 0 k).data.map fun b => Value.int .u8 b.toNat) : Sem (Array Value)).run P w' = _
    rw [Sem.run_pure, Nat.mul_one]
    congr 1
    apply Array.toList_inj.1
    rw [Array.toList_map, ByteArray.data_extract, Array.toList_extract]
    simp [List.map_take, List.extract]
  · unfold bytesV
    rw [flat_bytes]
    exact rep_bytes _
  · unfold bytesV at hy
    obtain ⟨b, _, rfl⟩ := List.mem_map.1 hy
    exact plain_byte b
/-- a part of an entry that an own slice leads to -/
theorem own_row (E : Ents X w) {id lo len sz : Nat} {xs : List V} {r : Bool} (h : ownElems X.H id lo len = some (sz, xs, r)) (hr : r = true) :
    X.alive id ∧ sz = (look X.H id).sz ∧ xs.length = len ∧ (∀ x, x ∈ xs → V.plain sz x = true) ∧ RepL X w xs (.at_ (X.ι id) (lo * sz)) := by
  have hen := E.en id
  unfold ownElems at h
  cases he : look X.H id with
  | dead => rw [he] at h; cases h
  | box l bt =>
    rw [he] at h hen
    dsimp only at h
    split at h
    case isFalse => cases h
    rename_i hl
    simp only [Option.some.injEq, Prod.mk.injEq] at h
    obtain ⟨rfl, rfl, rfl⟩ := h
    rw [decide_eq_true_eq] at hr
    obtain ⟨c, f, h1, h2, h3, h4, h5⟩ := hen
    have hsing : ∀ x, x ∈ l → x.cells = [x] := fun x hx => cells_of_leaf (leafAll_mem hl x hx)
    refine ⟨by unfold Cx.alive; rw [he]; rfl, rfl, by rw [List.length_take, List.length_drop]; omega, fun x hx => ?_, ?_⟩
    · have hx' := List.mem_of_mem_drop (List.mem_of_mem_take hx)
      unfold V.plain
      rw [hsing x hx']
      simp [V.leafAll, leafAll_mem hl x hx']
    · have := repL_take_at len (repL_drop_at hsing lo (by omega) h5)
      rw [Nat.zero_add] at this
      rw [Nat.mul_one]
      exact this
  | arr sz' ys low =>
    rw [he] at h hen
    simp only [Option.some.injEq, Prod.mk.injEq] at h
    obtain ⟨rfl, rfl, rfl⟩ := h
    rw [decide_eq_true_eq] at hr
    obtain ⟨c, f, h1, h2, h3, h4, h5⟩ := hen
    refine ⟨by unfold Cx.alive; rw [he]; rfl, rfl, by rw [List.length_take, List.length_drop]; omega, fun x hx => h4 x (List.mem_of_mem_drop (List.mem_of_mem_take hx)), ?_⟩
    rw [← List.take_append_drop lo ys] at h5
    have := (repL_append_at.1 h5).2
    rw [cellsLen_plain (fun x hx => h4 x (List.mem_of_mem_take hx)), List.length_take, Nat.min_eq_left (by omega), Nat.zero_add] at this
    exact repL_take_at _ this
theorem src_sound (E : Ents X w) {x : V} {v : Value} {sz : Nat} {new : List V} {r mine : Bool} (h : srcE X.H x = some (sz, new, r, mine)) (hr : r = true) (ha : Rep X w x (.val v)) :
    ∃ cs, Src P w sz v new.length cs ∧ RepL X w (flatL new) (.vals cs) ∧ ∀ y, y ∈ new → V.plain sz y = true := by
  unfold srcE at h
  cases x <;> first | (cases h; done) | skip
  case str s =>
    simp only [Option.some.injEq, Prod.mk.injEq] at h
    obtain ⟨rfl, rfl, rfl, rfl⟩ := h
    have := rep_str ha
    subst this
    exact src_str s
  case sl sz' l c n =>
    simp only [Option.some.injEq, Prod.mk.injEq] at h
    obtain ⟨rfl, rfl, rfl, rfl⟩ := h
    unfold Rep holds at ha
    cases n with
    | true =>
      obtain ⟨rfl, rfl⟩ := ha
      refine ⟨[], ⟨fun _ => rfl, fun w' k _ hk => ?_⟩, by simp only [flatL]; unfold RepL; rfl, fun y hy => by cases hy⟩
      rw [List.take_nil]
      rfl
    | false =>
      obtain ⟨a, cap, rfl, g1, g2, g3, g4⟩ := ha
      rcases g4 with rfl | ⟨gs, gst, gl⟩
      · refine ⟨[], ⟨fun _ => rfl, fun w' k _ hk => ?_⟩, by simp only [flatL]; unfold RepL; rfl, g3⟩
        simp only [List.length_nil, Nat.le_zero] at hk
        subst hk
        rw [List.take_nil]
        show (loadCells a (0 * sz')).run P w' = _
        rw [Nat.zero_mul]
        rfl
      · obtain ⟨b, o, s⟩ := a
        simp only at gs
        subst gs
        obtain ⟨cs, k1, k2, k3⟩ := row_first (P := P) g3 gl
        exact ⟨cs, ⟨fun _ => rfl, k3⟩, k1, g3⟩
  case own id lo len c =>
    dsimp only at h
    cases ho : ownElems X.H id lo len with
    | none => rw [ho] at h; cases h
    | some p =>
      obtain ⟨sz', l, r'⟩ := p
      rw [ho] at h
      simp only [Option.some.injEq, Prod.mk.injEq] at h
      obtain ⟨rfl, rfl, rfl, rfl⟩ := h
      obtain ⟨h1, h2, h3, h4, h5⟩ := own_row E ho hr
      obtain ⟨A, cap, rfl, hA, hcap, _⟩ := rep_own_val h1 ha
      obtain ⟨cs, k1, k2, k3⟩ := row_first (P := P) h4 h5
      refine ⟨cs, ⟨fun _ => by rw [h3]; rfl, fun w' k hw hk => ?_⟩, k1, h4⟩
      show (loadCells A (k * sz')).run P w' = _
      rcases hA with hA | rfl
      · have : k = 0 := by omega
        subst this
        rw [Nat.zero_mul, List.take_zero]
        rfl
      · rw [← h2]
        exact k3 w' k hw hk
end

/-! ### the machine's append -/
section
variable {P : Program} (w : World)
theorem runV_append_room {t u ty e : TypeId} {i : TypeInfo} {d : TypeDesc} (ht : P.underlying t = some (.slice e)) (hu : P.underlying u = some d) (hd : d = .string ∨ ∃ e', d = .slice e') (hi : P.info? e = some i)
    {base : Option Addr} {sLen sCap n : Nat} {xv : Value} {cs : List Value} (hs : Src P w i.size xv n cs) (hn : cs.length = n * i.size) (hroom : sLen + n ≤ sCap) {w2 : World}
    (hst : (match base with | some a => storeCells (a.add (sLen * i.size)) cs | none => (pure () : Sem Unit)).run P w = .ok () w2) :
    (Builtin.append_ #[t, u] ty #[.slice base sLen sCap, xv]).run P w = .ok (.slice base (sLen + n) sCap) w2 := by
  have h1 := hs.len w
  have h2 := hs.first w n rfl (Nat.le_refl n)
  rw [← hn, List.take_length] at h2
  cases base with
  | none =>
    simp only [Sem.run_pure, Result.ok.injEq] at hst
    obtain ⟨_, rfl⟩ := hst
    rcases hd with rfl | ⟨e', rfl⟩ <;> simp [Builtin.append_, run_underlying ht, run_underlying hu, sizeOf, typeInfo, hi, h1, hroom, h2]
  | some a =>
    simp only at hst
    rcases hd with rfl | ⟨e', rfl⟩ <;> simp [Builtin.append_, run_underlying ht, run_underlying hu, sizeOf, typeInfo, hi, h1, hroom, h2, hst]
theorem runV_append_grow {t u ty e : TypeId} {i : TypeInfo} {z : Value} {d : TypeDesc} (ht : P.underlying t = some (.slice e)) (hu : P.underlying u = some d) (hd : d = .string ∨ ∃ e', d = .slice e') (hi : P.info? e = some i) (hz : i.zero = some z)
    {base : Option Addr} {sLen sCap n : Nat} {xv : Value} {cs os : List Value} (hs : Src P w i.size xv n cs) (hn : cs.length = n * i.size)
    (ho : ∀ w', w'.heap = w.heap → (Builtin.firstCells i.size sLen (.slice base sLen sCap)).run P w' = .ok os.toArray w') (hg : sCap < sLen + n) (hneed : sLen + n ≤ 1073741824) (hby : i.bytes ≤ 4096) :
    (Builtin.append_ #[t, u] ty #[.slice base sLen sCap, xv]).run P w =
      .ok (.slice (some ⟨w.heap.size, 0, none⟩) (sLen + n) (grownCap w (sLen + n) sCap e))
        (w.drew.alloc (.cells (os ++ cs ++ (Builtin.zeroCells z.cells (grownCap w (sLen + n) sCap e - (sLen + n))).toList).toArray e)) := by
  have h1 := hs.len
  have h2 := hs.first w.drew n rfl (Nat.le_refl n)
  rw [← hn, List.take_length] at h2
  have h3 := ho w.drew rfl
  have hroom : ¬ (sLen + n ≤ sCap) := by omega
  have h63 : ¬ (9223372036854775807 < ((sLen : Int) + (n : Int))) := by omega
  have hfit := growslice_fits (bytes := i.bytes) hg (by
    have : (sLen + n) * i.bytes ≤ 1073741824 * 4096 := Nat.mul_le_mul hneed hby
    omega)
  have h48 : ¬ (281474976710656 < Builtin.nextslicecap (sLen + n) sCap * i.bytes) := by omega
  rcases hd with rfl | ⟨e', rfl⟩ <;> simp [Builtin.append_, run_underlying ht, run_underlying hu, sizeOf, typeInfo, zeroValue, hi, hz, h1, hroom, h63, h48, Question.forced, h2, h3, newRow, grownCap] <;> (congr 2; apply Array.toList_inj.1; simp)
end

end Go.Vi
