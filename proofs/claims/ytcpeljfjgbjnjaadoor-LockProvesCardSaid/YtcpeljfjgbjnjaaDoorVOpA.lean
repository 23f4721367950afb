/- Operations that read and write memory: the machine does what the interpreter says. -/
import Derived.Test.YtcpeljfjgbjnjaaDoorVTy
namespace Go.Vi
open Go.RowKit

/-- The table of types tells of the program's types. -/
def TabOk (P : Program) (T : Ty) : Prop := ∀ t i, T t = some i → tyOk P t i = true
theorem TabOk.facts {P : Program} {T : Ty} (h : TabOk P T) {t : TypeId} {i : TI} (e : T t = some i) : TyFacts P t i := tyFacts (h t i e)

section
variable {P : Program} {T : Ty} {X : Cx} {w : World}

theorem alive_of {H : List Ent} {id : Nat} (h : look H id ≠ .dead) : (look H id).alive = true := by
  cases e : look H id with
  | dead => exact (h e).elim
  | box l bt => rfl
  | arr sz xs low => rfl
theorem rep_ref {id off : Nat} {v : Value} (ha : X.alive id) (h : Rep X w (.ref id off) (.val v)) : v = .pointer (some ⟨X.ι id, off, none⟩) := by
  unfold Rep holds at h
  exact h.2.2 ha
theorem rep_ref_mk {id off : Nat} (hok : X.ok id) : Rep X w (.ref id off) (.val (.pointer (some ⟨X.ι id, off, none⟩))) := by
  unfold Rep holds
  exact ⟨hok, ⟨_, rfl⟩, fun _ => rfl⟩
theorem rep_int {k : IntKind} {n : Int} {v : Value} (h : Rep X w (.int k n) (.val v)) : v = .int k n := by
  unfold Rep holds at h; exact h
theorem rep_str {s : ByteArray} {v : Value} (h : Rep X w (.str s) (.val v)) : v = .string s := by
  unfold Rep holds at h; exact h
theorem rep_bool {b : Bool} {v : Value} (h : Rep X w (.bool b) (.val v)) : v = .bool b := by
  unfold Rep holds at h; exact h
theorem rep_int_mk {k : IntKind} {n : Int} : Rep X w (.int k n) (.val (.int k n)) := by unfold Rep holds; rfl
theorem rep_bool_mk {b : Bool} : Rep X w (.bool b) (.val (.bool b)) := by unfold Rep holds; rfl
theorem rep_str_mk {s : ByteArray} : Rep X w (.str s) (.val (.string s)) := by unfold Rep holds; rfl
theorem rep_undef {v : Value} : Rep X w .undef (.val v) := by unfold Rep holds; trivial

/-- What stands in an entry from an offset on: a row of one-cell values in its block. -/
theorem entRead_row (E : Ents X w) {id off : Nat} {i : TI} {cs : List V} {r : Bool} (h : entRead (look X.H id) off i = some (cs, r)) (hr : r = true) :
    X.alive id ∧ cs.length = i.size ∧ (∀ x, x ∈ cs → x.cells = [x]) ∧ RepL X w cs (.at_ (X.ι id) off) := by
  have he := E.en id
  cases e : look X.H id with
  | dead => rw [e] at h; cases h
  | box l bt =>
    rw [e] at h he
    simp only [entRead, Option.some.injEq, Prod.mk.injEq] at h
    obtain ⟨rfl, rfl⟩ := h
    simp only [Bool.and_eq_true, decide_eq_true_eq] at hr
    obtain ⟨⟨hr, g2⟩, g3⟩ := hr
    rw [reshapesAt_eq g3 (by omega), g2]
    obtain ⟨c, f, h1, h2, h3, h4, h5⟩ := he
    refine ⟨by unfold Cx.alive; rw [e]; rfl, ?_, fun x hx => cells_of_inCell (h4 x (List.mem_of_mem_drop (List.mem_of_mem_take hx))), ?_⟩
    · rw [List.length_take, List.length_drop]; omega
    · have := repL_take_at i.size (repL_drop_at (fun x hx => cells_of_inCell (h4 x hx)) off (by omega) h5)
      rw [Nat.zero_add] at this
      exact this
  | arr sz xs low =>
    rw [e] at h he
    simp only [entRead, Option.some.injEq, Prod.mk.injEq] at h
    obtain ⟨rfl, rfl⟩ := h
    simp only [Bool.and_eq_true, decide_eq_true_eq] at hr
    obtain ⟨⟨⟨⟨g0, g1⟩, g2⟩, g3⟩, g4⟩ := hr
    obtain ⟨c, f, h1, h2, h3, h4, h5⟩ := he
    obtain ⟨k1, k2, k3⟩ := reshapes_eq g4
    rw [k1, g3] at *
    have hx := repL_elem h4 h5 (off / sz) g1
    have hp := h4 (xs.getD (off / sz) .undef) (by
      rw [List.getD_eq_getElem?_getD, List.getElem?_eq_getElem g1]
      exact List.getElem_mem g1)
    simp only [V.plain, Bool.and_eq_true, beq_iff_eq] at hp
    have hs : ∀ x, x ∈ (xs.getD (off / sz) .undef).cells → x.cells = [x] := fun x hx => cells_of_leaf (leafAll_mem hp.2 x hx)
    have hrow := repL_take_at i.size (repL_drop_at hs (off % sz) (by omega) hx.row)
    refine ⟨by unfold Cx.alive; rw [e]; rfl, ?_, fun x hx => cells_of_leaf (k3 x hx), ?_⟩
    · rw [List.length_take]; omega
    · have : 0 + off / sz * sz + off % sz = off := by rw [Nat.zero_add, Nat.mul_comm]; exact Nat.div_add_mod off sz
      rw [this] at hrow
      exact hrow

theorem load_sound (hT : TabOk P T) (E : Ents X w) {t : TypeId} {a : V} {va : Value} {r : Res} (h : loadE T X.H t a = some r) (hr : r.req = true) (ha : Rep X w a (.val va)) :
    (r.up, r.dl) = (none, []) ∧ r.nw = none ∧ ∃ v, (Instr.loadAt t va).run P w = .ok v w ∧ Rep X w r.v (.val v) := by
  unfold loadE at h
  cases hi : T t with
  | none => rw [hi] at h; cases h
  | some i =>
    have F := hT.facts hi
    rw [hi] at h
    cases a with
    | ref id off =>
      dsimp only at h
      cases he : entRead (look X.H id) off i with
      | none => rw [he] at h; cases h
      | some p =>
        obtain ⟨cs, q⟩ := p
        rw [he] at h
        simp only [Option.some.injEq] at h
        subst h
        obtain ⟨hal, hl, hs, hrow⟩ := entRead_row E he hr
        have hv := rep_ref hal ha
        subst hv
        obtain ⟨v, h1, h2⟩ := run_loadVar F hs hl hrow
        refine ⟨rfl, rfl, v, ?_, h2⟩
        simp only [Instr.loadAt, Instr.sureAddr, Sem.run_bind, Sem.run_pure, Result.andThen_ok]
        exact h1
    | cref l =>
      dsimp only at h
      simp only [Option.some.injEq] at h
      subst h
      simp only [Bool.and_eq_true, decide_eq_true_eq] at hr
      obtain ⟨k1, k2, k3⟩ := reshapes_eq hr.2
      unfold Rep at ha
      obtain ⟨b, o, rfl, hst, hs, hl⟩ := ha
      rw [k1, hr.1]
      rw [hr.1] at k2
      obtain ⟨v, h1, h2⟩ := run_loadVar F (l := l.take i.size) (fun x hx => hs x (List.mem_of_mem_take hx)) (by rw [List.length_take]; omega) (repL_take_at i.size hl)
      refine ⟨rfl, rfl, v, ?_, h2⟩
      simp only [Instr.loadAt, Instr.sureAddr, Sem.run_bind, Sem.run_pure, Result.andThen_ok]
      exact h1
    | _ => cases h

/-! ### addresses -/
theorem struct_field {t : TypeId} {i : TI} (F : TyFacts P t i) {fs : List (Nat × TypeId)} (hd : i.desc = .struct fs) {f : Nat} {fd : Nat × TypeId} (hf : fs[f]? = some fd) (w : World) :
    ∃ fields fl, (underlying t).run P w = .ok (.struct fields) w ∧ fields[f]? = some fl ∧ fl.offset = fd.1 ∧ fl.type = fd.2 := by
  obtain ⟨d, h1, h2⟩ := run_und F w
  rw [hd] at h2
  cases d <;> first | (simp only [tdOk] at h2; done) | (exfalso; simp [tdOk] at h2; done) | skip
  rename_i fields
  simp only [tdOk, beq_iff_eq] at h2
  subst h2
  simp only [List.getElem?_map, Option.map_eq_some_iff] at hf
  obtain ⟨fl, hfl, rfl⟩ := hf
  exact ⟨fields, fl, h1, by simpa using hfl, rfl, rfl⟩
theorem fieldAt_spec {t : TypeId} {f fd : Nat} {j : TI} (h : fieldAt? T t f = some (fd, j)) : ∃ i fs ty, T t = some i ∧ i.desc = .struct fs ∧ fs[f]? = some (fd, ty) ∧ T ty = some j := by
  unfold fieldAt? at h
  cases hi : T t with
  | none => rw [hi] at h; cases h
  | some i =>
    rw [hi] at h
    dsimp only at h
    cases hd : i.desc <;> rw [hd] at h <;> first | (cases h; done) | skip
    rename_i fs
    dsimp only at h
    cases hf : fs[f]? with
    | none => rw [hf] at h; cases h
    | some p =>
      rw [hf] at h
      simp only [Option.map_eq_some_iff, Prod.mk.injEq] at h
      obtain ⟨j', h1, h2, h3⟩ := h
      subst h3
      exact ⟨i, fs, p.2, rfl, hd, by rw [← h2]; exact hf, h1⟩
theorem run_fieldPlace {ty : TypeId} {j : TI} (F : TyFacts P ty j) (hj : j.size ≠ 0) {fl : Field} (ht : fl.type = ty) (b o : Nat) (w : World) : (fieldPlace ⟨b, o, none⟩ fl).run P w = .ok ⟨b, o + fl.offset, none⟩ w := by
  unfold fieldPlace
  rw [Sem.run_bind, ht, run_size F]
  simp only [Result.andThen_ok]
  rw [if_neg hj, add_off]
  rfl
theorem fieldAddr_sound (hT : TabOk P T) {t : TypeId} {x : V} {f : Nat} {va : Value} {r : Res} (h : fieldAddrE T X.H t x f = some r) (ha : Rep X w x (.val va)) :
    (r.up, r.dl) = (none, []) ∧ r.nw = none ∧ ∃ v, (Instr.fieldAt t va f).run P w = .ok v w ∧ Rep X w r.v (.val v) := by
  unfold fieldAddrE at h
  cases hf : fieldAt? T t f with
  | none => rw [hf] at h; cases h
  | some p =>
    obtain ⟨fd, j⟩ := p
    rw [hf] at h
    dsimp only at h
    obtain ⟨i, fs, ty, h1, h2, h3, h4⟩ := fieldAt_spec hf
    obtain ⟨fields, fl, g1, g2, g3, g4⟩ := struct_field (hT.facts h1) h2 h3 w
    split at h
    · cases h
    · rename_i hj
      have hrun : ∀ b o, va = .pointer (some ⟨b, o, none⟩) → (Instr.fieldAt t va f).run P w = .ok (.pointer (some ⟨b, o + fd, none⟩)) w := by
        rintro b o rfl
        unfold Instr.fieldAt
        rw [Sem.run_bind, g1]
        simp only [Result.andThen_ok, g2, Instr.sureAddr, Sem.run_bind, Sem.run_pure]
        rw [run_fieldPlace (hT.facts h4) hj g4]
        simp only [Result.andThen_ok, g3]
      cases x with
      | ref id off =>
        dsimp only at h
        split at h
        case isFalse => cases h
        rename_i hid
        simp only [Option.some.injEq] at h
        subst h
        have hv := rep_ref hid ha
        refine ⟨rfl, rfl, _, hrun _ _ hv, ?_⟩
        unfold Rep holds at ha ⊢
        exact ⟨ha.1, ⟨_, rfl⟩, fun _ => rfl⟩
      | cref l =>
        simp only [Option.some.injEq] at h
        subst h
        unfold Rep at ha
        obtain ⟨b, o, hv, hst, hs, hl⟩ := ha
        refine ⟨rfl, rfl, _, hrun _ _ hv, ?_⟩
        unfold Rep
        refine ⟨b, o + fd, rfl, hst, fun x hx => hs x (List.mem_of_mem_drop hx), ?_⟩
        by_cases hk : fd ≤ l.length
        · exact repL_drop_at hs fd hk hl
        · rw [List.drop_eq_nil_of_le (by omega)]
          unfold RepL
          trivial
      | _ => cases h

theorem idx_spec {ix : V} {k : Nat} {q : Bool} (h : idx ix = some (k, q)) : ∃ kk n, ix = .int kk n ∧ k = n.toNat ∧ q = decide (0 ≤ n) := by
  cases ix <;> first | (cases h; done) | skip
  rename_i kk n
  simp only [idx, Option.some.injEq, Prod.mk.injEq] at h
  exact ⟨kk, n, rfl, h.1.symm, h.2.symm⟩
theorem und_array {t : TypeId} {i : TI} (F : TyFacts P t i) {n : Nat} {e : TypeId} (hd : i.desc = .array n e) (w : World) : (underlying t).run P w = .ok (.array n e) w := by
  obtain ⟨d, h1, h2⟩ := run_und F w
  rw [hd] at h2
  cases d <;> first | (exfalso; simp [tdOk] at h2; done) | skip
  simp only [tdOk, Bool.and_eq_true, beq_iff_eq] at h2
  rw [h1, h2.1, h2.2]
theorem und_slice {t : TypeId} {i : TI} (F : TyFacts P t i) {e : TypeId} (hd : i.desc = .slice e) (w : World) : (underlying t).run P w = .ok (.slice e) w := by
  obtain ⟨d, h1, h2⟩ := run_und F w
  rw [hd] at h2
  cases d <;> first | (exfalso; simp [tdOk] at h2; done) | skip
  simp only [tdOk, beq_iff_eq] at h2
  rw [h1, h2]
/-- an element's address in an array -/
theorem run_indexArr {t : TypeId} {i : TI} (F : TyFacts P t i) {n : Nat} {e : TypeId} (hd : i.desc = .array n e) {j : TI} (G : TyFacts P e j) {b o : Nat} {k : IntKind} {ix : Int} (h0 : 0 ≤ ix) (h1 : ix.toNat < n) (w : World) :
    (Instr.indexAt t (.pointer (some ⟨b, o, none⟩)) (.int k ix)).run P w = .ok (.pointer (some ⟨b, o + ix.toNat * j.size, none⟩)) w := by
  have hc : 0 ≤ ix ∧ ix < (n : Int) := ⟨h0, by omega⟩
  unfold Instr.indexAt
  simp only [asIntOf, Sem.run_bind, Sem.run_pure, Result.andThen_ok, und_array F hd, Instr.sureAddr]
  rw [if_pos hc]
  simp only [Sem.run_bind, run_size G, Result.andThen_ok, Sem.run_pure, add_off]
theorem run_indexSl {t : TypeId} {i : TI} (F : TyFacts P t i) {e : TypeId} (hd : i.desc = .slice e) {j : TI} (G : TyFacts P e j) {a : Addr} {len cap : Nat} {k : IntKind} {ix : Int} (h0 : 0 ≤ ix) (h1 : ix.toNat < len) (w : World) :
    (Instr.indexAt t (.slice (some a) len cap) (.int k ix)).run P w = .ok (.pointer (some (a.add (ix.toNat * j.size)))) w := by
  have hc : 0 ≤ ix ∧ ix < (len : Int) := ⟨h0, by omega⟩
  unfold Instr.indexAt
  simp only [asIntOf, Sem.run_bind, Sem.run_pure, Result.andThen_ok, und_slice F hd]
  rw [if_pos hc]
  simp only [Sem.run_bind, run_size G, Result.andThen_ok, Sem.run_pure]
theorem indexAddr_sound (hT : TabOk P T) {t : TypeId} {x ix : V} {va vi : Value} {r : Res} (h : indexAddrE T X.H t x ix = some r) (hr : r.req = true) (ha : Rep X w x (.val va)) (hi : Rep X w ix (.val vi)) :
    (r.up, r.dl) = (none, []) ∧ r.nw = none ∧ ∃ v, (Instr.indexAt t va vi).run P w = .ok v w ∧ Rep X w r.v (.val v) := by
  unfold indexAddrE at h
  cases h1 : T t with
  | none => rw [h1] at h; cases h
  | some i =>
    cases h2 : idx ix with
    | none => rw [h1, h2] at h; cases h
    | some p =>
      obtain ⟨k, q⟩ := p
      rw [h1, h2] at h
      dsimp only at h
      obtain ⟨kk, n0, rfl, rfl, rfl⟩ := idx_spec h2
      have hv := rep_int hi
      subst hv
      have F := hT.facts h1
      cases hd : i.desc <;> rw [hd] at h <;> first | (cases h; done) | skip
      case slice e =>
        cases x <;> first | (cases h; done) | skip
        case sl sz xs c nl =>
          dsimp only at h
          cases h3 : T e with
          | none => rw [h3] at h; cases h
          | some j =>
            rw [h3] at h
            dsimp only at h
            split at h
            case isFalse => cases h
            rename_i hsz
            simp only [Option.some.injEq] at h
            subst h
            simp only [Bool.and_eq_true, decide_eq_true_eq, Bool.not_eq_true'] at hr
            obtain ⟨⟨h0, hk⟩, rfl⟩ := hr
            unfold Rep holds at ha
            simp only [Bool.false_eq_true, if_false] at ha
            obtain ⟨a, cap, rfl, g1, g2, g3, g4⟩ := ha
            rcases g4 with g4 | ⟨gs, gst, gl⟩
            · rw [g4] at hk; simp at hk
            obtain ⟨b, o, s⟩ := a
            simp only at gs
            subst gs
            refine ⟨rfl, rfl, _, run_indexSl F hd (hT.facts h3) h0 hk w, ?_⟩
            rw [add_off, hsz]
            have hel := repL_elem g3 gl n0.toNat hk
            have hp := g3 (xs.getD n0.toNat .undef) (by
              rw [List.getD_eq_getElem?_getD, List.getElem?_eq_getElem hk]
              exact List.getElem_mem hk)
            simp only [V.plain, Bool.and_eq_true, beq_iff_eq] at hp
            unfold Rep
            exact ⟨b, _, rfl, gst, fun x hx => cells_of_leaf (leafAll_mem hp.2 x hx), hel.row⟩
        case own id lo len c =>
          dsimp only at h
          cases h3 : T e with
          | none => rw [h3] at h; cases h
          | some j =>
            rw [h3] at h
            dsimp only at h
            split at h
            case isTrue => cases h
            rename_i hal
            have hal : X.alive id := by simpa [Cx.alive] using hal
            simp only [Option.some.injEq] at h
            subst h
            simp only [Bool.and_eq_true, decide_eq_true_eq] at hr
            obtain ⟨⟨h0, hk⟩, hz⟩ := hr
            unfold Rep holds at ha
            obtain ⟨hok, _, hv⟩ := ha
            obtain ⟨A, cap, rfl, hA, hcap, _⟩ := hv hal
            rcases hA with hA | rfl
            · omega
            refine ⟨rfl, rfl, _, run_indexSl F hd (hT.facts h3) h0 hk w, ?_⟩
            rw [add_off, hz, ← Nat.add_mul]
            exact rep_ref_mk hok
      case array n e =>
        cases x <;> first | (cases h; done) | skip
        case ref id off =>
          dsimp only at h
          cases h3 : T e with
          | none => rw [h3] at h; cases h
          | some j =>
            rw [h3] at h
            dsimp only at h
            split at h
            case isTrue => cases h
            rename_i hal
            have hal : X.alive id := by simpa [Cx.alive] using hal
            simp only [Option.some.injEq] at h
            subst h
            simp only [Bool.and_eq_true, decide_eq_true_eq] at hr
            have hv := rep_ref hal ha
            subst hv
            refine ⟨rfl, rfl, _, run_indexArr F hd (hT.facts h3) hr.1 hr.2 w, ?_⟩
            unfold Rep holds at ha
            exact rep_ref_mk ha.1
        case cref l =>
          dsimp only at h
          cases h3 : T e with
          | none => rw [h3] at h; cases h
          | some j =>
            rw [h3] at h
            simp only [Option.some.injEq] at h
            subst h
            simp only [Bool.and_eq_true, decide_eq_true_eq] at hr
            unfold Rep at ha
            obtain ⟨b, o, rfl, hst, hs, hl⟩ := ha
            refine ⟨rfl, rfl, _, run_indexArr F hd (hT.facts h3) hr.1 hr.2 w, ?_⟩
            unfold Rep
            refine ⟨b, _, rfl, hst, fun x hx => hs x (List.mem_of_mem_drop hx), ?_⟩
            by_cases hk : n0.toNat * j.size ≤ l.length
            · exact repL_drop_at hs _ hk hl
            · rw [List.drop_eq_nil_of_le (by omega)]
              unfold RepL
              trivial
end

end Go.Vi
