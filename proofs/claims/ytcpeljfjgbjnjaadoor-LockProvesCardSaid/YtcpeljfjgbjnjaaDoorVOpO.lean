/- append to an own slice; append, whole. -/
import Derived.Test.YtcpeljfjgbjnjaaDoorVOpN
namespace Go.Vi
open Go.RowKit

section
variable {P : Program} {T : Ty} {X : Cx} {w : World}

/-- The context in which entry id is given up and a new one lies in block b. -/
def Cx.moved (X : Cx) (slot b : Nat) (H' : List Ent) : Cx := { ι := fun i => if i = slot then b else X.ι i, ok := fun i => X.ok i ∨ i = slot, H := H', ph := X.ph }
def MovedTo (X : Cx) (id slot : Nat) (e : Ent) (H' : List Ent) : Prop := ∀ i, look H' i = if i = slot then e else if i = id then .dead else look X.H i
theorem moved_alive {id slot b : Nat} {e : Ent} {H' : List Ent} (hH : MovedTo X id slot e H') {i : Nat} (hi : (X.moved slot b H').alive i) : i = slot ∨ (i ≠ slot ∧ i ≠ id ∧ X.alive i ∧ look H' i = look X.H i) := by
  unfold Cx.alive at hi
  have hl := hH i
  have hi : (look H' i).alive = true := hi
  by_cases h1 : i = slot
  · exact .inl h1
  · rw [if_neg h1] at hl
    by_cases h2 : i = id
    · rw [if_pos h2] at hl; rw [hl] at hi; cases hi
    · rw [if_neg h2] at hl
      rw [hl] at hi
      exact .inr ⟨h1, h2, hi, hl⟩
/-- An own slice appended to in its own room. -/
theorem append_own_room (E : Ents X w) {id slot size et : Nat} (hs : ¬ X.ok slot) {xs new : List V} {cs : List Value} {H' : List Ent} (hl : look X.H id = .arr size xs et) (hH : MovedTo X id slot (.arr size (xs ++ new) et) H')
    (hp : ∀ y, y ∈ new → V.plain size y = true) (hcs : RepL X w (flatL new) (.vals cs)) (hroom : cs = [] ∨ (xs.length + new.length) * size ≤ World.cellsIn w (X.ι id)) :
    (storeCells ⟨X.ι id, xs.length * size, none⟩ cs).run P w = .ok () (w.setCells (X.ι id) (xs.length * size) cs) ∧
      Later X w (X.moved slot (X.ι id) H') (w.setCells (X.ι id) (xs.length * size) cs) ∧ Ents (X.moved slot (X.ι id) H') (w.setCells (X.ι id) (xs.length * size) cs) ∧
      World.cellsIn (w.setCells (X.ι id) (xs.length * size) cs) (X.ι id) = World.cellsIn w (X.ι id) := by
  have hal : X.alive id := by unfold Cx.alive; rw [hl]; rfl
  have hen := E.en id
  rw [hl] at hen
  obtain ⟨c, f, h1, h2, h3, h4, h5⟩ := hen
  have hcl := hcs.len
  rw [flat_len_plain hp] at hcl
  have hlen : (xs.length + new.length) * size = xs.length * size + cs.length := by rw [Nat.add_mul, hcl]
  have hfit : xs.length * size + cs.length ≤ c.size := by
    rcases hroom with h | h
    · rw [h]; simpa using h2
    · rw [cellsIn_of h1, hlen] at h; exact h
  have hcell : ∀ j, j < cs.length → (w.cell? ⟨X.ι id, xs.length * size + j, none⟩).isSome = true := fun j hj => by
    rw [cell_of_heap h1, Array.getElem?_eq_getElem (by omega)]; rfl
  have hcp : V.cellAll (flatL new) = true := flat_vals_plain hp
  have hrun := run_storeCells_cells (P := P) (X.ι id) (xs.length * size) cs 0 w (fun j hj => by rw [Nat.add_zero]; exact hcell j hj) (fun j hj => by rw [Nat.add_zero]; exact h3 _ (by omega)) (repL_one hcp hcs)
  rw [Nat.add_zero] at hrun
  obtain ⟨⟨c', g1, g2⟩, g3, g4, g5, g6, g7⟩ := setCells_facts (X.ι id) cs (xs.length * size) w h1
  have hcin : World.cellsIn (w.setCells (X.ι id) (xs.length * size) cs) (X.ι id) = World.cellsIn w (X.ι id) := by rw [cellsIn_of g1, cellsIn_of h1, g2]
  have hne : ∀ i, X.ok i → i ≠ slot := fun i hi e => hs (e ▸ hi)
  have hι : (X.moved slot (X.ι id) H').ι slot = X.ι id := if_pos rfl
  have hι' : ∀ i, i ≠ slot → (X.moved slot (X.ι id) H').ι i = X.ι i := fun i hi => if_neg hi
  have L : Later X w (X.moved slot (X.ι id) H') (w.setCells (X.ι id) (xs.length * size) cs) := by
    refine ⟨fun i hi => hι' i (hne i hi), fun i hi => .inl hi, fun i hi ha => ?_, by rw [g4]; exact Nat.le_refl _, g5, g6, g7, fun b hb => g3 b (fun e => hb.2 ⟨id, hal, e.symm⟩), fun b hb => ?_, fun _ => Iff.rfl⟩
    · rcases moved_alive hH ha with h | ⟨_, k2, k3, k4⟩
      · exact (hne i hi h).elim
      · refine ⟨k3, congrArg Ent.sz k4, cellsIn_same (g3 _ fun e => k2 (E.inj i id k3 hal e))⟩
    · obtain ⟨i, ha, hb⟩ := hb
      rcases moved_alive hH ha with h | ⟨k1, k2, k3, k4⟩
      · subst h; rw [hι] at hb; exact .inl ⟨id, hal, hb⟩
      · rw [hι' i k1] at hb; exact .inl ⟨i, k3, hb⟩
  refine ⟨hrun, L, ⟨fun i => ?_, fun i ha => ?_, fun i j hi hj he => ?_, fun b h => by have := E.phlt b h; omega, fun i hi hp => ?_⟩, hcin⟩
  rotate_right
  · rcases moved_alive hH hi with h | ⟨a1, a2, a3, _⟩
    · subst h; rw [hι] at hp; exact E.nph id hal hp
    · rw [hι' i a1] at hp; exact E.nph i a3 hp
  · by_cases hi : i = slot
    · have hpall : ∀ y, y ∈ xs ++ new → V.plain size y = true := fun y hy => by
        rcases List.mem_append.1 hy with hy | hy
        · exact h4 y hy
        · exact hp y hy
      rw [hi, hι, show look (X.moved slot (X.ι id) H').H slot = .arr size (xs ++ new) et from (hH slot).trans (if_pos rfl)]
      refine ⟨c', f, g1, by rw [List.length_append, hlen, g2]; exact hfit, fun o ho => ?_, hpall, ?_⟩
      · rw [World.frozen?_setCells]; exact h3 o (by omega)
      · refine (repL_flat (fun x hx => plain_single (hpall x hx))).2 ?_
        have hfl := (repL_flat (fun x hx => plain_single (h4 x hx))).1 h5
        obtain ⟨vs, hvl, hvc, hvr⟩ := hfl.read (fun x hx => cells_of_leaf (flat_leaf h4 x hx))
        rw [flat_len_plain h4] at hvl
        rw [flatL_append]
        refine RepL.write (vs := vs ++ cs) (fun x hx => ?_) (fun k v hk => ?_) (repL_append_vals (RepL.later L _ _ (fun b o e => by cases e) hvr) (RepL.later L _ _ (fun b o e => by cases e) hcs))
        · rcases List.mem_append.1 hx with hx | hx
          · exact inCell_of_cell1 (cell1_of_leaf (flat_leaf h4 x hx))
          · exact inCell_of_cell1 (cell1_of_leaf (flat_leaf hp x hx))
        · rw [Nat.zero_add]
          by_cases hlt : k < vs.length
          · rw [List.getElem?_append_left hlt] at hk
            rw [World.cell?_setCells_out _ cs _ w ⟨X.ι id, k, none⟩ (fun _ _ => .inl (by simp only; omega))]
            have := hvc k v hk
            rw [Nat.zero_add] at this
            exact this
          · rw [List.getElem?_append_right (by omega)] at hk
            have hj : k - vs.length < cs.length := by
              apply Classical.byContradiction
              intro hn
              rw [List.getElem?_eq_none (by omega)] at hk
              cases hk
            have := World.cell?_setCells_in (X.ι id) cs (xs.length * size) w hcell (k - vs.length) hj
            rw [show xs.length * size + (k - vs.length) = k by omega] at this
            rw [this, ← hk, List.getElem?_eq_getElem hj]
    · rw [hι' i hi, show look (X.moved slot (X.ι id) H').H i = _ from (hH i).trans (if_neg hi)]
      by_cases h2 : i = id
      · rw [if_pos h2]; trivial
      · rw [if_neg h2]
        by_cases h3 : X.alive i
        · exact (E.en i).later L (g3 _ fun e => h2 (E.inj i id h3 hal e))
        · cases hE : look X.H i with
          | dead => trivial
          | box l bt => exact (h3 (by unfold Cx.alive; rw [hE]; rfl)).elim
          | arr a b c => exact (h3 (by unfold Cx.alive; rw [hE]; rfl)).elim
  · rcases moved_alive hH ha with h | ⟨_, _, k3, _⟩
    · exact .inr h
    · exact .inl (E.ok i k3)
  · rcases moved_alive hH hi with h | ⟨a1, a2, a3, _⟩ <;> rcases moved_alive hH hj with h' | ⟨b1, b2, b3, _⟩
    · rw [h, h']
    · subst h; rw [hι, hι' j b1] at he
      exact (b2 (E.inj j id b3 hal he.symm)).elim
    · subst h'; rw [hι, hι' i a1] at he
      exact (a2 (E.inj i id a3 hal he)).elim
    · rw [hι' i a1, hι' j b1] at he
      exact E.inj i j a3 b3 he
theorem moved_of_new {id slot : Nat} {e : Ent} {x : V} {v : Value} {w' : World} {H' : List Ent} (hal : X.alive id) (hH : MovedTo X id slot e H') (h : NewOk (X.with (X.H.set id .dead)) w slot e x v w') :
    ∃ X', X'.H = H' ∧ Later X w X' w' ∧ Ents X' w' ∧ Rep X' w' x (.val v) ∧ (∀ i, X'.ok i → X.ok i ∨ i = slot) := by
  obtain ⟨L, E', hr⟩ := h H' ((hH slot).trans (if_pos rfl)) (fun i hi => by
    rw [hH i, if_neg hi]
    exact (look_set X.H id .dead (lt_of_alive hal) i).symm)
  exact ⟨_, rfl, kill_later.trans L, E', hr, fun i hi => hi⟩
theorem moved_ok {slot : Nat} {X' : Cx} {H' : List Ent} (hX : X'.H = H') (h : ∀ i, X'.ok i → X.ok i ∨ i = slot) (h1 : X.H.length ≤ H'.length) (h2 : slot < H'.length) (ho : OkLt X) : OkLt X' := by
  intro i hi
  rw [hX]
  rcases h i hi with hi | rfl
  · have := ho i hi; omega
  · exact h2

theorem moved_exists {id slot : Nat} (hid : X.ok id) (hs : ¬ X.ok slot) (hal : X.alive id) (e : Ent) : MovedTo X id slot e (((X.H ++ List.replicate (slot + 1) Ent.dead).set slot e).set id .dead) := by
  have hne : id ≠ slot := fun h => hs (h ▸ hid)
  have hl := lt_of_alive hal
  have hpad : ∀ i, look (X.H ++ List.replicate (slot + 1) Ent.dead) i = look X.H i := fun i => by
    unfold look
    rw [List.getD_eq_getElem?_getD, List.getD_eq_getElem?_getD]
    by_cases h : i < X.H.length
    · rw [List.getElem?_append_left h]
    · rw [List.getElem?_append_right (by omega), List.getElem?_eq_none (by omega : X.H.length ≤ i), List.getElem?_replicate]
      split <;> rfl
  intro i
  rw [look_set _ _ _ (by simp; omega), look_set _ _ _ (by simp; omega), hpad]
  by_cases h1 : i = id
  · rw [if_pos h1, if_neg (fun h => hne (h1 ▸ h)), if_pos h1]
  · rw [if_neg h1]
    by_cases h2 : i = slot
    · rw [if_pos h2, if_pos h2]
    · rw [if_neg h2, if_neg h2, if_neg h1]

theorem append_sound (hT : TabOk P T) (E : Ents X w) {slot : Nat} (hs : ¬ X.ok slot) {t u ty e : TypeId} {i j : TI} (hi : T t = some i) (hd : i.desc = .slice e) (hj : T e = some j) (hby : j.bytes ≤ 4096)
    (hu : tyIs T u (fun | .slice _ => true | .str => true | _ => false) = true) {s x : V} {vs vx : Value} {r : Res} {fl : Bool} (h : appendE fl X.H slot e j.size s x = some r) (hr : r.req = true) (ha : Rep X w s (.val vs)) (hx : Rep X w x (.val vx)) :
    ∃ v w', (Builtin.append_ #[t, u] ty #[vs, vx]).run P w = .ok v w' ∧ OpPost X w slot r v w' := by
  have F := hT.facts hi
  have G := hT.facts hj
  obtain ⟨inf, j1, j2, j3, z, j4, j5, _⟩ := G.inf
  have ht := und_slice' F hd
  obtain ⟨d, hu1, hu2⟩ := und_src hT hu
  have hz := zeroOk_rep (X := X) (w := w) j5
  have hzs : z.cells.size = j.size := by have := hz.1.len; rw [G.zlen] at this; simpa using this.symm
  unfold appendE at h
  cases hsrc : srcE X.H x with
  | none => rw [hsrc] at h; cases h
  | some p =>
    obtain ⟨sz, new, r0, mine⟩ := p
    rw [hsrc] at h
    dsimp only at h
    split at h
    case isTrue => cases h
    rename_i hsz'
    have hsz' : sz = j.size := Classical.byContradiction hsz'
    subst hsz'
    have hlenz : ∀ (cs os : List Value) (k : Nat), k * j.size ≤ (os ++ cs).length → ∀ need cap, (os ++ cs).length = need * j.size → need ≤ cap → cap * j.size ≤ (os ++ cs ++ (Builtin.zeroCells z.cells (cap - need)).toList).length := by
      intro cs os k _ need cap h1 h2
      rw [List.length_append, h1, Array.length_toList, size_zeroCells, hzs, ← Nat.add_mul]
      exact Nat.mul_le_mul_right _ (by omega)
    cases s <;> first | (cases h; done) | skip
    case sl sz' l clip nl =>
      dsimp only at h
      -- what both ways share
      have key : r0 = true → (nl || sz' == j.size) = true → l.length + new.length ≤ most → ∃ base cap os cs, vs = .slice base l.length cap ∧ l.length ≤ cap ∧ (clip = true → cap = l.length) ∧ (nl = true → cap = 0 ∧ base = none ∧ l = []) ∧
          RepL X w (flatL (l ++ new)) (.vals (os ++ cs)) ∧ (∀ y, y ∈ l ++ new → V.plain j.size y = true) ∧ (os ++ cs).length = (l.length + new.length) * j.size ∧ Rep X w (.sl j.size l false nl) (.val vs) ∧
          (new = [] → (Builtin.append_ #[t, u] ty #[vs, vx]).run P w = .ok vs w) ∧
          (cap < l.length + new.length → (Builtin.append_ #[t, u] ty #[vs, vx]).run P w = .ok (.slice (some ⟨w.heap.size, 0, none⟩) (l.length + new.length) (grownCap w (l.length + new.length) cap e))
            (w.drew.alloc (.cells (os ++ cs ++ (Builtin.zeroCells z.cells (grownCap w (l.length + new.length) cap e - (l.length + new.length))).toList).toArray e))) := by
        intro q1 q2 q3
        obtain ⟨cs, S, k1, k2⟩ := src_sound (P := P) E hsrc q1 hx
        obtain ⟨base, cap, os, rfl, b1, b2, b3, b4, b5, b6, b7⟩ := base_facts (P := P) E ha q2
        have hcl : cs.length = new.length * j.size := by rw [← k1.len, flat_len_plain k2]
        have hol : os.length = l.length * j.size := by rw [← b5.len, flat_len_plain b6]
        rw [← j2] at S hcl
        refine ⟨base, cap, os, cs, rfl, b1, b2, b3, by rw [flatL_append]; exact repL_append_vals b5 k1, fun y hy => ?_, by rw [List.length_append, hol, hcl, j2, Nat.add_mul], b7, fun hn => ?_, fun hg => ?_⟩
        · rcases List.mem_append.1 hy with hy | hy
          · exact b6 y hy
          · exact k2 y hy
        · subst hn
          simp only [List.length_nil, Nat.zero_mul] at hcl
          have hcs : cs = [] := List.eq_nil_of_length_eq_zero hcl
          subst hcs
          have := runV_append_room (P := P) w (ty := ty) ht hu1 hu2 j1 (base := base) (sLen := l.length) (sCap := cap) S (by simp) (by simpa using b1) (w2 := w) (by cases base <;> rfl)
          simpa using this
        · exact runV_append_grow w ht hu1 hu2 j1 j4 S hcl (fun w' hw => by rw [j2]; exact b4 w' hw) hg (by unfold most at q3; exact q3) (by rw [j3]; exact hby)
      cases hm : mine || fl with
      | true =>
        rw [hm] at h
        simp only [if_true, Option.some.injEq] at h
        subst h
        simp only [Bool.and_eq_true, decide_eq_true_eq] at hr
        obtain ⟨⟨⟨⟨g1, g2⟩, g3⟩, g4⟩, g5⟩ := hr
        obtain ⟨base, cap, os, cs, rfl, b1, b2, b3, b5, b6, b7, b8, _, hgrow⟩ := key g1 g3 g5
        have hcap := b2 g2
        refine ⟨_, _, hgrow (by omega), OpPost.new rfl rfl (NewOk.drew ?_)⟩
        have hge := grownCap_ge w (l.length + new.length) cap e
        have L := Later.drew X w
        have hx2 := alloc_frozen w.drew (os ++ cs ++ (Builtin.zeroCells z.cells (grownCap w (l.length + new.length) cap e - (l.length + new.length))).toList).toArray e
        exact new_arr hs (E.heap L rfl) e (0, 0) false (l.length + new.length) _ b6 (RepL.later L _ _ (fun b o e => by cases e) b5) (fun o _ => hx2 o) hge (fun h => by cases h) (hlenz cs os 0 (by simp) _ _ b7 hge)
      | false =>
        rw [hm] at h
        simp only [Bool.false_eq_true, if_false, Option.some.injEq] at h
        subst h
        simp only [Bool.and_eq_true, decide_eq_true_eq] at hr
        obtain ⟨⟨⟨g1, g2⟩, g3⟩, g5⟩ := hr
        obtain ⟨base, cap, os, cs, rfl, b1, b2, b3, b5, b6, b7, b8, hroom, hgrow⟩ := key g1 g3 g5
        cases new with
        | nil =>
          refine ⟨_, w, hroom rfl, OpPost.pure E rfl rfl ?_⟩
          simpa using b8
        | cons y ys =>
          simp only [List.isEmpty_cons, Bool.or_false] at g2
          have hcap := b2 g2
          refine ⟨_, _, hgrow (by simp; omega), OpPost.grown E rfl rfl (((Below.refl _ _).drew).alloc (Nat.le_refl _) _) ?_⟩
          have hge := grownCap_ge w (l.length + (y :: ys).length) cap e
          have L := Later.drew X w
          simp only [List.isEmpty_cons, Bool.and_false]
          exact rep_newrow (w := w.drew) (E.heap L rfl) b6 (RepL.later L _ _ (fun b o e => by cases e) b5) (by rw [List.length_append]) hge rfl
    case own id lo len clip =>
      cases lo with
      | succ lo => cases h
      | zero =>
        cases hE : look X.H id with
        | dead => simp only [hE] at h; cases h
        | box bl bt => simp only [hE] at h; cases h
        | arr sz' xs low =>
          simp only [hE] at h
          split at h
          case isFalse => cases h
          rename_i hzz
          simp only [Bool.and_eq_true, decide_eq_true_eq, beq_iff_eq] at hzz
          obtain ⟨hz1, hz2⟩ := hzz
          have hz2 := hz2.symm
          subst hz1 hz2
          simp only [Option.some.injEq] at h
          subst h
          simp only [Bool.and_eq_true, decide_eq_true_eq] at hr
          obtain ⟨⟨g1, g2⟩, g3⟩ := hr
          have hal : X.alive id := by unfold Cx.alive; rw [hE]; rfl
          obtain ⟨A, cap, rfl, hA, c1, c2, c3⟩ := rep_own_val hal ha
          obtain ⟨cs, S, k1, k2⟩ := src_sound (P := P) E hsrc g1 hx
          have hcl : cs.length = new.length * j.size := by rw [← k1.len, flat_len_plain k2]
          have hzsz : (look X.H id).sz = j.size := by rw [hE]; rfl
          rw [hzsz] at c3 hA
          rw [Nat.zero_add] at c3
          have S' := S
          rw [← j2] at S'
          by_cases hroom : len + new.length ≤ cap
          · have hst : cs = [] ∨ (xs.length + new.length) * j.size ≤ World.cellsIn w (X.ι id) := by
              right
              rw [← g2]
              exact Nat.le_trans (Nat.mul_le_mul_right _ hroom) c3
            have hmv : ∀ H', MovedTo X id slot (.arr j.size (xs ++ new) e) H' → _ := fun H' hH => append_own_room (P := P) E hs hE hH k2 k1 hst
            refine ⟨.slice (some A) (len + new.length) cap, w.setCells (X.ι id) (xs.length * j.size) cs, ?_, ?_⟩
            · refine runV_append_room w ht hu1 hu2 j1 S' (by rw [j2]; exact hcl) hroom ?_
              simp only
              rcases hA with hA | rfl
              · have h0 : new.length = 0 := by omega
                rw [h0, Nat.zero_mul] at hcl
                have hcs : cs = [] := List.eq_nil_of_length_eq_zero hcl
                subst hcs
                rfl
              · rw [Nat.zero_mul, add_off, Nat.zero_add, j2, g2]
                exact (append_own_room (P := P) E (H' := ((X.H ++ List.replicate (slot + 1) Ent.dead).set slot (Ent.arr j.size (xs ++ new) e)).set id Ent.dead) hs hE (moved_exists (E.ok id hal) hs hal _) k2 k1 hst).1
            · intro H' hH hlen
              have hlen := hlen rfl
              obtain ⟨s1, s2, s3, s4⟩ := hmv H' hH
              refine ⟨_, rfl, s2, s3, ?_, fun ho => moved_ok rfl (fun i hi => hi) hlen.1 (hlen.2 (by simp)) ho, fun _ i hi => hi.imp (fun h => h) fun h => ⟨h, by simp⟩⟩
              unfold Rep holds
              refine ⟨.inr rfl, rfl, fun _ => ⟨A, cap, rfl, ?_, hroom, (fun h => by cases h), ?_⟩⟩
              · rcases hA with hA | rfl
                · exact .inl hA
                · right
                  rw [Nat.zero_mul, Nat.zero_mul]
                  show (⟨X.ι id, 0, none⟩ : Addr) = ⟨if slot = slot then X.ι id else _, 0, none⟩
                  rw [if_pos rfl]
              · rw [show look (X.moved slot (X.ι id) H').H slot = Ent.arr j.size (xs ++ new) e from (hH slot).trans (if_pos rfl), show (X.moved slot (X.ι id) H').ι slot = X.ι id from if_pos rfl, s4, Nat.zero_add]
                exact c3
          · -- a new array
            obtain ⟨_, _, q3, q4, q5⟩ := own_row E (id := id) (lo := 0) (len := len) (sz := j.size) (xs := xs) (r := true) (by unfold ownElems; rw [hE]; simp [g2]) rfl
            obtain ⟨os, p1, p2, p3⟩ := row_first (P := P) q4 q5
            have hgrow := runV_append_grow (P := P) w (ty := ty) ht hu1 hu2 j1 j4 (base := some A) (sLen := len) (sCap := cap) S' (by rw [j2]; exact hcl) (os := os) (fun w' hw => by
              show (loadCells A (len * inf.size)).run P w' = _
              rw [j2]
              have := p3 w' len hw (by omega)
              rw [show len * j.size = os.length by rw [p2, q3], List.take_length] at this
              rcases hA with hA | rfl
              · have h0 : len = 0 := by omega
                have : os = [] := List.eq_nil_of_length_eq_zero (by rw [p2, q3, h0, Nat.zero_mul])
                subst this
                rw [h0, Nat.zero_mul]
                rfl
              · rw [show len * j.size = os.length by rw [p2, q3]]
                exact this) (by omega) (by unfold most at g3; omega) (by rw [j3]; exact hby)
            refine ⟨_, _, hgrow, ?_⟩
            intro H' hH hlen
            have hlen := hlen rfl
            have hge := grownCap_ge w (len + new.length) cap e
            have L := Later.drew X w
            have K : Later X w.drew (X.with (X.H.set id .dead)) w.drew := kill_later
            have E2 := kill_ents (E.heap L rfl) (id := id)
            have hpall : ∀ y, y ∈ xs ++ new → V.plain j.size y = true := fun y hy => by
              rcases List.mem_append.1 hy with hy | hy
              · exact q4 y hy
              · exact k2 y hy
            have hrow := repL_append_vals p1 k1
            rw [← flatL_append] at hrow
            have hx2 := alloc_frozen w.drew (os ++ cs ++ (Builtin.zeroCells z.cells (grownCap w (len + new.length) cap e - (len + new.length))).toList).toArray e
            have hNew := new_arr (slot := slot) (X := X.with (X.H.set id .dead)) hs E2 e (0, 0) false (len + new.length) (grownCap w (len + new.length) cap e) hpall (RepL.later (L.trans K) _ _ (fun b o e => by cases e) hrow) (fun o _ => hx2 o) hge (fun h => by cases h)
              (hlenz cs os 0 (by simp) _ _ (by rw [List.length_append, p2, q3, hcl, Nat.add_mul]) hge)
            obtain ⟨X', x1, x2, x3, x4, x5⟩ := moved_of_new hal hH hNew
            exact ⟨X', x1, L.trans x2, x3, x4, fun ho => moved_ok x1 x5 hlen.1 (hlen.2 (by simp)) ho, fun _ i hi => (x5 i hi).imp (fun h => h) fun h => ⟨h, by simp⟩⟩
end

end Go.Vi
