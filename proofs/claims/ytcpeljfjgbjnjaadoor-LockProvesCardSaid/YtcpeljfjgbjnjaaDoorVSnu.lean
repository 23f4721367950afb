/- A loop's head: what is dead is forgotten, the entries that are left are numbered anew. -/
import Derived.Test.YtcpeljfjgbjnjaaDoorVSnt
namespace Go.Vi
open Go.RowKit

theorem addNew_pre : ∀ (xs l : List Nat), l.Nodup → ∃ m, addNew l xs = l ++ m ∧ (l ++ m).Nodup
  | [], l, h => ⟨[], by simp [addNew], by simpa using h⟩
  | x :: xs, l, h => by
    unfold addNew
    by_cases hx : l.contains x
    · rw [if_pos hx]
      exact addNew_pre xs l h
    · rw [if_neg hx]
      have hn : (l ++ [x]).Nodup := by
        rw [List.nodup_append]
        refine ⟨h, by simp, fun a ha b hb => ?_⟩
        simp only [List.mem_singleton] at hb
        subst hb
        intro e
        subst e
        exact hx (by simpa using ha)
      obtain ⟨m, h1, h2⟩ := addNew_pre xs (l ++ [x]) hn
      exact ⟨x :: m, by rw [h1]; simp, by simpa using h2⟩
theorem grow_pre (H : List Ent) : ∀ (n : Nat) (l : List Nat), l.Nodup → ∃ m, grow H l n = l ++ m ∧ (l ++ m).Nodup
  | 0, l, h => ⟨[], by simp [grow], by simpa using h⟩
  | n + 1, l, h => by
    unfold grow
    obtain ⟨m, h1, h2⟩ := addNew_pre (l.flatMap fun i => entRefs (look H i)) l h
    rw [h1]
    obtain ⟨m', h3, h4⟩ := grow_pre H n (l ++ m) h2
    exact ⟨m ++ m', by rw [h3, List.append_assoc], by rw [← List.append_assoc]; exact h4⟩
theorem tidy_list (base : Nat) (H : List Ent) (xs : List Nat) : ∃ m, grow H (addNew (List.range base) xs) 4 = List.range base ++ m ∧ (List.range base ++ m).Nodup := by
  obtain ⟨m, h1, h2⟩ := addNew_pre xs (List.range base) List.nodup_range
  rw [h1]
  obtain ⟨m', h3, h4⟩ := grow_pre H 4 _ h2
  exact ⟨m ++ m', by rw [h3, List.append_assoc], by rw [← List.append_assoc]; exact h4⟩
theorem findAt_some {x i : Nat} : ∀ {l : List Nat}, findAt x l = some i → i < l.length ∧ l.getD i 0 = x
  | [], h => by cases h
  | y :: l, h => by
    simp only [findAt] at h
    split at h
    · rename_i e
      cases h
      exact ⟨by simp, by simp [e]⟩
    · simp only [Option.map_eq_some_iff] at h
      obtain ⟨j, h1, rfl⟩ := h
      obtain ⟨h2, h3⟩ := findAt_some h1
      exact ⟨by simp; omega, by simpa using h3⟩

/-- The context whose entries are those of a list. -/
def Cx.sub (X : Cx) (l : List Nat) (H : List Ent) : Cx := { ι := fun i => X.ι (l.getD i 0), ok := fun i => i < l.length ∧ X.ok (l.getD i 0), H := H, ph := X.ph }
section
variable {X : Cx} {w : World} {l : List Nat} {H : List Ent}
theorem renEnt_alive (e : Ent) : (renEnt l e).alive = e.alive ∧ (renEnt l e).sz = e.sz := by cases e <;> exact ⟨rfl, rfl⟩
def SubOf (X : Cx) (l : List Nat) (H : List Ent) : Prop := ∀ i, look H i = if i < l.length then renEnt l (look X.H (l.getD i 0)) else .dead
theorem sub_look : SubOf X l (l.map fun i => renEnt l (look X.H i)) := by
  intro i
  unfold look
  rw [List.getD_eq_getElem?_getD, List.getElem?_map]
  by_cases hi : i < l.length
  · rw [if_pos hi, List.getElem?_eq_getElem hi]
    simp [hi]
  · rw [if_neg hi, List.getElem?_eq_none (by omega)]
    rfl
theorem sub_alive (hH : SubOf X l H) {i : Nat} (h : (X.sub l H).alive i) : i < l.length ∧ X.alive (l.getD i 0) ∧ look H i = renEnt l (look X.H (l.getD i 0)) := by
  have h : (look H i).alive = true := h
  have e := hH i
  by_cases hi : i < l.length
  · rw [if_pos hi] at e
    rw [e, (renEnt_alive _).1] at h
    exact ⟨hi, h, e⟩
  · rw [if_neg hi] at e
    rw [e] at h
    cases h
theorem sub_stable (hH : SubOf X l H) (b : Nat) (h : Stable X w b) : Stable (X.sub l H) w b := by
  refine ⟨⟨h.1.1, fun ⟨i, ha, hb⟩ => h.1.2 ⟨l.getD i 0, (sub_alive hH ha).2.1, hb⟩⟩, h.2⟩
theorem rename_cells (x : V) : (rename l x).cells.length = x.cells.length := by
  cases x <;> simp only [rename] <;> first | rfl | skip
  · simp only [V.cells]
    rename_i xs
    induction xs with
    | nil => rfl
    | cons y ys ih => simp only [renames, List.length_cons, ih]
  · split <;> rfl
  · split <;> rfl
mutual
theorem rename_rep (hH : SubOf X l H) : ∀ (x : V) (m : M1), Rep X w x m → Rep (X.sub l H) w (rename l x) m
  | .int _ _, _, h => by simp only [rename]; exact data_rep (sub_stable hH) _ _ rfl h
  | .bool _, _, h => by simp only [rename]; exact data_rep (sub_stable hH) _ _ rfl h
  | .str _, _, h => by simp only [rename]; exact data_rep (sub_stable hH) _ _ rfl h
  | .nilptr, _, h => by simp only [rename]; exact data_rep (sub_stable hH) _ _ rfl h
  | .nilfn, _, h => by simp only [rename]; exact data_rep (sub_stable hH) _ _ rfl h
  | .sl _ _ _ _, _, h => by simp only [rename]; exact data_rep (sub_stable hH) _ _ rfl h
  | .undef, _, h => by simp only [rename]; unfold Rep at h ⊢; exact h
  | .cref _, .val v, h => by simp only [rename]; unfold Rep holds; trivial
  | .cref _, .at_ b o, h => by unfold Rep at h; exact h.elim
  | .fn f xs, _, h => by
    simp only [rename]
    unfold Rep at h ⊢
    refine holds_later (fun _ _ _ => rfl) ?_ h
    rintro v ⟨cs, rfl, hc⟩
    exact ⟨cs, rfl, renames_rep hH xs _ hc⟩
  | .agg xs, .val v, h => by
    simp only [rename]
    unfold Rep at h ⊢
    obtain ⟨vs, rfl, hl⟩ := h
    exact ⟨vs, rfl, renames_rep hH xs _ hl⟩
  | .agg xs, .at_ b o, h => by
    simp only [rename]
    unfold Rep at h ⊢
    exact renames_rep hH xs _ h
  | .tup xs, .val v, h => by
    simp only [rename]
    unfold Rep at h ⊢
    obtain ⟨vs, rfl, hl⟩ := h
    exact ⟨vs, rfl, renames_rep hH xs _ hl⟩
  | .tup xs, .at_ b o, h => by unfold Rep at h; exact h.elim
  | .ref id off, m, h => by
    simp only [rename]
    unfold Rep at h
    cases hf : findAt id l with
    | none =>
      unfold Rep
      exact holds_later (fun _ _ _ => rfl) (fun _ _ => trivial) h
    | some i =>
      obtain ⟨h1, h2⟩ := findAt_some hf
      unfold Rep
      refine holds_later (fun _ _ _ => rfl) ?_ h
      rintro v ⟨hok, h3, h4⟩
      refine ⟨⟨h1, by rw [h2]; exact hok⟩, h3, fun ha => ?_⟩
      have := (sub_alive hH ha).2.1
      rw [h2] at this
      show v = .pointer (some ⟨X.ι (l.getD i 0), off, none⟩)
      rw [h2]
      exact h4 this
  | .own id lo len clip, m, h => by
    simp only [rename]
    unfold Rep at h
    cases hf : findAt id l with
    | none =>
      unfold Rep
      exact holds_later (fun _ _ _ => rfl) (fun _ _ => trivial) h
    | some i =>
      obtain ⟨h1, h2⟩ := findAt_some hf
      unfold Rep
      refine holds_later (fun _ _ _ => rfl) ?_ h
      rintro v ⟨hok, h3, h4⟩
      refine ⟨⟨h1, by rw [h2]; exact hok⟩, h3, fun ha => ?_⟩
      obtain ⟨_, k1, k2⟩ := sub_alive hH ha
      rw [h2] at k1 k2
      have hz : (look (X.sub l H).H i).sz = (look X.H id).sz := by
        show (look H i).sz = _
        rw [k2, (renEnt_alive _).2]
      rw [hz]
      show ∃ A cap, v = .slice (some A) len cap ∧ (cap = 0 ∨ A = ⟨X.ι (l.getD i 0), lo * (look X.H id).sz, none⟩) ∧ len ≤ cap ∧ (clip = true → cap = len) ∧ (lo + cap) * (look X.H id).sz ≤ World.cellsIn w (X.ι (l.getD i 0))
      rw [h2]
      exact h4 k1
theorem renames_rep (hH : SubOf X l H) : ∀ (xs : List V) (m : ML), RepL X w xs m → RepL (X.sub l H) w (renames l xs) m
  | [], .vals vs, h => by simp only [renames]; unfold RepL at h ⊢; exact h
  | [], .at_ _ _, _ => by simp only [renames]; unfold RepL; trivial
  | x :: xs, .vals vs, h => by
    simp only [renames]
    unfold RepL at h ⊢
    obtain ⟨v, vs', rfl, hx, hxs⟩ := h
    exact ⟨v, vs', rfl, rename_rep hH x _ hx, renames_rep hH xs _ hxs⟩
  | x :: xs, .at_ b o, h => by
    simp only [renames]
    unfold RepL at h ⊢
    rw [rename_cells]
    exact ⟨rename_rep hH x _ h.1, renames_rep hH xs _ h.2⟩
end
theorem rename_inCell {x : V} (h : x.inCell = true) : (rename l x).inCell = true := by
  cases x <;> simp only [rename] <;> first | rfl | (cases h; done) | skip
  · split <;> rfl
  · split <;> rfl
theorem renames_mem : ∀ {xs : List V} {y : V}, y ∈ renames l xs → ∃ x, x ∈ xs ∧ y = rename l x
  | [], y, h => by simp [renames] at h
  | x :: xs, y, h => by
    simp only [renames] at h
    rcases List.mem_cons.1 h with rfl | h
    · exact ⟨x, List.mem_cons_self, rfl⟩
    · obtain ⟨z, h1, h2⟩ := renames_mem h
      exact ⟨z, List.mem_cons_of_mem _ h1, h2⟩
theorem renames_length : ∀ {xs : List V}, (renames l xs).length = xs.length
  | [] => rfl
  | x :: xs => by simp only [renames, List.length_cons, renames_length]
theorem sub_ent (hH : SubOf X l H) {b : Nat} {e : Ent} (h : EntOk X w b e) : EntOk (X.sub l H) w b (renEnt l e) := by
  cases e with
  | dead => trivial
  | box cs bt =>
    obtain ⟨c, f, h1, h2, h3, h4, h5⟩ := h
    refine ⟨c, f, h1, by rw [renames_length]; exact h2, h3, fun y hy => ?_, renames_rep hH cs _ h5⟩
    obtain ⟨x, hx, rfl⟩ := renames_mem hy
    exact rename_inCell (h4 x hx)
  | arr sz xs low =>
    obtain ⟨c, f, h1, h2, h3, h4, h5⟩ := h
    exact ⟨c, f, h1, h2, h3, h4, data_repL (sub_stable hH) xs _ (fun x hx => okD_plain (h4 x hx)) h5⟩
theorem clear_rep (live : List Nat) : ∀ (xs : List V) (i : Nat) (vs : List Value), RepL X w xs (.vals vs) → RepL X w (clear live i xs) (.vals vs)
  | [], _, vs, h => by simp only [clear]; exact h
  | x :: xs, i, vs, h => by
    simp only [clear]
    unfold RepL at h ⊢
    obtain ⟨v, vs', rfl, hx, hxs⟩ := h
    refine ⟨v, vs', rfl, ?_, clear_rep live xs (i + 1) vs' hxs⟩
    split
    · exact hx
    · exact rep_undef
theorem sub_ok {C : Cfg} (hC : CfgOk C) (O : Ok C X w) (hn : l.Nodup) (hl : H.length = l.length) (hH : SubOf X l H) : Ok C (X.sub l H) w := by
  refine ⟨⟨fun i => ?_, fun i ha => ?_, fun i j hi hj he => ?_, O.ents.phlt, fun i ha => O.ents.nph _ (sub_alive hH ha).2.1⟩, fun i hi => ?_, O.globs.data (sub_stable hH) hC.glob⟩
  · show EntOk _ w (X.ι (l.getD i 0)) (look H i)
    rw [hH i]
    split
    · exact sub_ent hH (O.ents.en _)
    · trivial
  · obtain ⟨h1, h2, _⟩ := sub_alive hH ha
    exact ⟨h1, O.ents.ok _ h2⟩
  · obtain ⟨h1, h2, _⟩ := sub_alive hH hi
    obtain ⟨h3, h4, _⟩ := sub_alive hH hj
    have := O.ents.inj _ _ h2 h4 he
    rw [List.getD_eq_getElem?_getD, List.getD_eq_getElem?_getD, List.getElem?_eq_getElem h1, List.getElem?_eq_getElem h3] at this
    exact (List.getElem?_inj h1 hn).1 (by rw [List.getElem?_eq_getElem h1, List.getElem?_eq_getElem h3]; simpa using this)
  · show i < H.length
    rw [hl]
    exact hi.1
end
theorem tidy_sound {C : Cfg} (hC : CfgOk C) {X : Cx} {w : World} {a : Act} {s : St} (S : StOk C X w a s) (B : Nat) (lv : List Nat) : ∃ X', StOk C X' w a (tidy B lv s) ∧ Later (X.below B) w (X'.below B) w := by
  obtain ⟨O, hX, ha⟩ := S
  cases hlv : lv.contains 1000000 with
  | true =>
    have e : tidy B lv s = { tm := clear lv 0 s.tm, hp := s.hp } := by
      show (bif lv.contains 1000000 then ({ tm := clear lv 0 s.tm, hp := s.hp } : St) else _) = _
      rw [hlv]
      rfl
    rw [e]
    exact ⟨X, ⟨O, hX, clear_rep lv _ 0 _ ha⟩, .refl _ _⟩
  | false =>
  obtain ⟨m, hm1, hm2⟩ := tidy_list B s.hp (refsL (clear lv 0 s.tm))
  have e : tidy B lv s = { tm := renames (List.range B ++ m) (clear lv 0 s.tm), hp := (List.range B ++ m).map fun i => renEnt (List.range B ++ m) (look s.hp i) } := by
    show (bif lv.contains 1000000 then (_ : St) else ({ tm := renames (grow s.hp (addNew (List.range B) (refsL (clear lv 0 s.tm))) 4) (clear lv 0 s.tm), hp := (grow s.hp (addNew (List.range B) (refsL (clear lv 0 s.tm))) 4).map fun i => renEnt (grow s.hp (addNew (List.range B) (refsL (clear lv 0 s.tm))) 4) (look s.hp i) } : St)) = _
    rw [hlv, hm1]
    rfl
  rw [e]
  rw [← hX]
  generalize hl : List.range B ++ m = l at *
  have hH : SubOf X l (l.map fun i => renEnt l (look X.H i)) := sub_look
  have hlt : ∀ id, id < B → id < l.length ∧ l.getD id 0 = id := fun id hid => by
    rw [← hl]
    refine ⟨by simp; omega, ?_⟩
    rw [List.getD_eq_getElem?_getD, List.getElem?_append_left (by simpa using hid), List.getElem?_range hid]
    rfl
  refine ⟨X.sub l (l.map fun i => renEnt l (look X.H i)), ⟨sub_ok hC O hm2 (by simp) hH, rfl, renames_rep hH _ _ (clear_rep lv _ 0 _ ha)⟩, ?_⟩
  refine ⟨fun id hid => ?_, fun id hid => ?_, fun id hid hal => ?_, Nat.le_refl _, rfl, rfl, rfl, fun _ _ => rfl, fun b ⟨i, hi, hb⟩ => .inl ⟨_, (sub_alive hH hi).2.1, hb⟩, fun _ => Iff.rfl⟩
  · show X.ι (l.getD id 0) = X.ι id
    rw [(hlt id hid.2).2]
  · refine ⟨⟨(hlt id hid.2).1, ?_⟩, hid.2⟩
    rw [(hlt id hid.2).2]
    exact hid.1
  · obtain ⟨h1, h2, h3⟩ := sub_alive hH hal
    rw [(hlt id hid.2).2] at h2 h3
    refine ⟨h2, ?_, rfl⟩
    show (look (l.map fun i => renEnt l (look X.H i)) id).sz = (look X.H id).sz
    rw [h3, (renEnt_alive _).2]

end Go.Vi
