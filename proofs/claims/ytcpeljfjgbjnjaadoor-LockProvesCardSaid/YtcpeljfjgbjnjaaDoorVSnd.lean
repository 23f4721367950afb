/- The evaluator is sound: calls, regions in the order of their text. -/
import Derived.Test.YtcpeljfjgbjnjaaDoorVRun
namespace Go.Vi
open Go.RowKit

/-! ### contexts -/
theorem later_weak {X X' : Cx} {w : World} (hι : X'.ι = X.ι) (hH : X'.H = X.H) (hok : ∀ id, X.ok id → X'.ok id) (hph : ∀ b, X'.ph b ↔ X.ph b) : Later X w X' w := by
  have hal : ∀ id, X'.alive id → X.alive id := fun id h => by
    unfold Cx.alive at h ⊢
    rw [hH] at h
    exact h
  refine ⟨fun id _ => by rw [hι], hok, fun id _ h => ⟨hal id h, by rw [hH], rfl⟩, Nat.le_refl _, rfl, rfl, rfl, fun _ _ => rfl, fun b hb => ?_, hph⟩
  obtain ⟨id, ha, hb⟩ := hb
  rw [hι] at hb
  exact .inl ⟨id, hal id ha, hb⟩
theorem below_later (X : Cx) (B : Nat) (w : World) : Later (X.below B) w X w := later_weak rfl rfl (fun _ h => h.1) (fun _ => Iff.rfl)
theorem later_below {X : Cx} {B : Nat} (w : World) (h : OkLt X) (hB : X.H.length ≤ B) : Later X w (X.below B) w :=
  later_weak rfl rfl (fun id hi => ⟨hi, Nat.lt_of_lt_of_le (h id hi) hB⟩) (fun _ => Iff.rfl)
/-- what a call of the caller's own heap leaves, in the caller -/
theorem later_of_call {X X' : Cx} {w w' : World} (h : OkLt X) (L : Later (X.below X.H.length) w (X'.below X.H.length) w') : Later X w X' w' :=
  (later_below w h (Nat.le_refl _)).trans (L.trans (below_later X' _ w'))
theorem later_to_below {X X' : Cx} {w w' : World} (B : Nat) (L : Later X w X' w') : Later (X.below B) w (X'.below B) w' :=
  ⟨fun id h => L.ι id h.1, fun id h => ⟨L.ok id h.1, h.2⟩, fun id h ha => L.al id h.1 ha, L.size, L.os, L.tape, L.output, fun b h => L.same b h, fun b h => L.new b h, L.ph⟩
theorem RepL.later' {X X' : Cx} {w w' : World} (L : Later X w X' w') {l : List V} {vs : List Value} (h : RepL X w l (.vals vs)) : RepL X' w' l (.vals vs) := RepL.later L l _ (fun b o e => by cases e) h
theorem Rep.later' {X X' : Cx} {w w' : World} (L : Later X w X' w') {x : V} {v : Value} (h : Rep X w x (.val v)) : Rep X' w' x (.val v) := Rep.later L x _ (fun b o e => by cases e) h

/-! ### data -/
theorem okD_plain {sz : Nat} {x : V} (h : V.plain sz x = true) : okD x = true := by
  simp only [V.plain, Bool.and_eq_true] at h
  cases x with
  | agg l => exact h.2
  | _ =>
    have := h.2
    simp only [V.cells, V.leafAll, Bool.and_true] at this
    exact this
theorem okD_leaf {x : V} (h : x.leaf = true) : okD x = true := by
  cases x <;> first | exact h | cases h
mutual
theorem data_rep {X X' : Cx} {w : World} (hs : ∀ b, Stable X w b → Stable X' w b) : ∀ (x : V) (m : M1), okD x = true → Rep X w x m → Rep X' w x m
  | .int _ _, _, _, h => by unfold Rep at h ⊢; exact h
  | .bool _, _, _, h => by unfold Rep at h ⊢; exact h
  | .str _, _, _, h => by unfold Rep at h ⊢; exact h
  | .nilptr, _, _, h => by unfold Rep at h ⊢; exact h
  | .nilfn, _, _, h => by unfold Rep at h ⊢; exact h
  | .undef, _, _, h => by unfold Rep at h ⊢; exact h
  | .fn f [], _, _, h => by
    unfold Rep at h ⊢
    refine holds_later (fun _ _ _ => rfl) ?_ h
    rintro v ⟨cs, rfl, hc⟩
    unfold RepL at hc
    exact ⟨cs, rfl, by unfold RepL; exact hc⟩
  | .fn f (_ :: _), _, ho, _ => by cases ho
  | .agg l, .val v, ho, h => by
    unfold Rep at h ⊢
    obtain ⟨vs, rfl, hl⟩ := h
    exact ⟨vs, rfl, data_repL hs l _ (fun x hx => okD_leaf (leafAll_mem ho x hx)) hl⟩
  | .agg l, .at_ b o, ho, h => by
    unfold Rep at h ⊢
    exact data_repL hs l _ (fun x hx => okD_leaf (leafAll_mem ho x hx)) h
  | .tup _, _, ho, _ => by cases ho
  | .cref _, _, ho, _ => by cases ho
  | .ref _ _, _, ho, _ => by cases ho
  | .own _ _ _ _, _, ho, _ => by cases ho
  | .sl sz l clip nl, _, _, h => by
    unfold Rep at h ⊢
    refine holds_later (fun _ _ _ => rfl) ?_ h
    intro v hv
    cases nl with
    | true => exact hv
    | false =>
      obtain ⟨a, cap, rfl, h1, h2, h3, h4⟩ := hv
      refine ⟨a, cap, rfl, h1, h2, h3, ?_⟩
      rcases h4 with h4 | ⟨k1, k2, k3⟩
      · exact .inl h4
      · exact .inr ⟨k1, hs _ k2, data_repL hs l _ (fun x hx => okD_plain (h3 x hx)) k3⟩
theorem data_repL {X X' : Cx} {w : World} (hs : ∀ b, Stable X w b → Stable X' w b) : ∀ (l : List V) (m : ML), (∀ x, x ∈ l → okD x = true) → RepL X w l m → RepL X' w l m
  | [], .vals _, _, h => by unfold RepL at h ⊢; exact h
  | [], .at_ _ _, _, _ => by unfold RepL; trivial
  | x :: xs, .vals vs, ho, h => by
    unfold RepL at h ⊢
    obtain ⟨v, vs', rfl, hx, hxs⟩ := h
    exact ⟨v, vs', rfl, data_rep hs x _ (ho x List.mem_cons_self) hx, data_repL hs xs _ (fun y hy => ho y (List.mem_cons_of_mem _ hy)) hxs⟩
  | x :: xs, .at_ b o, ho, h => by
    unfold RepL at h ⊢
    exact ⟨data_rep hs x _ (ho x List.mem_cons_self) h.1, data_repL hs xs _ (fun y hy => ho y (List.mem_cons_of_mem _ hy)) h.2⟩
end
/-- values without slices: in any context -/
theorem scal_rep {X X' : Cx} {w : World} {x : V} {v : Value} (ho : okD x = true) (hn : slicey x = false) (h : Rep X w x (.val v)) : Rep X' w x (.val v) := by
  have leaf : ∀ (y : V) (u : Value), y.leaf = true → slicey y = false → Rep X w y (.val u) → Rep X' w y (.val u) := by
    intro y u h1 h2 h3
    cases y with
    | sl sz l c n => cases h2
    | fn f caps =>
      cases caps with
      | cons _ _ => cases h1
      | nil =>
        unfold Rep holds at h3 ⊢
        obtain ⟨cs, rfl, hc⟩ := h3
        unfold RepL at hc
        exact ⟨cs, rfl, by unfold RepL; exact hc⟩
    | int _ _ => unfold Rep at h3 ⊢; exact h3
    | bool _ => unfold Rep at h3 ⊢; exact h3
    | str _ => unfold Rep at h3 ⊢; exact h3
    | nilptr => unfold Rep at h3 ⊢; exact h3
    | nilfn => unfold Rep at h3 ⊢; exact h3
    | _ => cases h1
  have row : ∀ (l : List V) (us : List Value), V.leafAll l = true → sliceyL l = false → RepL X w l (.vals us) → RepL X' w l (.vals us) := by
    intro l
    induction l with
    | nil => intro us _ _ h; unfold RepL at h ⊢; exact h
    | cons y l ih =>
      intro us h1 h2 h3
      simp only [V.leafAll, Bool.and_eq_true] at h1
      simp only [sliceyL, Bool.or_eq_false_iff] at h2
      unfold RepL at h3 ⊢
      obtain ⟨u, us', rfl, hu, hus⟩ := h3
      exact ⟨u, us', rfl, leaf y u h1.1 h2.1 hu, ih us' h1.2 h2.2 hus⟩
  cases x with
  | agg l =>
    unfold Rep at h ⊢
    obtain ⟨vs, rfl, hl⟩ := h
    exact ⟨vs, rfl, row l _ ho hn hl⟩
  | _ => exact leaf _ v ho hn h
theorem okDs_mem : ∀ {l : List V}, okDs l = true → ∀ x, x ∈ l → okD x = true
  | [], _, x, hx => by cases hx
  | y :: ys, h, x, hx => by
    simp only [okDs, Bool.and_eq_true] at h
    rcases List.mem_cons.1 hx with rfl | hx
    · exact h.1
    · exact okDs_mem h.2 x hx
/-- the results of a call, in the caller's context -/
theorem pack_rep {X X' : Cx} {w : World} {rs : List V} {v : Value} (ho : okDs rs = true) (hs : sliceyL rs = true → ∀ b, Stable X w b → Stable X' w b) (h : Rep X w (pack rs) (.val v)) : Rep X' w (pack rs) (.val v) := by
  have one : ∀ x u, okD x = true → (slicey x = true → sliceyL rs = true) → Rep X w x (.val u) → Rep X' w x (.val u) := fun x u h1 h2 h3 => by
    cases hx : slicey x with
    | false => exact scal_rep h1 hx h3
    | true => exact data_rep (hs (h2 hx)) x _ h1 h3
  have row : ∀ (l : List V) (us : List Value), (∀ x, x ∈ l → okD x = true) → (sliceyL l = true → sliceyL rs = true) → RepL X w l (.vals us) → RepL X' w l (.vals us) := by
    intro l
    induction l with
    | nil => intro us _ _ h; unfold RepL at h ⊢; exact h
    | cons y l ih =>
      intro us h1 h2 h3
      unfold RepL at h3 ⊢
      obtain ⟨u, us', rfl, hu, hus⟩ := h3
      exact ⟨u, us', rfl, one y u (h1 y List.mem_cons_self) (fun h => h2 (by simp [sliceyL, h])) hu, ih us' (fun z hz => h1 z (List.mem_cons_of_mem _ hz)) (fun h => h2 (by simp [sliceyL, h])) hus⟩
  have tup : Rep X w (.tup rs) (.val v) → Rep X' w (.tup rs) (.val v) := fun h => by
    unfold Rep at h ⊢
    obtain ⟨vs, rfl, hl⟩ := h
    exact ⟨vs, rfl, row rs _ (okDs_mem ho) (fun h => h) hl⟩
  match rs, ho, one, tup, h with
  | [], _, _, tup, h => exact tup h
  | [x], ho, one, _, h => exact one x v (by simpa [okDs] using ho) (fun h => by simp [sliceyL, h]) h
  | _ :: _ :: _, _, _, tup, h => exact tup h

/-! ### arguments -/
mutual
theorem view_rep {X X' : Cx} {w : World} (E : Ents X w) (hs : ∀ b, Stable X w b → Stable X' w b) : ∀ (x : V) (r : Vw) (v : Value), (∀ id, id ∈ ids x → X.alive id → Stable X' w (X.ι id)) → view X.H x = some r → r.req = true → Rep X w x (.val v) → Rep X' w r.v (.val v)
  | .own id lo len clip, r, v, hi, h, hr, hx => by
    simp only [view] at h
    cases ho : ownElems X.H id lo len with
    | none => rw [ho] at h; cases h
    | some p =>
      obtain ⟨sz, xs, q⟩ := p
      rw [ho] at h
      simp only [Option.some.injEq] at h
      subst h
      obtain ⟨k1, k2, k3, k4, k5⟩ := own_row E ho hr
      obtain ⟨A, cap, rfl, hA, c1, c2, c3⟩ := rep_own_val k1 hx
      have hst := hi id (by simp [ids]) k1
      show Rep X' w (.sl sz xs clip false) _
      unfold Rep holds
      refine ⟨A, cap, by rw [k3], by omega, fun hc => by rw [c2 hc, k3], k4, ?_⟩
      rcases hA with hA | rfl
      · left
        apply List.eq_nil_of_length_eq_zero
        omega
      · right
        rw [← k2]
        exact ⟨rfl, hst, data_repL hs xs _ (fun y hy => okD_plain (k4 y hy)) k5⟩
  | .agg l, r, v, hi, h, hr, hx => by
    simp only [view] at h
    cases hv : views X.H l with
    | none => rw [hv] at h; cases h
    | some p =>
      obtain ⟨us, q⟩ := p
      rw [hv] at h
      simp only [Option.some.injEq] at h
      subst h
      unfold Rep at hx
      obtain ⟨vs, rfl, hl⟩ := hx
      show Rep X' w (.agg us) _
      unfold Rep
      exact ⟨vs, rfl, views_rep E hs l us q _ (fun id hid => hi id (by simpa [ids] using hid)) hv hr hl⟩
  | .sl sz l c n, r, v, _, h, _, hx => by
    simp only [view, Option.some.injEq] at h
    subst h
    exact data_rep hs _ _ rfl hx
  | .int k n, r, v, _, h, _, hx => by
    simp only [view, Option.some.injEq] at h
    subst h
    exact data_rep hs _ _ rfl hx
  | .bool b, r, v, _, h, _, hx => by
    simp only [view, Option.some.injEq] at h
    subst h
    exact data_rep hs _ _ rfl hx
  | .str s, r, v, _, h, _, hx => by
    simp only [view, Option.some.injEq] at h
    subst h
    exact data_rep hs _ _ rfl hx
  | .nilptr, r, v, _, h, _, hx => by
    simp only [view, Option.some.injEq] at h
    subst h
    exact data_rep hs _ _ rfl hx
  | .nilfn, r, v, _, h, _, hx => by
    simp only [view, Option.some.injEq] at h
    subst h
    exact data_rep hs _ _ rfl hx
  | .fn f [], r, v, _, h, _, hx => by
    simp only [view, Option.some.injEq] at h
    subst h
    exact data_rep hs _ _ rfl hx
  | .fn f (_ :: _), r, v, _, h, _, _ => by simp [view] at h
  | .tup _, r, v, _, h, _, _ => by simp [view] at h
  | .ref _ _, r, v, _, h, _, _ => by simp [view] at h
  | .cref _, r, v, _, h, _, _ => by simp [view] at h
  | .undef, r, v, _, h, _, _ => by simp [view] at h
theorem views_rep {X X' : Cx} {w : World} (E : Ents X w) (hs : ∀ b, Stable X w b → Stable X' w b) : ∀ (l us : List V) (q : Bool) (vs : List Value), (∀ id, id ∈ idsL l → X.alive id → Stable X' w (X.ι id)) → views X.H l = some (us, q) → q = true → RepL X w l (.vals vs) → RepL X' w us (.vals vs)
  | [], us, q, vs, _, h, _, hx => by
    simp only [views, Option.some.injEq, Prod.mk.injEq] at h
    obtain ⟨rfl, rfl⟩ := h
    unfold RepL at hx ⊢
    exact hx
  | x :: xs, us, q, vs, hi, h, hq, hx => by
    simp only [views] at h
    cases h1 : view X.H x with
    | none => rw [h1] at h; cases h
    | some r =>
      cases h2 : views X.H xs with
      | none => rw [h1, h2] at h; cases h
      | some p =>
        obtain ⟨us', q'⟩ := p
        rw [h1, h2] at h
        simp only [Option.some.injEq, Prod.mk.injEq] at h
        obtain ⟨rfl, rfl⟩ := h
        rw [Bool.and_eq_true] at hq
        unfold RepL at hx ⊢
        obtain ⟨v, vs', rfl, hv, hvs⟩ := hx
        exact ⟨v, vs', rfl, view_rep E hs x r v (fun id hid => hi id (by simp only [idsL, List.mem_append]; exact .inl hid)) h1 hq.1 hv,
          views_rep E hs xs us' q' vs' (fun id hid => hi id (by simp only [idsL, List.mem_append]; exact .inr hid)) h2 hq.2 hvs⟩
end

theorem Globs.data {C : Cfg} {X X' : Cx} {w : World} (hs : ∀ b, Stable X w b → Stable X' w b) (hl : ∀ g l, C.glob g = some l → ∀ x, x ∈ l → okD x = true) (h : Globs C X w) : Globs C X' w := by
  intro g l hg
  obtain ⟨h1, h2, h3⟩ := h g l hg
  exact ⟨hs g h1, h2, data_repL hs l _ (hl g l hg) h3⟩

/-- What is asked of the tables. -/
structure CfgOk (C : Cfg) : Prop where
  tab : TabOk C.P C.ty
  glob : ∀ g l, C.glob g = some l → ∀ x, x ∈ l → okD x = true
  num : ∀ (f : FuncId) fn, C.P.funcs[f]? = some fn → (fn.name == "runtime.NumGoroutine") = false

theorem dlook_kills {H : List Ent} {ks : List Nat} {id : Nat} : (id ∈ ks → dlook H id (ks.map fun i => (i, Ent.dead)) = .dead) ∧ (id ∉ ks → dlook H id (ks.map fun i => (i, Ent.dead)) = look H id) := by
  induction ks with
  | nil => exact ⟨fun h => (by cases h), fun _ => rfl⟩
  | cons k ks ih =>
    refine ⟨fun h => ?_, fun h => ?_⟩
    · simp only [List.map_cons, dlook]
      by_cases e : id = k
      · rw [if_pos e]
      · rw [if_neg e]
        exact ih.1 ((List.mem_cons.1 h).resolve_left e)
    · simp only [List.map_cons, dlook]
      rw [if_neg (fun e => h (by rw [e]; exact List.mem_cons_self))]
      exact ih.2 (fun h' => h (List.mem_cons_of_mem _ h'))
/-- A call by the contract of data. -/
theorem pcall_post {C : Cfg} (hC : CfgOk C) {X : Cx} {w : World} (O : Ok C X w) {f : FuncId} {args vs rs : List V} {us : List Value} {q : Bool} (slot : Nat) (hv : views X.H args = some (vs, q)) (hq : q = true) (ho : okDs rs = true)
    (ha : RepL X w args (.vals us)) (h : PCalls C f vs rs) :
    Invokes C.P f us.toArray w fun v w' => OpPost X w slot { v := pack rs, dl := if sliceyL rs then kills X.H args else [] } v w' := by
  obtain ⟨E, hlt, hG⟩ := O
  let S : Nat → Prop := fun b => (X.own b ∨ X.ph b) ∧ ∀ id, id ∈ idsL args → X.alive id → X.ι id ≠ b
  have hS : ∀ b, S b → b < w.heap.size := fun b hb => by
    rcases hb.1 with h | h
    · exact E.own_lt h
    · exact E.phlt b h
  have hnone : ∀ (w : World) b, ¬ (X0 S).own b := fun _ b ⟨id, ha, _⟩ => by
    unfold Cx.alive at ha
    simp [X0, look, Ent.alive] at ha
  have hst : ∀ b, Stable X w b → Stable (X0 S) w b := fun b hb => ⟨⟨hb.1.1, hnone w b⟩, fun hs => by
    rcases hs.1 with h | h
    · exact hb.1.2 h
    · exact hb.2 h⟩
  have hown : ∀ id, id ∈ idsL args → X.alive id → Stable (X0 S) w (X.ι id) := fun id hid hal => ⟨⟨E.lt hal, hnone w _⟩, fun hs => hs.2 id hid hal rfl⟩
  have h1 := views_rep E hst args vs q us hown hv hq ha
  have h2 := h S w us hS (hG.data hst hC.glob) h1
  have mono : ∀ v w', (Below w.heap.size w w' ∧ Rep (X0 S) w' (pack rs) (.val v)) → OpPost X w slot { v := pack rs, dl := if sliceyL rs then kills X.H args else [] } v w' := by
    rintro v w' ⟨hb, hr⟩
    obtain ⟨L, E'⟩ := grow_later E hb
    cases hsl : sliceyL rs with
    | false => exact OpPost.lift rfl L E' (fun _ h => .inl h) (pack_rep ho (fun h => by rw [hsl] at h; cases h) hr) (fun H' hH id => hH id)
    | true =>
      intro H' hH hlen
      have hH : ∀ id, look H' id = dlook X.H id (kills X.H args) := fun id => by
        have := hH id
        simpa [hsl] using this
      have hdead : ∀ id, id ∈ idsL args → look H' id = .dead := fun id hid => by
        rw [hH id]
        unfold kills
        by_cases hk : id ∈ (idsL args).filter fun i => (look X.H i).alive
        · exact dlook_kills.1 hk
        · rw [dlook_kills.2 hk]
          have : ¬ (look X.H id).alive = true := fun ha => hk (List.mem_filter.2 ⟨hid, ha⟩)
          cases e : look X.H id with
          | dead => rfl
          | box l bt => rw [e] at this; exact (this rfl).elim
          | arr a b c => rw [e] at this; exact (this rfl).elim
      have hsame : ∀ id, (look H' id).alive = true → id ∉ idsL args ∧ look H' id = look X.H id := fun id ha => by
        have h1 : id ∉ idsL args := fun h => by rw [hdead id h] at ha; cases ha
        refine ⟨h1, ?_⟩
        rw [hH id]
        exact dlook_kills.2 (fun h => h1 (List.mem_filter.1 h).1)
      have hal : ∀ id, (X.with H').alive id → X.alive id := fun id ha => by
        have := hsame id ha
        unfold Cx.alive at ha ⊢
        rw [← this.2]
        exact ha
      have K : Later X w' (X.with H') w' := ⟨fun _ _ => rfl, fun _ h => h, fun id _ ha => ⟨hal id ha, congrArg Ent.sz (hsame id ha).2, rfl⟩, Nat.le_refl _, rfl, rfl, rfl, fun _ _ => rfl, fun b ⟨id, ha, hb⟩ => .inl ⟨id, hal id ha, hb⟩, fun _ => Iff.rfl⟩
      refine ⟨X.with H', rfl, L.trans K, ⟨fun id => ?_, fun id ha => E'.ok id (hal id ha), fun i j hi hj => E'.inj i j (hal i hi) (hal j hj), E'.phlt, fun id ha => E'.nph id (hal id ha)⟩, pack_rep ho (fun _ b hb => ⟨⟨hb.1.1, fun ⟨id, ha, hb'⟩ => ?_⟩, fun hp => ?_⟩) hr, fun ho id hid => ?_, fun _ id hid => .inl hid⟩
      · by_cases ha : (look H' id).alive = true
        · show EntOk _ w' (X.ι id) (look H' id)
          rw [(hsame id ha).2]
          exact (E'.en id).later K rfl
        · show EntOk _ w' (X.ι id) (look H' id)
          cases e : look H' id with
          | dead => trivial
          | box l bt => rw [e] at ha; exact (ha rfl).elim
          | arr a b c => rw [e] at ha; exact (ha rfl).elim
      · refine hb.2 ⟨.inl ⟨id, hal id ha, hb'⟩, fun id' hid' ha' he => ?_⟩
        have := E.inj id' id ha' (hal id ha) (he.trans hb'.symm)
        subst this
        exact (hsame _ ha).1 hid'
      · exact hb.2 ⟨.inr hp, fun id' _ ha' he => E.nph id' ha' (by rw [he]; exact hp)⟩
      · have := (hlen rfl).1
        have := ho id hid
        show id < H'.length
        omega
  unfold Invokes at h2 ⊢
  split at h2
  · exact mono _ _ h2
  · refine Calls.mono h2 ?_
    rintro e w'' ⟨v, rfl, hR⟩
    exact ⟨v, rfl, mono _ _ hR⟩
  · exact h2.elim

end Go.Vi
