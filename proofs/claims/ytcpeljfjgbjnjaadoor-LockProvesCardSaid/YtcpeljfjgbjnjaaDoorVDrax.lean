/- Regions whose order is drawn: every order. -/
import Derived.Test.YtcpeljfjgbjnjaaDoorVDraw
namespace Go.Vi
open Go.RowKit

/-! ### what must come before -/
def ancF (o : Oper) (l : List (List Nat)) : List Nat := o.after.toList.foldr (fun e s => if Region.binds .any e then e.on :: (l.getD e.on [] ++ s) else s) []
theorem ancs_spec : ∀ (rest : List Oper) (l : List (List Nat)), ∃ m, ancs rest l = l ++ m ∧ m.length = rest.length ∧ ∀ (k : Nat) (o : Oper), rest[k]? = some o → m[k]? = some (ancF o (l ++ m.take k))
  | [], l => ⟨[], by simp [ancs], rfl, fun k o h => by simp at h⟩
  | o :: rest, l => by
    obtain ⟨m, h1, h2, h3⟩ := ancs_spec rest (l ++ [ancF o l])
    refine ⟨ancF o l :: m, ?_, by simp [h2], fun k o' hk => ?_⟩
    · show ancs rest (l ++ [ancF o l]) = _
      rw [h1]
      simp
    · cases k with
      | zero =>
        simp only [List.getElem?_cons_zero, Option.some.injEq] at hk
        subst hk
        simp
      | succ k =>
        have := h3 k o' (by simpa using hk)
        simpa using this
theorem anc_at {ops : Array Oper} {j : Nat} {o : Oper} (h : ops[j]? = some o) : (ancOf ops).getD j [] = ancF o ((ancOf ops).take j) ∧ (ancOf ops).length = ops.size := by
  obtain ⟨m, h1, h2, h3⟩ := ancs_spec ops.toList []
  simp only [List.nil_append] at h1 h3
  have e : ancOf ops = m := h1
  rw [e]
  refine ⟨?_, by rw [h2]; simp⟩
  rw [List.getD_eq_getElem?_getD, h3 j o (by simpa using h)]
  rfl
theorem mem_fold {l : List (List Nat)} {k : Nat} : ∀ {es : List Edge}, k ∈ es.foldr (fun e s => if Region.binds .any e then e.on :: (l.getD e.on [] ++ s) else s) [] ↔ ∃ e, e ∈ es ∧ Region.binds .any e = true ∧ (k = e.on ∨ k ∈ l.getD e.on [])
  | [] => by simp
  | e :: es => by
    have ih := mem_fold (l := l) (k := k) (es := es)
    simp only [List.foldr_cons]
    by_cases hb : Region.binds .any e = true
    · rw [if_pos hb]
      simp only [List.mem_cons, List.mem_append, ih]
      constructor
      · rintro (h | h | ⟨e', h1, h2⟩)
        · exact ⟨e, .inl rfl, hb, .inl h⟩
        · exact ⟨e, .inl rfl, hb, .inr h⟩
        · exact ⟨e', .inr h1, h2⟩
      · rintro ⟨e', h1 | h1, h2, h3⟩
        · subst h1
          rcases h3 with h3 | h3
          · exact .inl h3
          · exact .inr (.inl h3)
        · exact .inr (.inr ⟨e', h1, h2, h3⟩)
    · rw [if_neg hb, ih]
      constructor
      · rintro ⟨e', h1, h2⟩
        exact ⟨e', List.mem_cons_of_mem _ h1, h2⟩
      · rintro ⟨e', h1, h2, h3⟩
        rcases List.mem_cons.1 h1 with rfl | h1
        · exact (hb h2).elim
        · exact ⟨e', h1, h2, h3⟩
/-- What the check of a region says. -/
structure Drawn (ops : Array Oper) : Prop where
  sel : ∀ (j : Nat) (o : Oper), ops[j]? = some o → isSel o.op = false
  up : ∀ (j : Nat) (o : Oper), ops[j]? = some o → ∀ e, e ∈ o.after → Region.binds .any e = true → e.on < j
  pair : ∀ (j k : Nat) (x y : Oper), ops[j]? = some x → ops[k]? = some y → j ≠ k → comparable (ancOf ops) j k = true ∨ Oper.apart ops x y = true
theorem drawn_of {ops : Array Oper} (h : drawOk ops = true) : Drawn ops := by
  unfold drawOk at h
  simp only [List.all_eq_true, List.mem_range, Bool.and_eq_true] at h
  have lt : ∀ (j : Nat) (o : Oper), ops[j]? = some o → j < ops.size := fun j o ho => (Array.getElem?_eq_some_iff.1 ho).1
  refine ⟨fun j o ho => ?_, fun j o ho e he hb => ?_, fun j k x y hj hk hne => ?_⟩
  · have := (h j (lt j o ho)).1
    rw [ho] at this
    simp only [Bool.and_eq_true, Bool.not_eq_true'] at this
    exact this.1
  · have := (h j (lt j o ho)).1
    rw [ho] at this
    simp only [Bool.and_eq_true] at this
    have := Array.all_eq_true_iff_forall_mem.1 this.2 e he
    simp only [hb, Bool.not_true, Bool.false_or, decide_eq_true_eq] at this
    exact this
  · have := (h j (lt j x hj)).2 k (lt k y hk)
    unfold pairOk at this
    rw [hj, hk] at this
    simp only [Bool.or_eq_true, beq_iff_eq] at this
    rcases this with (h | h) | h
    · exact (hne h).elim
    · exact .inl h
    · exact .inr h
section
variable {ops : Array Oper} (R : Drawn ops)
include R
theorem anc_mem {j k : Nat} {o : Oper} (ho : ops[j]? = some o) : k ∈ (ancOf ops).getD j [] ↔ ∃ e, e ∈ o.after ∧ Region.binds .any e = true ∧ (k = e.on ∨ k ∈ (ancOf ops).getD e.on []) := by
  obtain ⟨h1, h2⟩ := anc_at ho
  rw [h1]
  unfold ancF
  rw [mem_fold]
  have hj : j < ops.size := (Array.getElem?_eq_some_iff.1 ho).1
  have e1 : ∀ e : Edge, e ∈ o.after → Region.binds .any e = true → ((ancOf ops).take j).getD e.on [] = (ancOf ops).getD e.on [] := fun e he hb => by
    have := R.up j o ho e he hb
    rw [List.getD_eq_getElem?_getD, List.getD_eq_getElem?_getD, List.getElem?_take_of_lt this]
  constructor
  · rintro ⟨e, h3, h4, h5⟩
    have h3 : e ∈ o.after := by simpa using h3
    rw [e1 e h3 h4] at h5
    exact ⟨e, h3, h4, h5⟩
  · rintro ⟨e, h3, h4, h5⟩
    rw [← e1 e h3 h4] at h5
    exact ⟨e, by simpa using h3, h4, h5⟩
theorem anc_lt : ∀ (j k : Nat) (o : Oper), ops[j]? = some o → k ∈ (ancOf ops).getD j [] → k < j := by
  intro j
  induction j using Nat.strongRecOn with
  | _ j ih =>
    intro k o ho hk
    obtain ⟨e, h1, h2, h3⟩ := (anc_mem R ho).1 hk
    have hlt := R.up j o ho e h1 h2
    rcases h3 with rfl | h3
    · exact hlt
    · have hj : j < ops.size := (Array.getElem?_eq_some_iff.1 ho).1
      have := ih e.on hlt k _ (Array.getElem?_eq_getElem (by omega)) h3
      omega
/-- listed operations: what must come before is listed -/
def Closed (ops : Array Oper) (D : Nat → Bool) : Prop := ∀ (j : Nat) (o : Oper), ops[j]? = some o → D j = true → ∀ e, e ∈ o.after → Region.binds .any e = true → D e.on = true
theorem closed_anc {D : Nat → Bool} (hc : Closed ops D) : ∀ (j k : Nat) (o : Oper), ops[j]? = some o → D j = true → k ∈ (ancOf ops).getD j [] → D k = true := by
  intro j
  induction j using Nat.strongRecOn with
  | _ j ih =>
    intro k o ho hD hk
    obtain ⟨e, h1, h2, h3⟩ := (anc_mem R ho).1 hk
    have hlt := R.up j o ho e h1 h2
    have hDe := hc j o ho hD e h1 h2
    rcases h3 with rfl | h3
    · exact hDe
    · have hj : j < ops.size := (Array.getElem?_eq_some_iff.1 ho).1
      exact ih e.on hlt k _ (Array.getElem?_eq_getElem (by omega)) hDe h3
theorem ready_anc {D : Nat → Bool} (hc : Closed ops D) {j : Nat} {o : Oper} (ho : ops[j]? = some o) (hr : ∀ e, e ∈ o.after → Region.binds .any e = true → D e.on = true) {k : Nat} (hk : k ∈ (ancOf ops).getD j []) : D k = true := by
  obtain ⟨e, h1, h2, h3⟩ := (anc_mem R ho).1 hk
  have hDe := hr e h1 h2
  rcases h3 with rfl | h3
  · exact hDe
  · have hlt := R.up j o ho e h1 h2
    have hj : j < ops.size := (Array.getElem?_eq_some_iff.1 ho).1
    exact closed_anc R hc e.on k _ (Array.getElem?_eq_getElem (by omega)) hDe h3
theorem comp_D {D : Nat → Bool} (hc : Closed ops D) {j k : Nat} {o o' : Oper} (ho : ops[j]? = some o) (ho' : ops[k]? = some o') (hj : D j = false) (hr : ∀ e, e ∈ o.after → Region.binds .any e = true → D e.on = true) (h : comparable (ancOf ops) j k = true) : D k = decide (k < j) := by
  unfold comparable at h
  simp only [Bool.or_eq_true, List.contains_iff_mem] at h
  rcases h with h | h
  · rw [ready_anc R hc ho hr h]
    have := anc_lt R j k o ho h
    simp [this]
  · have hlt := anc_lt R k j o' ho' h
    cases hk : D k with
    | false => symm; simp; omega
    | true =>
      have := closed_anc R hc k j o' ho' hk h
      rw [hj] at this
      cases this
end

theorem tmF_false : ∀ (l : List Te) (i : Nat) (tm : List V) (D : Nat → Bool), (∀ k, i ≤ k → D k = false) → tmF D l i tm = tm
  | [], _, _, _, _ => rfl
  | e :: l, i, tm, D, h => by
    rw [tmF, h i (Nat.le_refl i)]
    simp only [Bool.false_eq_true, if_false]
    exact tmF_false l (i + 1) tm D fun k hk => h k (by omega)
theorem hpF_false : ∀ (l : List Te) (i : Nat) (h : HF) (D : Nat → Bool), (∀ k, i ≤ k → D k = false) → hpF D l i h = h
  | [], _, _, _, _ => rfl
  | e :: l, i, h, D, hh => by
    rw [hpF, hh i (Nat.le_refl i)]
    simp only [Bool.false_eq_true, if_false]
    exact hpF_false l (i + 1) h D fun k hk => hh k (by omega)
theorem tm_take (L : List Te) (j : Nat) (hj : j ≤ L.length) (tm : List V) : tmF (fun _ => true) (L.take j) 0 tm = tmF (fun k => decide (k < j)) L 0 tm := by
  conv => rhs; rw [← List.take_append_drop j L, tmF_app]
  have hl : (L.take j).length = j := by rw [List.length_take]; omega
  rw [hl, tmF_false (L.drop j) _ _ _ (fun k hk => by simp; omega)]
  exact tmF_congr _ _ _ fun k _ h2 => by rw [hl] at h2; simp; omega
theorem hp_take (L : List Te) (j : Nat) (hj : j ≤ L.length) (h : HF) : hpF (fun _ => true) (L.take j) 0 h = hpF (fun k => decide (k < j)) L 0 h := by
  conv => rhs; rw [← List.take_append_drop j L, hpF_app]
  have hl : (L.take j).length = j := by rw [List.length_take]; omega
  rw [hl, hpF_false (L.drop j) _ _ _ (fun k hk => by simp; omega)]
  exact hpF_congr _ _ _ fun k _ h2 => by rw [hl] at h2; simp; omega
theorem ins_split {D D' : Nat → Bool} {j : Nat} (hD : D j = false) (hD' : ∀ k, D' k = if k = j then true else D k) (L : List Te) (e : Te) (he : L[j]? = some e) (tm : List V) (h : HF)
    (h1 : ∀ (k : Nat) (f : Te), L[k]? = some f → j < k → D k = true → ∀ t, e.dst = some t → f.dst ≠ some t)
    (h2 : ∀ (k : Nat) (f : Te), L[k]? = some f → j < k → D k = true → ∀ id, id ∈ e.foot → id ∉ f.foot) :
    tmF D' L 0 tm = setT (tmF D L 0 tm) e.dst e.r.v ∧ hpF D' L 0 h = upd e (hpF D L 0 h) := by
  have hlt : j < L.length := (List.getElem?_eq_some_iff.1 he).1
  have hL : L = L.take j ++ (e :: L.drop (j + 1)) := by
    have : L[j] = e := (List.getElem?_eq_some_iff.1 he).2
    rw [← this, List.getElem_cons_drop, List.take_append_drop]
  have hl : (L.take j).length = j := by rw [List.length_take]; omega
  have hB : ∀ (k : Nat) (f : Te), (L.drop (j + 1))[k]? = some f → L[j + 1 + k]? = some f := fun k f hk => by rw [List.getElem?_drop] at hk; exact hk
  have c1 : ∀ x : List V, tmF D' (L.drop (j + 1)) (j + 1) x = tmF D (L.drop (j + 1)) (j + 1) x := fun x => tmF_congr _ _ _ fun k hk _ => by rw [hD' k, if_neg (by omega)]
  have c2 : ∀ x : HF, hpF D' (L.drop (j + 1)) (j + 1) x = hpF D (L.drop (j + 1)) (j + 1) x := fun x => hpF_congr _ _ _ fun k hk _ => by rw [hD' k, if_neg (by omega)]
  have a1 : tmF D' (L.take j) 0 tm = tmF D (L.take j) 0 tm := tmF_congr _ _ _ fun k _ hk => by rw [hl] at hk; rw [hD' k, if_neg (by omega)]
  have a2 : hpF D' (L.take j) 0 h = hpF D (L.take j) 0 h := hpF_congr _ _ _ fun k _ hk => by rw [hl] at hk; rw [hD' k, if_neg (by omega)]
  have hj' : D' j = true := by rw [hD' j, if_pos rfl]
  constructor
  · rw [hL, tmF_app, tmF_app, hl, Nat.zero_add, tmF, tmF, hj', hD, a1]
    simp only [if_true, Bool.false_eq_true, if_false]
    rw [c1, tmF_late]
    intro k f hk hDk t ht
    exact h1 (j + 1 + k) f (hB k f hk) (by omega) hDk t ht
  · rw [hL, hpF_app, hpF_app, hl, Nat.zero_add, hpF, hpF, hj', hD, a2]
    simp only [if_true, Bool.false_eq_true, if_false]
    rw [c2, hpF_late]
    intro k f hk hDk id hid
    exact h2 (j + 1 + k) f (hB k f hk) (by omega) hDk id hid

/-! ### counting -/
theorem count_lt {p p' : Nat → Bool} : ∀ (l : List Nat), (∀ x, x ∈ l → p' x = true → p x = true) → (∃ x, x ∈ l ∧ p x = true ∧ p' x = false) → (l.filter p').length < (l.filter p).length
  | [], _, h => by obtain ⟨x, hx, _⟩ := h; cases hx
  | y :: l, hle, h => by
    have hle' : ∀ (l : List Nat), (∀ x, x ∈ l → p' x = true → p x = true) → (l.filter p').length ≤ (l.filter p).length := by
      intro l
      induction l with
      | nil => intro _; exact Nat.le_refl _
      | cons z l ih =>
        intro h
        have ih := ih fun x hx => h x (List.mem_cons_of_mem _ hx)
        simp only [List.filter_cons]
        cases hz : p' z with
        | false => cases p z <;> simp <;> omega
        | true => rw [h z List.mem_cons_self hz]; simpa using ih
    obtain ⟨x, hx, h1, h2⟩ := h
    simp only [List.filter_cons]
    rcases List.mem_cons.1 hx with rfl | hx
    · rw [h1, h2]
      have := hle' l fun z hz => hle z (List.mem_cons_of_mem _ hz)
      simp; omega
    · have ih := count_lt l (fun z hz => hle z (List.mem_cons_of_mem _ hz)) ⟨x, hx, h1, h2⟩
      cases hz : p' y with
      | false => cases p y <;> simp <;> omega
      | true => rw [hle y List.mem_cons_self hz]; simpa using ih

/-! ### soundness -/
def listFn (N : Nat) (f : HF) : List Ent := (List.range N).map f
theorem look_listFn (N : Nat) (f : HF) (hf : ∀ id, N ≤ id → f id = .dead) : look (listFn N f) = f := by
  funext id
  unfold look listFn
  rw [List.getD_eq_getElem?_getD, List.getElem?_map]
  by_cases h : id < N
  · rw [List.getElem?_range h]; rfl
  · rw [List.getElem?_eq_none (by simp; omega), hf id (by omega)]; rfl
theorem look_dead {H : List Ent} {id : Nat} (h : H.length ≤ id) : look H id = .dead := by
  unfold look
  rw [List.getD_eq_getElem?_getD, List.getElem?_eq_none h]
  rfl
theorem want_congr {ops : Array Oper} {tm tm' : List V} {o : Oper} {ad : Ad} (h : ∀ g want t, o.guard = some (g, want) → (ops[g]?).bind (·.dst) = some t → tm'.getD t .undef = tm.getD t .undef) : wantV ops tm' o ad = wantV ops tm o ad := by
  unfold wantV
  cases hg : o.guard with
  | none => rfl
  | some jw =>
    obtain ⟨g, want⟩ := jw
    dsimp only
    cases ht : (ops[g]?).bind (·.dst) with
    | none => rfl
    | some t =>
      dsimp only
      rw [h g want t hg ht]
theorem opd_const {C : Cfg} (tm tm' : List V) (v : Value) : opd C tm (.const v) = opd C tm' (.const v) := by
  cases v <;> first | rfl | skip
  rename_i a l c
  cases a <;> cases l <;> cases c <;> rfl
theorem dlook_dlk (H : List Ent) (id : Nat) : ∀ (l : List (Nat × Ent)), dlook H id l = dlk (look H) id l
  | [] => rfl
  | (i, e) :: l => by rw [dlook, dlk, dlook_dlk H id l]
theorem append_slot {fl : Bool} {H : List Ent} {slot slot' size : Nat} {e : TypeId} {s x : V} {r : Res} (h : appendE fl H slot e size s x = some r) (hn : r.nw = none) : appendE fl H slot' e size s x = some r := by
  unfold appendE at h ⊢
  cases hs : srcE H x with
  | none => rw [hs] at h; cases h
  | some p =>
    rw [hs] at h
    dsimp only at h ⊢
    split at h
    · cases h
    · rename_i hz
      rw [if_neg hz]
      split at h
      · split at h
        · simp only [Option.some.injEq] at h
          subst h
          cases hn
        · rename_i hm
          rw [if_neg hm]
          exact h
      · split at h
        · split at h
          · simp only [Option.some.injEq] at h
            subst h
            cases hn
          · cases h
        · cases h
      · cases h
theorem conv_slot {T : Ty} {H : List Ent} {slot slot' : Nat} {s d : TypeId} {a : V} {r : Res} (h : convE T H slot s d a = some r) (hn : r.nw = none) : convE T H slot' s d a = some r := by
  unfold convE at h ⊢
  cases hs : T s with
  | none => rw [hs] at h; cases h
  | some i =>
    cases hd : T d with
    | none => rw [hs, hd] at h; cases h
    | some j =>
      rw [hs, hd] at h
      dsimp only at h ⊢
      split at h
      · exact h
      · rename_i e hdd
        cases he : T e with
        | none => rw [he] at h; cases h
        | some k =>
          rw [he] at h
          dsimp only at h ⊢
          split at h
          · split at h
            · simp only [Option.some.injEq] at h
              subst h
              cases hn
            · cases h
          · cases h
      · exact h
      · exact h
      · exact h
      · cases h
theorem makeSlice_slot {T : Ty} {slot slot' : Nat} {t : TypeId} {l c : V} {r : Res} (h : makeSliceE T slot t l c = some r) (hn : r.nw = none) : makeSliceE T slot' t l c = some r := by
  unfold makeSliceE at h
  cases hi : T t with
  | none => rw [hi] at h; cases h
  | some i =>
    cases h1 : idx l with
    | none => rw [hi, h1] at h; cases h
    | some p1 =>
      cases h2 : idx c with
      | none => rw [hi, h1, h2] at h; cases h
      | some p2 =>
        rw [hi, h1, h2] at h
        dsimp only at h
        cases hd : i.desc <;> rw [hd] at h <;> first | (cases h; done) | skip
        rename_i e
        dsimp only at h
        cases hj : T e with
        | none => rw [hj] at h; cases h
        | some j =>
          rw [hj] at h
          dsimp only at h
          split at h
          · simp only [Option.some.injEq] at h
            subst h
            cases hn
          · cases h
theorem opE_slot {C : Cfg} {fl : Bool} {tm : List V} {H : List Ent} {slot slot' : Nat} {op : Op} {r : Res} (h : opE fl C tm H slot op = some r) (hn : r.nw = none) : opE fl C tm H slot' op = some r := by
  cases op <;> (simp only [opE] at h ⊢) <;> first | exact h | (cases h; done) | skip
  case alloc e =>
    cases hi : C.ty e with
    | none => rw [hi] at h; cases h
    | some i =>
      rw [hi] at h
      simp only [Option.some.injEq] at h
      subst h
      cases hn
  case box e x =>
    split at h
    · simp only [Option.some.injEq] at h
      subst h
      cases hn
    · cases h
  case buildSlice t n ps =>
    cases hi : C.ty t with
    | none => rw [hi] at h; cases h
    | some i =>
      rw [hi] at h
      dsimp only at h
      cases hd : i.desc <;> rw [hd] at h <;> first | (cases h; done) | skip
      rename_i e
      dsimp only at h
      cases hj : C.ty e with
      | none => rw [hj] at h; cases h
      | some j =>
        rw [hj] at h
        dsimp only at h
        cases he : elemsE j.size (List.replicate n (zeroEl j)) (ps.toList.map fun (i, x) => (i, opd C tm x)) with
        | none => rw [he] at h; cases h
        | some xs =>
          rw [he] at h
          dsimp only at h
          split at h
          case isFalse => cases h
          split at h
          · simp only [Option.some.injEq] at h
            subst h
            cases hn
          · split at h
            · simp only [Option.some.injEq] at h
              subst h
              cases hn
            · cases h
  case makeFunc fn first caps =>
    cases fn <;> first | exact h | (cases h; done)
  case convert s d x =>
    split at h
    · exact h
    · exact conv_slot h hn
  case makeSlice t l c => exact makeSlice_slot h hn
  case call c =>
    cases hc : c.callee <;> rw [hc] at h <;> first | (cases h; done) | skip
    rename_i b
    dsimp only at h ⊢
    unfold builtinE at h ⊢
    split at h
    · exact h
    · rename_i s x _
      split at h
      case h_2 => cases h
      rename_i t u _
      cases hi : C.ty t with
      | none => rw [hi] at h; cases h
      | some i =>
        rw [hi] at h
        dsimp only at h
        cases hd : i.desc <;> rw [hd] at h <;> first | (cases h; done) | skip
        rename_i e
        dsimp only at h
        cases hj : C.ty e with
        | none => rw [hj] at h; cases h
        | some j =>
          rw [hj] at h
          dsimp only at h
          split at h
          · rename_i hg
            simp only [hd, hj, if_pos hg]
            exact append_slot h hn
          · cases h
    · exact h
    · exact h
    · exact h
    · exact h
    · exact h
    · cases h
theorem opV_slot {C : Cfg} {call : CallV} {tm : List V} {H : List Ent} {slot slot' : Nat} {op : Op} {ad ad' : Ad} {r : Res} {ps : List Prop} (h : opV C call tm H slot op ad = some (r, ad', ps)) (hn : r.nw = none) : opV C call tm H slot' op ad = some (r, ad', ps) := by
  have plain : ∀ (fl : Bool) (ad : Ad) (op : Op), (match opE fl C tm H slot op with | some r => some (r, ad, ([] : List Prop)) | none => none) = some (r, ad', ps) → (match opE fl C tm H slot' op with | some r => some (r, ad, ([] : List Prop)) | none => none) = some (r, ad', ps) := fun fl ad op h => by
    cases he : opE fl C tm H slot op with
    | none => rw [he] at h; cases h
    | some r' =>
      rw [he] at h
      have hrr : r' = r := by simp only [Option.some.injEq, Prod.mk.injEq] at h; exact h.1
      rw [opE_slot he (by rw [hrr]; exact hn)]
      exact h
  unfold opV at h ⊢
  split at h
  · exact h
  · split at h
    · split at h
      · exact plain true _ _ h
      · exact plain false _ _ h
    · exact h
  · rename_i h1 h2
    have := plain false _ _ h
    cases op <;> first | exact this | exact (h1 _ _ _ rfl).elim | exact (h2 _ rfl).elim
theorem draw_snd {C : Cfg} (hC : CfgOk C) : DrawSnd C := by
  intro call hcall id ops tm0 H0 ad tm' H' ad' q ps h hq hp X0' w0 a0 S0 Q hQ
  unfold drawV at h
  split at h
  case isFalse => cases h
  rename_i hdr
  rw [Bool.and_eq_true] at hdr
  obtain ⟨hdr, hmx⟩ := hdr
  have R := drawn_of hdr
  cases hs : seqD C call ops (getMasks ad).1 0 ops.toList tm0 H0 (getMasks ad).2 with
  | none => rw [hs] at h; cases h
  | some p =>
    obtain ⟨tm1, H1, ad1, q1, ps1, fs⟩ := p
    rw [hs] at h
    dsimp only at h
    split at h
    case isFalse => cases h
    rename_i hmk
    simp only [Option.some.injEq, Prod.mk.injEq] at h
    obtain ⟨rfl, rfl, rfl, rfl, rfl⟩ := h
    generalize hmasks : (getMasks ad).1 = masks at *
    obtain ⟨L, l1, l2, l3, l4, l5, l6, l7, l8⟩ := seqD_trace _ _ _ _ _ _ _ _ _ _ _ hs hq hp
    have hn : L.length = ops.size := by rw [l1]; simp
    -- what the masks say
    have hmask : ∀ (j k : Nat) (e : Te), L[j]? = some e → k < ops.size → j ≠ k → comparable (ancOf ops) j k = false → ∀ d, d ∈ e.foot → d ∈ masks.getD k [] := by
      intro j k e hj hk hne hcm d hd
      unfold masksOk at hmk
      simp only [List.all_eq_true, List.mem_range, Bool.or_eq_true, beq_iff_eq] at hmk
      have hjl : j < ops.size := by rw [← hn]; exact (List.getElem?_eq_some_iff.1 hj).1
      have hfs : fs.getD j [] = e.foot := by rw [l5, List.getD_eq_getElem?_getD, List.getElem?_map, hj]; rfl
      rcases hmk j hjl k hk with (h | h) | h
      · exact (hne h).elim
      · rw [hcm] at h; cases h
      · rw [hfs] at h
        simpa using h d hd
    have step : ∀ (k : Nat) (e : Te) (o : Oper), L[k]? = some e → ops[k]? = some o → StepOk C call ops (masks.getD k []) (tmF (fun i => decide (i < k)) L 0 tm0) (hpF (fun i => decide (i < k)) L 0 (look H0)) o e := by
      intro k e o hk ho
      have := l8 k e o hk (by simpa using ho)
      rw [Nat.zero_add] at this
      have hlt : k < L.length := (List.getElem?_eq_some_iff.1 hk).1
      rw [tm_take L k (by omega), hp_take L k (by omega)] at this
      exact this
    have opAt : ∀ (k : Nat) (e : Te), L[k]? = some e → ∃ o, ops[k]? = some o := fun k e hk => by
      have hlt : k < L.length := (List.getElem?_eq_some_iff.1 hk).1
      exact ⟨ops[k]'(by omega), Array.getElem?_eq_getElem (by omega)⟩
    have dstAt : ∀ (k : Nat) (e : Te) (o : Oper), L[k]? = some e → ops[k]? = some o → e.dst = o.dst := fun k e o hk ho => (step k e o hk ho).1
    -- the state
    let Inv : (Nat → Bool) → Act → World → Prop := fun D a w => ∃ X, Ok C X w ∧ look X.H = hpF D L 0 (look H0) ∧ X.H.length = H1.length ∧ RepL X w (tmF D L 0 tm0) (.vals a.tmps.toList) ∧
      (∀ i, X.ok i → i < H0.length ∨ ∃ k e, D k = true ∧ L[k]? = some e ∧ e.r.nw ≠ none ∧ i = e.s) ∧ Later X0' w0 X w ∧ a.defers = a0.defers
    have finish : ∀ (D : Nat → Bool) a w, (∀ k, k < ops.size → D k = true) → Inv D a w → Q .normal a w := by
      rintro D a w hD ⟨X, O, x1, x2, x3, x4, x5, x6⟩
      have e1 : tmF D L 0 tm0 = tm1 := by rw [l2]; exact tmF_congr _ _ _ fun k _ hk => by rw [hD k (by omega)]
      have e2 : hpF D L 0 (look H0) = look H1 := by rw [l3]; exact hpF_congr _ _ _ fun k _ hk => by rw [hD k (by omega)]
      obtain ⟨Lr, Er⟩ := relook O.ents (H' := H1) (fun i => by rw [x1, e2])
      refine hQ (X.with H1) w a ⟨⟨Er, fun i hi => ?_, O.globs.later Lr⟩, rfl, by rw [← e1]; exact x3.later' Lr⟩ (x5.trans Lr) x6
      show i < H1.length
      rcases x4 i hi with h | ⟨k, e, _, hk, hnw, rfl⟩
      · omega
      · exact (l6 k e hk hnw).2
    -- one operation
    have main : ∀ (fuel : Nat) (listed : Array Bool) (a : Act) (w : World), listed.size = ops.size → Closed ops (fun i => listed.getD i false) → Inv (fun i => listed.getD i false) a w →
        ((List.range ops.size).filter fun i => !listed.getD i false).length ≤ fuel → wpAny C.P .any ops Q fuel listed a w := by
      intro fuel
      induction fuel with
      | zero =>
        intro listed a w hsz hcl hinv hcnt
        have hall : ∀ k, k < ops.size → listed.getD k false = true := fun k hk => by
          have : ((List.range ops.size).filter fun i => !listed.getD i false) = [] := List.eq_nil_of_length_eq_zero (by omega)
          have := List.filter_eq_nil_iff.1 this k (List.mem_range.2 hk)
          simpa using this
        refine ⟨?_, finish _ a w hall hinv⟩
        apply List.eq_nil_iff_forall_not_mem.2
        intro j hj
        obtain ⟨h0, o, ho, _⟩ := mem_ready.1 hj
        have hjl : j < ops.size := (Array.getElem?_eq_some_iff.1 ho).1
        have := hall j hjl
        have e : listed.getD j true = listed.getD j false := by
          have : j < listed.size := by omega
          simp [this]
        rw [e, this] at h0
        cases h0
      | succ fuel ih =>
        intro listed a w hsz hcl hinv hcnt
        have e0 : ∀ j, j < ops.size → listed.getD j true = listed.getD j false := fun j hj => by
          have : j < listed.size := by omega
          simp [this]
        refine ⟨fun hr => ?_, fun j hj => ?_⟩
        · have hall : ∀ k, k < ops.size → listed.getD k false = true := by
            intro k
            induction k using Nat.strongRecOn with
            | _ k ihk =>
              intro hk
              cases hlk : listed.getD k false with
              | true => rfl
              | false =>
                exfalso
                have : k ∈ Region.ready .any ops listed := mem_ready.2 ⟨by rw [e0 k hk, hlk], ops[k], Array.getElem?_eq_getElem hk, fun e he hb => by
                  have := R.up k _ (Array.getElem?_eq_getElem hk) e he hb
                  exact ihk e.on this (by omega)⟩
                rw [hr] at this
                cases this
          exact finish _ a w hall hinv
        · obtain ⟨h0, o, ho, hrd⟩ := mem_ready.1 hj
          have hjl : j < ops.size := (Array.getElem?_eq_some_iff.1 ho).1
          rw [e0 j hjl] at h0
          have hjL : j < L.length := by omega
          obtain ⟨e, he⟩ : ∃ e, L[j]? = some e := ⟨L[j], List.getElem?_eq_getElem hjL⟩
          obtain ⟨sd, sx⟩ := step j e o he ho
          have hcd : ∀ (k : Nat) (f : Te), L[k]? = some f → comparable (ancOf ops) j k = true → (listed.getD k false) = decide (k < j) := fun k f hk hcm => by
            obtain ⟨o', ho'⟩ := opAt k f hk
            exact comp_D R hcl ho ho' h0 (fun e he hb => hrd e he hb) hcm
          -- temporaries
          have htm : ∀ t, t ∈ o.looksAt ops → (tmF (fun i => listed.getD i false) L 0 tm0).getD t .undef = (tmF (fun i => decide (i < j)) L 0 tm0).getD t .undef := by
            intro t ht
            rw [List.getD_eq_getElem?_getD, List.getD_eq_getElem?_getD]
            congr 1
            refine tmF_get L 0 tm0 tm0 rfl rfl fun k f hk hft => ?_
            rw [Nat.zero_add]
            by_cases hkj : k = j
            · subst hkj
              rw [h0]
              simp
            · obtain ⟨o', ho'⟩ := opAt k f hk
              rw [dstAt k f o' hk ho'] at hft
              rcases R.pair j k o o' ho ho' (fun h => hkj h.symm) with hcm | hap
              · exact hcd k f hk hcm
              · exact ((Oper.apart_spec hap).2.2 t hft ht).elim
          have hopd : ∀ x, x ∈ o.op.operands → opd C (tmF (fun i => listed.getD i false) L 0 tm0) x = opd C (tmF (fun i => decide (i < j)) L 0 tm0) x := by
            intro x hx
            cases x with
            | tmp t => exact htm t (List.mem_append_left _ (List.mem_filterMap.2 ⟨.tmp t, by simpa using hx, rfl⟩))
            | const v => exact opd_const _ _ v
            | global g => rfl
            | func f => rfl
          have hwant : ∀ ad, wantV ops (tmF (fun i => listed.getD i false) L 0 tm0) o ad = wantV ops (tmF (fun i => decide (i < j)) L 0 tm0) o ad := fun ad => want_congr fun g want t hg ht => htm t (by
            unfold Oper.looksAt
            refine List.mem_append_right _ ?_
            rw [hg]
            simp [ht])
          obtain ⟨X, O, x1, x2, x3, x4, x5, x6⟩ := hinv
          have hjlt : j < listed.size := by omega
          have hD' : ∀ k, (listed.setIfInBounds j true).getD k false = if k = j then true else listed.getD k false := fun k => by
            by_cases hk : k = j
            · subst hk
              simp [hjlt]
            · rw [if_neg hk, getD_set_ne false (fun h => hk h.symm)]
          have hcl' : Closed ops (fun i => (listed.setIfInBounds j true).getD i false) := by
            intro k o' ho' hDk e' he' hb
            have hDk : (listed.setIfInBounds j true).getD k false = true := hDk
            show (listed.setIfInBounds j true).getD e'.on false = true
            refine getD_set_true ?_
            rw [hD' k] at hDk
            by_cases hk : k = j
            · subst hk
              rw [ho] at ho'
              cases ho'
              exact hrd e' he' hb
            · rw [if_neg hk] at hDk
              exact hcl k o' ho' hDk e' he' hb
          have hcnt' : ((List.range ops.size).filter fun i => !(listed.setIfInBounds j true).getD i false).length ≤ fuel := by
            have := count_lt (p := fun i => !listed.getD i false) (p' := fun i => !(listed.setIfInBounds j true).getD i false) (List.range ops.size) (fun x _ hx => by
              rw [hD' x] at hx
              by_cases hk : x = j
              · rw [if_pos hk] at hx; cases hx
              · rw [if_neg hk] at hx; exact hx) ⟨j, List.mem_range.2 hjl, by simp [h0], by simp [hD']⟩
            omega
          have hsz' : (listed.setIfInBounds j true).size = ops.size := by simpa using hsz
          -- what is written does not meet
          have dlMask : ∀ (k : Nat) (f : Te), L[k]? = some f → ∀ i, i ∈ f.r.dl.map (·.1) → i ∉ masks.getD k [] := fun k f hk i hi => by
            obtain ⟨o', ho'⟩ := opAt k f hk
            rcases (step k f o' hk ho').2 with ⟨_, _, _, hr⟩ | ⟨_, _, _, _, Hm, _, _, _, _, _, h7, h8⟩
            · rw [hr] at hi; cases hi
            · exact (h7 i (h8 i hi)).1
          have ins := ins_split (D := fun i => listed.getD i false) (D' := fun i => (listed.setIfInBounds j true).getD i false) h0 hD' L e he tm0 (look H0)
            (fun k f hk hjk hDk t ht hft => by
              obtain ⟨o', ho'⟩ := opAt k f hk
              rw [dstAt k f o' hk ho'] at hft
              rw [sd] at ht
              have hDk : listed.getD k false = true := hDk
              rcases R.pair j k o o' ho ho' (by omega) with hcm | hap
              · rw [hcd k f hk hcm] at hDk
                simp at hDk
                omega
              · exact (Oper.apart_spec hap).2.1 t ht hft)
            (fun k f hk hjk hDk i hi hif => by
              have hDk : listed.getD k false = true := hDk
              have hkl : k < ops.size := by rw [← hn]; exact (List.getElem?_eq_some_iff.1 hk).1
              have hcm : comparable (ancOf ops) j k = false := by
                cases hc : comparable (ancOf ops) j k with
                | false => rfl
                | true =>
                  rw [hcd k f hk hc] at hDk
                  simp at hDk
                  omega
              have hcm' : comparable (ancOf ops) k j = false := by
                unfold comparable at hcm ⊢
                rw [Bool.or_comm]
                exact hcm
              have m1 := hmask j k e he hkl (by omega) hcm i hi
              have m2 := hmask k j f hk hjl (by omega) hcm' i hif
              unfold Te.foot footOf at hi hif
              rcases List.mem_append.1 hi with hi | hi
              · exact dlMask j e he i hi m2
              · rcases List.mem_append.1 hif with hif | hif
                · exact dlMask k f hk i hif m1
                · cases hw : e.r.nw with
                  | none => rw [hw] at hi; cases hi
                  | some _ =>
                    cases hw' : f.r.nw with
                    | none => rw [hw'] at hif; cases hif
                    | some _ =>
                      rw [hw] at hi
                      rw [hw'] at hif
                      simp only [List.mem_singleton] at hi hif
                      have := l7 j k e f he hk hjk (by rw [hw]; simp) (by rw [hw']; simp)
                      omega)
          -- the step
          unfold wpOp
          simp only [ho]
          rcases sx with ⟨adw, adw', hw, hr⟩ | ⟨adw, adw1, adw', ps2, Hm, hw, hop, hr, hp2, hu, hle, hdl⟩
          · rw [want_sound x3 (by rw [hwant]; exact hw) rfl]
            simp only [Bool.false_eq_true, if_false]
            refine ih _ _ _ hsz' hcl' ⟨X, O, ?_, x2, ?_, fun i hi => ?_, x5, (put_defers' a _ _).trans x6⟩ hcnt'
            · rw [ins.2, x1]
              funext i
              rw [upd_out]
              unfold Te.foot footOf
              rw [hr]
              simp
            · rw [ins.1, sd, hr]
              exact repL_put o.dst x3 rep_skip
            · rcases x4 i hi with h | ⟨k, f, hk1, hk2⟩
              · exact .inl h
              · exact .inr ⟨k, f, getD_set_true hk1, hk2⟩
          · rw [want_sound x3 (by rw [hwant]; exact hw) rfl]
            simp only [if_true]
            have hLe : LeH Hm X.H := fun i hi => by
              obtain ⟨q1, q2⟩ := hle i hi
              rw [x1, ← q2]
              refine hpF_get L 0 _ _ rfl fun k f hk hif => ?_
              rw [Nat.zero_add]
              by_cases hkj : k = j
              · subst hkj
                rw [h0]
                simp
              · cases hc : comparable (ancOf ops) j k with
                | true => exact hcd k f hk hc
                | false =>
                  have hcm' : comparable (ancOf ops) k j = false := by
                    unfold comparable at hc ⊢
                    rw [Bool.or_comm]
                    exact hc
                  exact (q1 (hmask k j f hk hjl hkj hcm' i hif)).elim
            have hop' := opV_mono hopd hLe hu hop
            have hns : e.r.nw ≠ none → ¬ X.ok e.s := fun hnw hok => by
              have hs := l6 j e he hnw
              rcases x4 e.s hok with h | ⟨k, f, hk1, hk2, hk3, hk4⟩
              · omega
              · have hk1 : listed.getD k false = true := hk1
                rcases Nat.lt_trichotomy k j with h | h | h
                · have := l7 k j f e hk2 he h hk3 hnw
                  omega
                · subst h
                  rw [h0] at hk1
                  cases hk1
                · have := l7 j k e f he hk2 h hnw hk3
                  omega
            obtain ⟨slot, hslot, hopS, hss⟩ : ∃ slot, ¬ X.ok slot ∧ opV C call (tmF (fun i => listed.getD i false) L 0 tm0) X.H slot o.op adw1 = some (e.r, adw', ps2) ∧ (e.r.nw ≠ none → slot = e.s) := by
              by_cases hnw : e.r.nw = none
              · exact ⟨X.H.length, fun h => by have := O.lt _ h; omega, opV_slot hop' hnw, fun h => (h hnw).elim⟩
              · exact ⟨e.s, hns hnw, hop', fun _ => rfl⟩
            refine .inl (opV_sound hC hcall O hslot x3 hopS hr hp2 (fun v w1 hpost => ?_))
            have hfoot : ∀ i, i ∈ e.foot → i < H1.length := fun i hi => by
              unfold Te.foot footOf at hi
              rcases List.mem_append.1 hi with hi | hi
              · have h1 := hdl i hi
                have h2 := hLe i h1
                rw [← h2] at h1
                have := lt_of_alive h1
                omega
              · cases hw : e.r.nw with
                | none => rw [hw] at hi; cases hi
                | some _ =>
                  rw [hw] at hi
                  simp only [List.mem_singleton] at hi
                  subst hi
                  exact (l6 j e he (by rw [hw]; simp)).2
            have hdead : ∀ i, H1.length ≤ i → upd e (look X.H) i = .dead := fun i hi => by
              rw [upd_out (fun h => by have := hfoot i h; omega)]
              exact look_dead (by omega)
            obtain ⟨X1, y1, y2, y3, y4, y5, y6⟩ := hpost (listFn H1.length (upd e (look X.H))) (by
              unfold Res.HeapOk
              rw [hu]
              intro i
              rw [look_listFn _ _ hdead]
              unfold upd
              cases hw : e.r.nw with
              | none => simp only [dlook_dlk]
              | some x => rw [hss (by rw [hw]; simp)]; simp only [dlook_dlk]) (fun _ => ⟨by rw [x2]; simp [listFn], fun hnw => by
                rw [hss hnw]
                have := (l6 j e he hnw).2
                simpa [listFn] using this⟩)
            refine ih _ _ _ hsz' hcl' ⟨X1, ⟨y3, y5 O.lt, O.globs.later y2⟩, by rw [y1, look_listFn _ _ hdead, ins.2, x1], by rw [y1]; simp [listFn], ?_, fun i hi => ?_, x5.trans y2, (put_defers' a _ _).trans x6⟩ hcnt'
            · rw [ins.1, sd]
              exact repL_put o.dst (x3.later' y2) y4
            · rcases y6 hu i hi with h | ⟨rfl, hnw⟩
              · rcases x4 i h with h | ⟨k, f, hk1, hk2⟩
                · exact .inl h
                · exact .inr ⟨k, f, getD_set_true hk1, hk2⟩
              · exact .inr ⟨j, e, (hD' j).trans (if_pos rfl), he, hnw, hss hnw⟩
    obtain ⟨O0, hX0, ha0⟩ := S0
    have hX0 : X0'.H = H0 := hX0
    subst hX0
    have hpad : ∀ i, look (X0'.H ++ List.replicate (H1.length - X0'.H.length) Ent.dead) i = look X0'.H i := fun i => by
      unfold look
      rw [List.getD_eq_getElem?_getD, List.getD_eq_getElem?_getD]
      by_cases h : i < X0'.H.length
      · rw [List.getElem?_append_left h]
      · rw [List.getElem?_append_right (by omega), List.getElem?_eq_none (by omega : X0'.H.length ≤ i), List.getElem?_replicate]
        split <;> rfl
    have L0 := Later.drew X0' w0
    obtain ⟨Lr, Er⟩ := relook (O0.ents.heap L0 rfl) hpad
    have hf : ∀ k, (Array.replicate ops.size false).getD k false = false := fun k => by
      unfold Array.getD
      split
      · simp
      · rfl
    refine wp_region_any hmx (main ops.size _ a0 _ (by simp) (fun j o _ hD => by have hD : (Array.replicate ops.size false).getD j false = true := hD; rw [hf j] at hD; cases hD) ⟨X0'.with (X0'.H ++ List.replicate (H1.length - X0'.H.length) Ent.dead), ⟨Er, fun i hi => ?_, (O0.globs.later L0).later Lr⟩, ?_, ?_, ?_, fun i hi => .inl (O0.lt i hi), L0.trans Lr, rfl⟩ ?_)
    · have := O0.lt i hi
      show i < (X0'.H ++ List.replicate (H1.length - X0'.H.length) Ent.dead).length
      simp
      omega
    · rw [hpF_false _ _ _ _ (fun k _ => hf k)]
      funext i
      exact hpad i
    · show (X0'.H ++ List.replicate (H1.length - X0'.H.length) Ent.dead).length = H1.length
      simp
      omega
    · rw [tmF_false _ _ _ _ (fun k _ => hf k)]
      exact (ha0.later' L0).later' Lr
    · exact Nat.le_trans (List.length_filter_le _ _) (by simp)

end Go.Vi
