/- Regions whose order is drawn: whatever the order, the outcome is that of the text's order. -/
import Derived.Test.YtcpeljfjgbjnjaaDoorVMono
import Derived.Orders
namespace Go.Vi
open Go.RowKit

/-- What an operation of a region came to: its place for a value, its outcome, where a new entry lies. -/
structure Te where
  dst : Option Tmp
  r : Res
  s : Nat
abbrev HF := Nat → Ent
def dlk (h : HF) (id : Nat) : List (Nat × Ent) → Ent
  | [] => h id
  | (i, e) :: l => if id = i then e else dlk h id l
def upd (e : Te) (h : HF) : HF := fun id => match e.r.nw with
  | some x => if id = e.s then x else dlk h id e.r.dl
  | none => dlk h id e.r.dl
def Te.foot (e : Te) : List Nat := footOf e.r e.s
def tmF (D : Nat → Bool) : List Te → Nat → List V → List V
  | [], _, tm => tm
  | e :: l, i, tm => tmF D l (i + 1) (if D i then setT tm e.dst e.r.v else tm)
def hpF (D : Nat → Bool) : List Te → Nat → HF → HF
  | [], _, h => h
  | e :: l, i, h => hpF D l (i + 1) (if D i then upd e h else h)

theorem dlk_out {h : HF} {id : Nat} : ∀ {l : List (Nat × Ent)}, id ∉ l.map (·.1) → dlk h id l = h id
  | [], _ => rfl
  | (i, e) :: l, hn => by
    simp only [List.map_cons, List.mem_cons, not_or] at hn
    rw [dlk, if_neg hn.1, dlk_out hn.2]
theorem dlk_in {h h' : HF} {id : Nat} : ∀ {l : List (Nat × Ent)}, id ∈ l.map (·.1) → dlk h id l = dlk h' id l
  | [], hn => by cases hn
  | (i, e) :: l, hn => by
    rw [dlk, dlk]
    by_cases he : id = i
    · rw [if_pos he, if_pos he]
    · rw [if_neg he, if_neg he]
      simp only [List.map_cons, List.mem_cons] at hn
      exact dlk_in (hn.resolve_left he)
theorem upd_out {e : Te} {h : HF} {id : Nat} (hn : id ∉ e.foot) : upd e h id = h id := by
  unfold Te.foot footOf at hn
  simp only [List.mem_append, not_or] at hn
  unfold upd
  cases hw : e.r.nw with
  | none => exact dlk_out hn.1
  | some x =>
    rw [hw] at hn
    simp only [List.mem_singleton] at hn
    simp only [if_neg hn.2]
    exact dlk_out hn.1
theorem upd_in {e : Te} {h h' : HF} {id : Nat} (hn : id ∈ e.foot) : upd e h id = upd e h' id := by
  unfold Te.foot footOf at hn
  simp only [List.mem_append] at hn
  unfold upd
  cases hw : e.r.nw with
  | none =>
    rw [hw] at hn
    rcases hn with hn | hn
    · exact dlk_in hn
    · cases hn
  | some x =>
    rw [hw] at hn
    simp only [List.mem_singleton] at hn
    by_cases hs : id = e.s
    · simp only [if_pos hs]
    · simp only [if_neg hs]
      exact dlk_in (hn.resolve_right hs)
theorem upd_comm {e f : Te} (h : HF) (hd : ∀ id, id ∈ e.foot → id ∉ f.foot) : upd e (upd f h) = upd f (upd e h) := by
  funext id
  by_cases he : id ∈ e.foot
  · have hf := hd id he
    rw [upd_out hf, upd_in (h' := h) he]
  · rw [upd_out he]
    by_cases hf : id ∈ f.foot
    · exact upd_in hf
    · rw [upd_out hf, upd_out hf, upd_out he]
theorem setT_len (tm : List V) (d : Option Tmp) (v : V) : (setT tm d v).length = tm.length := by
  cases d with
  | none => rfl
  | some t => simp [setT]
theorem setT_get (tm : List V) (d : Option Tmp) (v : V) (t : Nat) : (setT tm d v)[t]? = if d = some t ∧ t < tm.length then some v else tm[t]? := by
  cases d with
  | none => simp [setT]
  | some u =>
    simp only [setT, List.getElem?_set, Option.some.injEq]
    by_cases hu : u = t
    · subst hu
      by_cases hl : u < tm.length
      · simp [hl]
      · simp [hl]
    · simp [hu]
theorem tmF_len (D : Nat → Bool) : ∀ (l : List Te) (i : Nat) (tm : List V), (tmF D l i tm).length = tm.length
  | [], _, _ => rfl
  | e :: l, i, tm => by
    rw [tmF, tmF_len D l]
    split
    · exact setT_len _ _ _
    · rfl
theorem tmF_app (D : Nat → Bool) : ∀ (l m : List Te) (i : Nat) (tm : List V), tmF D (l ++ m) i tm = tmF D m (i + l.length) (tmF D l i tm)
  | [], _, _, _ => rfl
  | e :: l, m, i, tm => by
    rw [List.cons_append, tmF, tmF, tmF_app D l m, List.length_cons]
    congr 1
    omega
theorem hpF_app (D : Nat → Bool) : ∀ (l m : List Te) (i : Nat) (h : HF), hpF D (l ++ m) i h = hpF D m (i + l.length) (hpF D l i h)
  | [], _, _, _ => rfl
  | e :: l, m, i, h => by
    rw [List.cons_append, hpF, hpF, hpF_app D l m, List.length_cons]
    congr 1
    omega
theorem tmF_congr {D D' : Nat → Bool} : ∀ (l : List Te) (i : Nat) (tm : List V), (∀ k, i ≤ k → k < i + l.length → D k = D' k) → tmF D l i tm = tmF D' l i tm
  | [], _, _, _ => rfl
  | e :: l, i, tm, h => by
    rw [tmF, tmF, h i (Nat.le_refl i) (by simp), tmF_congr l (i + 1) _ (fun k h1 h2 => h k (by omega) (by simp; omega))]
theorem hpF_congr {D D' : Nat → Bool} : ∀ (l : List Te) (i : Nat) (h : HF), (∀ k, i ≤ k → k < i + l.length → D k = D' k) → hpF D l i h = hpF D' l i h
  | [], _, _, _ => rfl
  | e :: l, i, h, hh => by
    rw [hpF, hpF, hh i (Nat.le_refl i) (by simp), hpF_congr l (i + 1) _ (fun k h1 h2 => hh k (by omega) (by simp; omega))]
/-- a temporary that the same operations have written -/
theorem tmF_get {D D' : Nat → Bool} {t : Nat} : ∀ (l : List Te) (i : Nat) (tm tm' : List V), tm.length = tm'.length → tm[t]? = tm'[t]? → (∀ k e, l[k]? = some e → e.dst = some t → D (i + k) = D' (i + k)) → (tmF D l i tm)[t]? = (tmF D' l i tm')[t]?
  | [], _, _, _, _, h, _ => h
  | e :: l, i, tm, tm', hl, h, hd => by
    rw [tmF, tmF]
    have h0 : e.dst = some t → D i = D' i := fun hh => by simpa using hd 0 e rfl hh
    refine tmF_get l (i + 1) _ _ ?_ ?_ (fun k e' hk hh => by have := hd (k + 1) e' (by simpa using hk) hh; rw [show i + 1 + k = i + (k + 1) by omega]; exact this)
    · split <;> split <;> (try simp only [setT_len]) <;> exact hl
    · by_cases hh : e.dst = some t
      · rw [h0 hh]
        split
        · rw [setT_get, setT_get, hl, h]
        · exact h
      · have : ∀ (x : List V) (c : Bool), (if c = true then setT x e.dst e.r.v else x)[t]? = x[t]? := fun x c => by
          split
          · rw [setT_get, if_neg (fun h => hh h.1)]
          · rfl
        rw [this, this]
        exact h
theorem hpF_get {D D' : Nat → Bool} {id : Nat} : ∀ (l : List Te) (i : Nat) (h h' : HF), h id = h' id → (∀ k e, l[k]? = some e → id ∈ e.foot → D (i + k) = D' (i + k)) → hpF D l i h id = hpF D' l i h' id
  | [], _, _, _, h, _ => h
  | e :: l, i, h, h', hh, hd => by
    rw [hpF, hpF]
    have h0 : id ∈ e.foot → D i = D' i := fun hm => by simpa using hd 0 e rfl hm
    refine hpF_get l (i + 1) _ _ ?_ (fun k e' hk hm => by have := hd (k + 1) e' (by simpa using hk) hm; rw [show i + 1 + k = i + (k + 1) by omega]; exact this)
    by_cases hm : id ∈ e.foot
    · rw [h0 hm]
      split
      · exact upd_in hm
      · exact hh
    · have : ∀ (x : HF) (c : Bool), (if c = true then upd e x else x) id = x id := fun x c => by
        split
        · exact upd_out hm
        · rfl
      rw [this, this]
      exact hh
/-- one more operation: behind all that are done -/
theorem tmF_late {D : Nat → Bool} {d : Option Tmp} {v : V} : ∀ (l : List Te) (i : Nat) (tm : List V), (∀ k e, l[k]? = some e → D (i + k) = true → ∀ t, d = some t → e.dst ≠ some t) → tmF D l i (setT tm d v) = setT (tmF D l i tm) d v
  | [], _, _, _ => rfl
  | e :: l, i, tm, h => by
    rw [tmF, tmF]
    have ih := fun x => tmF_late (D := D) (d := d) (v := v) l (i + 1) x (fun k e' hk hD t ht => h (k + 1) e' (by simpa using hk) (by rw [show i + (k + 1) = i + 1 + k by omega]; exact hD) t ht)
    by_cases hD : D i = true
    · simp only [hD, if_true]
      rw [← ih]
      congr 1
      have hne := h 0 e rfl (by simpa using hD)
      cases hd : d with
      | none => rfl
      | some t =>
        cases he : e.dst with
        | none => rfl
        | some u =>
          simp only [setT]
          rw [List.set_comm]
          intro e'
          exact hne t hd (by rw [he, e'])
    · simp only [hD, Bool.false_eq_true, if_false]
      exact ih tm
theorem hpF_late {D : Nat → Bool} {e0 : Te} : ∀ (l : List Te) (i : Nat) (h : HF), (∀ k e, l[k]? = some e → D (i + k) = true → ∀ id, id ∈ e0.foot → id ∉ e.foot) → hpF D l i (upd e0 h) = upd e0 (hpF D l i h)
  | [], _, _, _ => rfl
  | e :: l, i, h, hh => by
    rw [hpF, hpF]
    have ih := fun x => hpF_late (D := D) (e0 := e0) l (i + 1) x (fun k e' hk hD t ht => hh (k + 1) e' (by simpa using hk) (by rw [show i + (k + 1) = i + 1 + k by omega]; exact hD) t ht)
    by_cases hD : D i = true
    · simp only [hD, if_true]
      rw [← ih]
      congr 1
      exact (upd_comm h (hh 0 e rfl (by simpa using hD))).symm
    · simp only [hD, Bool.false_eq_true, if_false]
      exact ih h

/-! ### what the evaluator told -/
theorem look_maskH {H : List Ent} {id : Nat} : ∀ {m : List Nat}, (look (maskH H m) id).alive = true → id ∉ m ∧ look (maskH H m) id = look H id
  | [], _ => ⟨by simp, rfl⟩
  | i :: m, h => by
    simp only [maskH] at h ⊢
    by_cases hl : i < (maskH H m).length
    · rw [look_set _ _ _ hl] at h ⊢
      by_cases hi : id = i
      · rw [if_pos hi] at h; cases h
      · rw [if_neg hi] at h ⊢
        obtain ⟨h1, h2⟩ := look_maskH h
        exact ⟨by simp [hi, h1], h2⟩
    · rw [List.set_eq_of_length_le (by omega)] at h ⊢
      obtain ⟨h1, h2⟩ := look_maskH h
      refine ⟨?_, h2⟩
      simp only [List.mem_cons, not_or]
      refine ⟨fun hi => ?_, h1⟩
      subst hi
      have := lt_of_alive h
      omega
/-- What is known of the operation at place j: tm, h: before it, in the order of the text. -/
def StepOk (C : Cfg) (call : CallV) (ops : Array Oper) (m : List Nat) (tm : List V) (h : HF) (o : Oper) (e : Te) : Prop :=
  e.dst = o.dst ∧
  ((∃ ad ad', wantV ops tm o ad = some (false, ad', true) ∧ e.r = { v := .tup [] }) ∨
   (∃ ad ad1 ad' ps Hm, wantV ops tm o ad = some (true, ad1, true) ∧ opV C call tm Hm e.s o.op ad1 = some (e.r, ad', ps) ∧ e.r.req = true ∧ allP ps ∧ e.r.up = none ∧
      (∀ id, (look Hm id).alive = true → id ∉ m ∧ h id = look Hm id) ∧ (∀ id, id ∈ e.r.dl.map (·.1) → (look Hm id).alive = true)))
theorem upd_heap {r : Res} {H : List Ent} {d : Option Tmp} (hu : r.up = none) (hd : ∀ id, id ∈ r.dl.map (·.1) → id < H.length) : look (r.heap H) = upd ⟨d, r, H.length⟩ (look H) := by
  have hall : (r.dl.map (·.1)).all (fun d => decide (d < H.length)) = true := List.all_eq_true.2 fun x hx => decide_eq_true (hd x hx)
  have k := (heap_ok hall).1
  unfold Res.HeapOk at k
  rw [hu] at k
  have hdl : ∀ (l : List (Nat × Ent)) id, dlook H id l = dlk (look H) id l := by
    intro l
    induction l with
    | nil => intro id; rfl
    | cons p l ih =>
      intro id
      obtain ⟨i, e⟩ := p
      rw [dlook, dlk, ih]
  funext id
  have := k id
  rw [this]
  unfold upd
  cases r.nw with
  | none => exact hdl _ _
  | some x => simp only [hdl]
theorem seqD_trace {C : Cfg} {call : CallV} {ops : Array Oper} {masks : List (List Nat)} : ∀ (rest : List Oper) (i : Nat) (tm : List V) (H : List Ent) (ad : Ad) (tm' : List V) (H' : List Ent) (ad' : Ad) (q : Bool) (ps : List Prop) (fs : List (List Nat)),
    seqD C call ops masks i rest tm H ad = some (tm', H', ad', q, ps, fs) → q = true → allP ps →
    ∃ S : List Te, S.length = rest.length ∧ tm' = tmF (fun _ => true) S i tm ∧ look H' = hpF (fun _ => true) S i (look H) ∧ H.length ≤ H'.length ∧ fs = S.map Te.foot ∧
      (∀ (k : Nat) (e : Te), S[k]? = some e → e.r.nw ≠ none → H.length ≤ e.s ∧ e.s < H'.length) ∧
      (∀ (j k : Nat) (e f : Te), S[j]? = some e → S[k]? = some f → j < k → e.r.nw ≠ none → f.r.nw ≠ none → e.s < f.s) ∧
      (∀ (k : Nat) (e : Te) (o : Oper), S[k]? = some e → rest[k]? = some o → StepOk C call ops (masks.getD (i + k) []) (tmF (fun _ => true) (S.take k) i tm) (hpF (fun _ => true) (S.take k) i (look H)) o e)
  | [], i, tm, H, ad, tm', H', ad', q, ps, fs, h, _, _ => by
    simp only [seqD, Option.some.injEq, Prod.mk.injEq] at h
    obtain ⟨rfl, rfl, rfl, rfl, rfl, rfl⟩ := h
    exact ⟨[], rfl, rfl, rfl, Nat.le_refl _, rfl, fun k e h => by simp at h, fun j k e f h => by simp at h, fun k e o h => by simp at h⟩
  | o :: rest, i, tm, H, ad, tm', H', ad', q, ps, fs, h, hq, hp => by
    have build : ∀ (e0 : Te) (H1 : List Ent), look H1 = upd e0 (look H) → H.length ≤ H1.length → (e0.r.nw ≠ none → e0.s = H.length ∧ H.length < H1.length) → StepOk C call ops (masks.getD i []) tm (look H) o e0 → ∀ fs1, fs = e0.foot :: fs1 →
        (∃ S : List Te, S.length = rest.length ∧ tm' = tmF (fun _ => true) S (i + 1) (setT tm e0.dst e0.r.v) ∧ look H' = hpF (fun _ => true) S (i + 1) (look H1) ∧ H1.length ≤ H'.length ∧ fs1 = S.map Te.foot ∧
          (∀ (k : Nat) (e : Te), S[k]? = some e → e.r.nw ≠ none → H1.length ≤ e.s ∧ e.s < H'.length) ∧
          (∀ (j k : Nat) (e f : Te), S[j]? = some e → S[k]? = some f → j < k → e.r.nw ≠ none → f.r.nw ≠ none → e.s < f.s) ∧
          (∀ (k : Nat) (e : Te) (o : Oper), S[k]? = some e → rest[k]? = some o → StepOk C call ops (masks.getD (i + 1 + k) []) (tmF (fun _ => true) (S.take k) (i + 1) (setT tm e0.dst e0.r.v)) (hpF (fun _ => true) (S.take k) (i + 1) (look H1)) o e)) →
        ∃ S : List Te, S.length = (o :: rest).length ∧ tm' = tmF (fun _ => true) S i tm ∧ look H' = hpF (fun _ => true) S i (look H) ∧ H.length ≤ H'.length ∧ fs = S.map Te.foot ∧
          (∀ (k : Nat) (e : Te), S[k]? = some e → e.r.nw ≠ none → H.length ≤ e.s ∧ e.s < H'.length) ∧
          (∀ (j k : Nat) (e f : Te), S[j]? = some e → S[k]? = some f → j < k → e.r.nw ≠ none → f.r.nw ≠ none → e.s < f.s) ∧
          (∀ (k : Nat) (e : Te) (o' : Oper), S[k]? = some e → (o :: rest)[k]? = some o' → StepOk C call ops (masks.getD (i + k) []) (tmF (fun _ => true) (S.take k) i tm) (hpF (fun _ => true) (S.take k) i (look H)) o' e) := by
      intro e0 H1 hH1 hlen hnw hst fs1 hfs ⟨S, s1, s2, s3, s4, s5, s6, s7, s8⟩
      refine ⟨e0 :: S, by simp [s1], by rw [tmF]; exact s2, by rw [hpF, s3, hH1]; rfl, by omega, by rw [hfs, s5]; rfl, fun k e hk hn => ?_, fun j k e f hj hk hjk hn hn' => ?_, fun k e o' hk ho => ?_⟩
      · cases k with
        | zero =>
          simp only [List.getElem?_cons_zero, Option.some.injEq] at hk
          subst hk
          obtain ⟨a1, a2⟩ := hnw hn
          omega
        | succ k =>
          have := s6 k e (by simpa using hk) hn
          omega
      · cases k with
        | zero => omega
        | succ k =>
          have hk' : S[k]? = some f := by simpa using hk
          cases j with
          | zero =>
            simp only [List.getElem?_cons_zero, Option.some.injEq] at hj
            subst hj
            obtain ⟨a1, a2⟩ := hnw hn
            have := s6 k f hk' hn'
            omega
          | succ j => exact s7 j k e f (by simpa using hj) hk' (by omega) hn hn'
      · cases k with
        | zero =>
          simp only [List.getElem?_cons_zero, Option.some.injEq] at hk ho
          subst hk ho
          exact hst
        | succ k =>
          have := s8 k e o' (by simpa using hk) (by simpa using ho)
          rw [show i + 1 + k = i + (k + 1) by omega] at this
          simp only [List.take_succ_cons]
          rw [tmF, hpF, ← hH1]
          exact this
    simp only [seqD] at h
    cases hw : wantV ops tm o ad with
    | none => rw [hw] at h; cases h
    | some p =>
      obtain ⟨b, ad1, q0⟩ := p
      rw [hw] at h
      cases b with
      | false =>
        dsimp only at h
        cases hs : seqD C call ops masks (i + 1) rest (setT tm o.dst (.tup [])) H ad1 with
        | none => rw [hs] at h; cases h
        | some p =>
          obtain ⟨tm2, H2, ad2, q2, qs, fs2⟩ := p
          rw [hs] at h
          simp only [Option.some.injEq, Prod.mk.injEq] at h
          obtain ⟨rfl, rfl, rfl, rfl, rfl, rfl⟩ := h
          rw [Bool.and_eq_true] at hq
          obtain ⟨rfl, hq⟩ := hq
          refine build ⟨o.dst, { v := .tup [] }, H.length⟩ H rfl (Nat.le_refl _) (fun h => (h rfl).elim) ⟨rfl, .inl ⟨ad, ad1, hw, rfl⟩⟩ fs2 rfl ?_
          exact seqD_trace rest (i + 1) _ _ _ _ _ _ _ _ _ hs hq hp
      | true =>
        dsimp only at h
        cases hop : opV C call tm (maskH H (masks.getD i [])) H.length o.op ad1 with
        | none => rw [hop] at h; cases h
        | some p =>
          obtain ⟨r, ad2, ps1⟩ := p
          rw [hop] at h
          dsimp only at h
          cases hu : r.up with
          | some _ => rw [hu] at h; cases h
          | none =>
            rw [hu] at h
            dsimp only at h
            split at h
            case isFalse => cases h
            rename_i hdl
            cases hs : seqD C call ops masks (i + 1) rest (setT tm o.dst r.v) (r.heap H) ad2 with
            | none => rw [hs] at h; cases h
            | some p =>
              obtain ⟨tm2, H2, ad3, q2, qs, fs2⟩ := p
              rw [hs] at h
              simp only [Option.some.injEq, Prod.mk.injEq] at h
              obtain ⟨rfl, rfl, rfl, rfl, rfl, rfl⟩ := h
              simp only [Bool.and_eq_true] at hq
              obtain ⟨rfl, hr, hq⟩ := hq
              obtain ⟨hp1, hp2⟩ := allP_append.1 hp
              have hal : ∀ id, id ∈ r.dl.map (·.1) → (look (maskH H (masks.getD i [])) id).alive = true := fun id hid => List.all_eq_true.1 hdl id hid
              have hlt : ∀ id, id ∈ r.dl.map (·.1) → id < H.length := fun id hid => by
                obtain ⟨_, h2⟩ := look_maskH (hal id hid)
                have := hal id hid
                rw [h2] at this
                exact lt_of_alive this
              have hl : H.length ≤ (r.heap H).length ∧ (r.nw ≠ none → H.length < (r.heap H).length) := (heap_ok (List.all_eq_true.2 fun x hx => decide_eq_true (hlt x hx))).2 hu
              refine build ⟨o.dst, r, H.length⟩ (r.heap H) (upd_heap hu hlt) hl.1 (fun h => ⟨rfl, hl.2 h⟩) ⟨rfl, .inr ⟨ad, ad1, ad2, ps1, _, hw, hop, hr, hp1, hu, fun id ha => ?_, hal⟩⟩ fs2 rfl ?_
              · obtain ⟨h1, h2⟩ := look_maskH ha
                exact ⟨h1, h2.symm⟩
              · exact seqD_trace rest (i + 1) _ _ _ _ _ _ _ _ _ hs hq hp2

end Go.Vi
