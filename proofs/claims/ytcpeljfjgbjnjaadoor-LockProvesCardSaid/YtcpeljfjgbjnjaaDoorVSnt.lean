/- The evaluator is sound: operations, regions in the order of their text. -/
import Derived.Test.YtcpeljfjgbjnjaaDoorVSnd
namespace Go.Vi
open Go.RowKit

def CallSnd (C : Cfg) (call : CallV) : Prop := ∀ f args H ad rs H' ad' q ps, call f args H ad = some (rs, H', ad', q, ps) → q = true → allP ps → GCalls C f args H rs H'
theorem gcall_post {C : Cfg} {X : Cx} {w : World} (O : Ok C X w) {f : FuncId} {args rs : List V} {us : List Value} {H' : List Ent} (slot : Nat) (r : Res) (hv : r.v = pack rs) (hup : r.up = some H') (ha : RepL X w args (.vals us)) (h : GCalls C f args X.H rs H') :
    Invokes C.P f us.toArray w fun v w' => OpPost X w slot r v w' := by
  have h2 := h X w us O rfl ha
  have mono : ∀ v w', (∃ X', X'.H = H' ∧ Ok C X' w' ∧ Later (X.below X.H.length) w (X'.below X.H.length) w' ∧ Rep X' w' (pack rs) (.val v)) → OpPost X w slot r v w' := by
    rintro v w' ⟨X', h1, O', L, hr⟩ H'' hH _
    unfold Res.HeapOk at hH
    rw [hup] at hH
    have hH : H'' = H' := hH
    subst hH
    exact ⟨X', h1, later_of_call O.lt L, O'.ents, by rw [hv]; exact hr, fun _ => O'.lt, fun h => by rw [hup] at h; cases h⟩
  unfold Invokes at h2 ⊢
  split at h2
  · exact mono _ _ h2
  · refine Calls.mono h2 ?_
    rintro e w'' ⟨v, rfl, hR⟩
    exact ⟨v, rfl, mono _ _ hR⟩
  · exact h2.elim
theorem repL_append_of {X : Cx} {w : World} {l m : List V} {vs us : List Value} (h1 : RepL X w l (.vals vs)) (h2 : RepL X w m (.vals us)) : RepL X w (l ++ m) (.vals (vs ++ us)) := repL_append_vals h1 h2
/-- A call of a function value, in the machine. -/
theorem call_wp {P : Program} {o : Oper} {a : Act} {w : World} {c : Call} {x : Operand} {f : FuncId} {cs : Array Value} {K : Act → World → Prop} {Q : Exit → Act → World → Prop} (ho : o.op = .call c) (hc : c.callee = .value x) (hx : a.eval x = .func (.func f) #[] cs)
    (h : Invokes P f ((c.args.toList.map a.eval) ++ cs.toList).toArray w fun v w' => K (a.put o.dst v) w') : o.wp P a w K Q := by
  have harr : (((c.args.toList.map a.eval) ++ cs.toList).toArray : Array Value) = (#[] ++ c.args.map a.eval) ++ cs := by
    apply Array.toList_inj.1
    simp
  have hrun : (execOp a.eval o).run P w = (callFunc f (((c.args.toList.map a.eval) ++ cs.toList).toArray)).run P w := by
    rw [harr]
    obtain ⟨dst, op, type, pos, after, guard⟩ := o
    simp only at ho
    subst ho
    simp only [execOp, resolve, hc, hx, Deferred.ofValue, Sem.run_bind, Sem.run_pure, Result.andThen_ok, invoke]
  unfold Oper.wp
  rw [hrun]
  unfold Invokes at h
  split at h
  · rename_i v w' e
    rw [e]
    exact h
  · rename_i g us w' e
    rw [e]
    refine Calls.mono h ?_
    rintro e w'' ⟨v, rfl, hR⟩
    exact hR
  · exact h.elim
theorem done_wp {P : Program} {o : Oper} {a : Act} {w w' : World} {v : Value} {K : Act → World → Prop} {Q : Exit → Act → World → Prop} (h : Done P a o w v w') (hK : K (a.put o.dst v) w') : o.wp P a w K Q := by
  unfold Oper.wp
  rcases h with h | ⟨h, rfl⟩
  · rw [h]; exact hK
  · rw [h]; exact hK
theorem opV_sound {C : Cfg} (hC : CfgOk C) {call : CallV} (hcall : CallSnd C call) {X : Cx} {w : World} (O : Ok C X w) {slot : Nat} (hs : ¬ X.ok slot) {tm : List V} {a : Act} (ha : RepL X w tm (.vals a.tmps.toList)) {o : Oper} {ad ad' : Ad} {r : Res} {ps : List Prop}
    (h : opV C call tm X.H slot o.op ad = some (r, ad', ps)) (hr : r.req = true) (hp : allP ps) {K : Act → World → Prop} {Q : Exit → Act → World → Prop} (hK : ∀ v w', OpPost X w slot r v w' → K (a.put o.dst v) w') : o.wp C.P a w K Q := by
  have plain : ∀ (fl : Bool) (r' : Res), opE fl C tm X.H slot o.op = some r' → r = r' → o.wp C.P a w K Q := by
    rintro fl r' h1 rfl
    obtain ⟨v, w', h2, h3⟩ := op_sound hC.tab O.globs O.ents hs ha h1 hr
    exact done_wp h2 (hK v w' h3)
  have R := opd_rep O.globs ha
  unfold opV at h
  split at h
  · rename_i c x y hop
    cases hc : opd C tm c <;> rw [hc] at h <;> first | (cases h; done) | skip
    rename_i t
    have hcv := R c
    rw [hc] at hcv
    have hcv := rep_bool hcv
    cases ad with
    | nil => cases h
    | cons d ad =>
      cases d <;> first | (cases h; done) | skip
      · simp only [Option.some.injEq, Prod.mk.injEq] at h
        obtain ⟨rfl, rfl, rfl⟩ := h
        have hr : t = true := hr
        subst hr
        refine done_wp (v := a.eval x) (.inl ?_) (hK _ _ (.pure O.ents rfl rfl (R x)))
        obtain ⟨dst, op, type, pos, after, guard⟩ := o
        simp only at hop
        subst hop
        simp only [execOp, hcv, asBool, Sem.run_bind, Sem.run_pure, Result.andThen_ok, if_true]
      · simp only [Option.some.injEq, Prod.mk.injEq] at h
        obtain ⟨rfl, rfl, rfl⟩ := h
        have hr : (!t) = true := hr
        have ht : t = false := by cases t <;> first | rfl | cases hr
        subst ht
        refine done_wp (v := a.eval y) (.inl ?_) (hK _ _ (.pure O.ents rfl rfl (R y)))
        obtain ⟨dst, op, type, pos, after, guard⟩ := o
        simp only at hop
        subst hop
        simp only [execOp, hcv, asBool, Sem.run_bind, Sem.run_pure, Result.andThen_ok, Bool.false_eq_true, if_false]
  · rename_i c hop
    split at h
    · split at h
      · cases he : opE true C tm X.H slot (.call c) with
        | none => rw [he] at h; cases h
        | some r' =>
          rw [he] at h
          simp only [Option.some.injEq, Prod.mk.injEq] at h
          exact plain true r' (by rw [hop]; exact he) h.1.symm
      · cases he : opE false C tm X.H slot (.call c) with
        | none => rw [he] at h; cases h
        | some r' =>
          rw [he] at h
          simp only [Option.some.injEq, Prod.mk.injEq] at h
          exact plain false r' (by rw [hop]; exact he) h.1.symm
    · cases hce : callee C tm c with
      | none => rw [hce] at h; cases h
      | some p =>
        obtain ⟨f, args⟩ := p
        rw [hce] at h
        dsimp only at h
        unfold callee at hce
        split at hce
        case h_2 => cases hce
        rename_i x hcx
        cases hx : opd C tm x <;> rw [hx] at hce <;> first | (cases hce; done) | skip
        rename_i k caps
        simp only [Option.some.injEq, Prod.mk.injEq] at hce
        obtain ⟨rfl, rfl⟩ := hce
        have hxv := R x
        rw [hx] at hxv
        unfold Rep holds at hxv
        obtain ⟨cs, hxe, hcs⟩ := hxv
        have hargs := repL_append_of (args_rep O.globs ha c.args.toList) hcs
        split at h
        · rename_i rs ad2
          cases hv : views X.H ((c.args.toList.map (opd C tm)) ++ caps) with
          | none => rw [hv] at h; cases h
          | some pv =>
            obtain ⟨vs, q⟩ := pv
            rw [hv] at h
            dsimp only at h
            split at h
            case isFalse => cases h
            rename_i hod
            simp only [Option.some.injEq, Prod.mk.injEq] at h
            obtain ⟨rfl, rfl, rfl⟩ := h
            have := pcall_post hC O slot hv hr hod hargs hp.1
            refine call_wp hop hcx hxe ?_
            have mono : ∀ v w', OpPost X w slot { v := pack rs, dl := if sliceyL rs then kills X.H ((c.args.toList.map (opd C tm)) ++ caps) else [] } v w' → K (a.put o.dst v) w' := fun v w' hh => hK v w' hh
            unfold Invokes at this ⊢
            split at this
            · exact mono _ _ this
            · refine Calls.mono this ?_
              rintro e w'' ⟨v, rfl, hR⟩
              exact ⟨v, rfl, mono _ _ hR⟩
            · exact this.elim
        · rename_i rs H' ad2
          simp only [Option.some.injEq, Prod.mk.injEq] at h
          obtain ⟨rfl, rfl, rfl⟩ := h
          have := gcall_post O slot { v := pack rs, up := some H' } rfl rfl hargs hp.1
          refine call_wp hop hcx hxe ?_
          unfold Invokes at this ⊢
          split at this
          · exact hK _ _ this
          · refine Calls.mono this ?_
            rintro e w'' ⟨v, rfl, hR⟩
            exact ⟨v, rfl, hK _ _ hR⟩
          · exact this.elim
        · rename_i ad2
          cases hcl : call k ((c.args.toList.map (opd C tm)) ++ caps) X.H ad2 with
          | none => rw [hcl] at h; cases h
          | some pr =>
            obtain ⟨rs, H', ad3, q, ps'⟩ := pr
            rw [hcl] at h
            simp only [Option.some.injEq, Prod.mk.injEq] at h
            obtain ⟨rfl, rfl, rfl⟩ := h
            have := gcall_post O slot { v := pack rs, up := some H', req := q } rfl rfl hargs (hcall _ _ _ _ _ _ _ _ _ hcl hr hp)
            refine call_wp hop hcx hxe ?_
            unfold Invokes at this ⊢
            split at this
            · exact hK _ _ this
            · refine Calls.mono this ?_
              rintro e w'' ⟨v, rfl, hR⟩
              exact ⟨v, rfl, hK _ _ hR⟩
            · exact this.elim
        · cases h
  · cases he : opE false C tm X.H slot o.op with
    | none => rw [he] at h; cases h
    | some r' =>
      rw [he] at h
      simp only [Option.some.injEq, Prod.mk.injEq] at h
      exact plain false r' he h.1.symm

/-! ### temporaries -/
theorem repL_set {X : Cx} {w : World} : ∀ {l : List V} {vs : List Value} (t : Nat) {x : V} {v : Value}, RepL X w l (.vals vs) → Rep X w x (.val v) → RepL X w (l.set t x) (.vals (vs.set t v))
  | [], vs, t, x, v, h, _ => by
    unfold RepL at h
    subst h
    simp only [List.set_nil]
    unfold RepL
    rfl
  | y :: ys, vs, t, x, v, h, hx => by
    unfold RepL at h
    obtain ⟨u, us, rfl, hy, hys⟩ := h
    cases t with
    | zero =>
      simp only [List.set_cons_zero]
      unfold RepL
      exact ⟨v, us, rfl, hx, hys⟩
    | succ t =>
      simp only [List.set_cons_succ]
      unfold RepL
      exact ⟨u, _, rfl, hy, repL_set t hys hx⟩
theorem repL_put {X : Cx} {w : World} {tm : List V} {a : Act} (d : Option Tmp) {x : V} {v : Value} (h : RepL X w tm (.vals a.tmps.toList)) (hx : Rep X w x (.val v)) : RepL X w (setT tm d x) (.vals (a.put d v).tmps.toList) := by
  cases d with
  | none => exact h
  | some t =>
    have := repL_set t h hx
    simpa [setT, Act.put] using this
theorem put_defers' (a : Act) (d : Option Tmp) (v : Value) : (a.put d v).defers = a.defers := by cases d <;> rfl

theorem rep_skip {X : Cx} {w : World} : Rep X w (.tup []) (.val undef) := by
  unfold Rep
  exact ⟨#[], rfl, by simp [RepL]⟩
theorem want_sound {X : Cx} {w : World} {ops : Array Oper} {tm : List V} {a : Act} (ha : RepL X w tm (.vals a.tmps.toList)) {o : Oper} {ad ad' : Ad} {b q : Bool} (h : wantV ops tm o ad = some (b, ad', q)) (hq : q = true) :
    Region.wanted o (yielded ops a.tmps) = b := by
  unfold wantV at h
  unfold Region.wanted
  cases hg : o.guard with
  | none =>
    rw [hg] at h
    simp only [Option.some.injEq, Prod.mk.injEq] at h
    exact h.1
  | some jw =>
    obtain ⟨j, want⟩ := jw
    rw [hg] at h
    dsimp only at h ⊢
    unfold yielded
    cases ht : (ops[j]?).bind (·.dst) with
    | none => rw [ht] at h; cases h
    | some t =>
      rw [ht] at h
      dsimp only at h
      simp only [Option.bind_some]
      have hlt : ∀ y, tm.getD t .undef = y → y ≠ .undef → ∃ v, a.tmps[t]? = some v ∧ Rep X w y (.val v) := by
        intro y hy hn
        have hlt : t < tm.length := by
          apply Classical.byContradiction
          intro hge
          rw [List.getD_eq_getElem?_getD, List.getElem?_eq_none (Nat.le_of_not_lt hge)] at hy
          exact hn hy.symm
        obtain ⟨v, h1, h2⟩ := ha.get t y (by rw [← hy, List.getD_eq_getElem?_getD, List.getElem?_eq_getElem hlt]; rfl)
        exact ⟨v, by simpa using h1, h2⟩
      cases hb : tm.getD t .undef <;> rw [hb] at h <;> first | (cases h; done) | skip
      · rename_i c
        obtain ⟨v, h1, h2⟩ := hlt _ hb (by simp)
        have h2 := rep_bool h2
        subst h2
        rw [h1]
        cases ad with
        | nil => cases h
        | cons d ad =>
          cases d <;> first | (cases h; done) | skip
          · simp only [Option.some.injEq, Prod.mk.injEq] at h
            obtain ⟨rfl, rfl, rfl⟩ := h
            cases want <;> cases c <;> simp_all [gd]
          · simp only [Option.some.injEq, Prod.mk.injEq] at h
            obtain ⟨rfl, rfl, rfl⟩ := h
            cases want <;> cases c <;> simp_all [gd]
      · rename_i l
        obtain ⟨v, h1, h2⟩ := hlt _ hb (by simp)
        unfold Rep at h2
        obtain ⟨vs, rfl, _⟩ := h2
        rw [h1]
        simp only [Option.some.injEq, Prod.mk.injEq] at h
        obtain ⟨rfl, rfl, rfl⟩ := h
        cases want <;> rfl

/-! ### heaps -/
theorem setAll_len (H : List Ent) : ∀ (l : List (Nat × Ent)), (setAll H l).length = H.length
  | [] => rfl
  | (i, e) :: l => by rw [setAll, List.length_set, setAll_len H l]
theorem look_setAll {H : List Ent} (id : Nat) : ∀ {l : List (Nat × Ent)}, (l.map (·.1)).all (fun d => decide (d < H.length)) = true → look (setAll H l) id = dlook H id l
  | [], _ => rfl
  | (i, e) :: l, h => by
    simp only [List.map_cons, List.all_cons, Bool.and_eq_true, decide_eq_true_eq] at h
    rw [setAll, look_set _ _ _ (by rw [setAll_len]; exact h.1), dlook, look_setAll id h.2]
theorem look_snoc (H : List Ent) (e : Ent) (id : Nat) : look (H ++ [e]) id = if id = H.length then e else look H id := by
  unfold look
  rw [List.getD_eq_getElem?_getD, List.getD_eq_getElem?_getD]
  by_cases h : id < H.length
  · rw [List.getElem?_append_left h, if_neg (by omega)]
  · rw [List.getElem?_append_right (by omega)]
    by_cases h' : id = H.length
    · subst h'; simp
    · rw [if_neg h', List.getElem?_eq_none (by simp; omega), List.getElem?_eq_none (by omega)]
theorem heap_ok {r : Res} {H : List Ent} (h : (r.dl.map (·.1)).all (fun d => decide (d < H.length)) = true) : r.HeapOk H.length H (r.heap H) ∧ (r.up = none → H.length ≤ (r.heap H).length ∧ (r.nw ≠ none → H.length < (r.heap H).length)) := by
  unfold Res.HeapOk Res.heap
  cases hu : r.up with
  | some H1 => exact ⟨rfl, fun h => by cases h⟩
  | none =>
    cases hn : r.nw with
    | none => exact ⟨fun id => look_setAll id h, fun _ => ⟨by rw [setAll_len]; exact Nat.le_refl _, fun h => (h rfl).elim⟩⟩
    | some e =>
      refine ⟨fun id => ?_, fun _ => ⟨by rw [List.length_append, setAll_len]; omega, fun _ => by rw [List.length_append, setAll_len]; simp⟩⟩
      rw [look_snoc, setAll_len, look_setAll id h]

/-! ### a region in the order of its text -/
theorem allP_append {l m : List Prop} : allP (l ++ m) ↔ allP l ∧ allP m := by
  induction l with
  | nil => exact ⟨fun h => ⟨trivial, h⟩, fun h => h.2⟩
  | cons p l ih =>
    constructor
    · intro h
      exact ⟨⟨h.1, (ih.1 h.2).1⟩, (ih.1 h.2).2⟩
    · rintro ⟨⟨h1, h2⟩, h3⟩
      exact ⟨h1, ih.2 ⟨h2, h3⟩⟩
theorem range_cons (i n : Nat) : List.range' i (n + 1) = i :: List.range' (i + 1) n := rfl
theorem seqV_sound {C : Cfg} (hC : CfgOk C) {call : CallV} (hcall : CallSnd C call) {ops : Array Oper} {Q : Exit → Act → World → Prop} : ∀ (rest : List Oper) (i : Nat) (tm : List V) (H : List Ent) (ad : Ad) (tm' : List V) (H' : List Ent) (ad' : Ad) (q : Bool) (ps : List Prop),
    ops.toList.drop i = rest → seqV C call ops rest tm H ad = some (tm', H', ad', q, ps) → q = true → allP ps → ∀ (X : Cx) (w : World) (a : Act), StOk C X w a ⟨tm, H⟩ →
    (∀ X' w' a', StOk C X' w' a' ⟨tm', H'⟩ → Later X w X' w' → a'.defers = a.defers → Q .normal a' w') → wpOps C.P ops Q (List.range' i rest.length) a w
  | [], i, tm, H, ad, tm', H', ad', q, ps, _, h, _, _, X, w, a, S, hQ => by
    simp only [seqV, Option.some.injEq, Prod.mk.injEq] at h
    obtain ⟨rfl, rfl, rfl, rfl, rfl⟩ := h
    exact hQ X w a S (.refl X w) rfl
  | o :: rest, i, tm, H, ad, tm', H', ad', q, ps, hd, h, hq, hp, X, w, a, S, hQ => by
    obtain ⟨O, hXH, ha⟩ := S
    have hXH : X.H = H := hXH
    subst hXH
    have hlt : i < ops.toList.length := by
      apply Classical.byContradiction
      intro hn
      rw [List.drop_eq_nil_of_le (by omega)] at hd
      cases hd
    have hoi : ops[i]? = some o := by
      have : (ops.toList.drop i)[0]? = some o := by rw [hd]; rfl
      simpa using this
    have hd' : ops.toList.drop (i + 1) = rest := by rw [← List.tail_drop, hd]; rfl
    rw [List.length_cons, range_cons]
    simp only [wpOps, hoi]
    simp only [seqV] at h
    cases hw : wantV ops tm o ad with
    | none => rw [hw] at h; cases h
    | some p =>
      obtain ⟨b, ad1, q0⟩ := p
      rw [hw] at h
      cases b with
      | false =>
        dsimp only at h
        cases hs : seqV C call ops rest (setT tm o.dst (.tup [])) X.H ad1 with
        | none => rw [hs] at h; cases h
        | some p =>
          obtain ⟨tm2, H2, ad2, q2, qs⟩ := p
          rw [hs] at h
          simp only [Option.some.injEq, Prod.mk.injEq] at h
          obtain ⟨rfl, rfl, rfl, rfl, rfl⟩ := h
          rw [Bool.and_eq_true] at hq
          have hwant := want_sound ha hw hq.1
          rw [hwant]
          simp only [Bool.false_eq_true, if_false]
          exact seqV_sound hC hcall rest (i + 1) _ _ _ _ _ _ _ _ hd' hs hq.2 hp X w _ ⟨O, rfl, repL_put o.dst ha rep_skip⟩ (fun X' w' a' S' L' hdf => hQ X' w' a' S' L' (hdf.trans (put_defers' a _ _)))
      | true =>
        dsimp only at h
        cases hop : opV C call tm X.H X.H.length o.op ad1 with
        | none => rw [hop] at h; cases h
        | some p =>
          obtain ⟨r, ad2, ps1⟩ := p
          rw [hop] at h
          dsimp only at h
          split at h
          case isFalse => cases h
          rename_i hdl
          cases hs : seqV C call ops rest (setT tm o.dst r.v) (r.heap X.H) ad2 with
          | none => rw [hs] at h; cases h
          | some p =>
            obtain ⟨tm2, H2, ad3, q2, qs⟩ := p
            rw [hs] at h
            simp only [Option.some.injEq, Prod.mk.injEq] at h
            obtain ⟨rfl, rfl, rfl, rfl, rfl⟩ := h
            simp only [Bool.and_eq_true] at hq
            obtain ⟨hp1, hp2⟩ := allP_append.1 hp
            have hwant := want_sound ha hw hq.1
            rw [hwant]
            simp only [if_true]
            refine .inl (opV_sound hC hcall O (fun hok => by have := O.lt _ hok; omega) ha hop hq.2.1 hp1 (fun v w1 hpost => ?_))
            obtain ⟨k1, k2⟩ := heap_ok hdl
            obtain ⟨X1, x1, L1, E1, r1, o1, _⟩ := hpost (r.heap X.H) k1 k2
            exact seqV_sound hC hcall rest (i + 1) _ _ _ _ _ _ _ _ hd' hs hq.2.2 hp2 X1 w1 _ ⟨⟨E1, o1 O.lt, O.globs.later L1⟩, x1, repL_put o.dst (ha.later' L1) r1⟩
              (fun X' w' a' S' L' hdf => hQ X' w' a' S' (L1.trans L') (hdf.trans (put_defers' a _ _)))

end Go.Vi
