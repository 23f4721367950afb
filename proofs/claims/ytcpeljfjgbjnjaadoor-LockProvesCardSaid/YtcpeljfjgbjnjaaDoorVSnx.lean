/- Functions: contracts out of the evaluator. -/
import Derived.Test.YtcpeljfjgbjnjaaDoorVSnw
namespace Go.Vi
open Go.RowKit

section
variable {C : Cfg} {X : Cx} {w : World}
theorem load_ptr {T : Ty} {t : TypeId} {x : V} {va : Value} {r : Res} (E : Ents X w) (h : loadE T X.H t x = some r) (hr : r.req = true) (ha : Rep X w x (.val va)) : ∃ ad, va = .pointer (some ad) := by
  unfold loadE at h
  cases hi : T t with
  | none => rw [hi] at h; cases h
  | some i =>
    rw [hi] at h
    cases x with
    | ref id off =>
      dsimp only at h
      cases he : entRead (look X.H id) off i with
      | none => rw [he] at h; cases h
      | some p =>
        obtain ⟨cs, q⟩ := p
        rw [he] at h
        simp only [Option.some.injEq] at h
        subst h
        exact ⟨_, rep_ref (entRead_row E he hr).1 ha⟩
    | cref l =>
      unfold Rep at ha
      obtain ⟨b, o, rfl, _⟩ := ha
      exact ⟨_, rfl⟩
    | _ => cases h
/-- how a result is read -/
def resSem (tmps : Array Value) : ResultVar → Sem Value
  | .tmp t => pure (tmps.getD t undef)
  | .cell a t => do loadVar t (← asAddr (tmps.getD a undef))
theorem results_list (hC : CfgOk C) (O : Ok C X w) {tm : List V} {a : Act} (ha : RepL X w tm (.vals a.tmps.toList)) : ∀ (l : List ResultVar) (rs : List V) (q : Bool), resultE C.ty ⟨tm, X.H⟩ l = some (rs, q) → q = true →
    ∃ vs, (l.mapM (resSem a.tmps)).run C.P w = .ok vs w ∧ RepL X w rs (.vals vs)
  | [], rs, q, h, _ => by
    simp only [resultE, Option.some.injEq, Prod.mk.injEq] at h
    obtain ⟨rfl, rfl⟩ := h
    exact ⟨[], rfl, by unfold RepL; rfl⟩
  | r :: l, rs, q, h, hq => by
    simp only [resultE] at h
    have one : ∀ (e : Res), res1E C.ty ⟨tm, X.H⟩ r = some e → e.req = true → ∃ v, (resSem a.tmps r).run C.P w = .ok v w ∧ Rep X w e.v (.val v) := by
      intro e he hr
      cases r with
      | tmp t =>
        simp only [res1E, Option.some.injEq] at he
        subst he
        exact ⟨_, rfl, opd_rep O.globs ha (.tmp t)⟩
      | cell b t =>
        have hb := opd_rep O.globs ha (.tmp b)
        have hb : Rep X w (tm.getD b .undef) (.val (a.tmps.getD b undef)) := hb
        obtain ⟨ad, had⟩ := load_ptr O.ents he hr hb
        obtain ⟨_, _, v, h3, h4⟩ := load_sound (P := C.P) hC.tab O.ents he hr hb
        refine ⟨v, ?_, h4⟩
        rw [had] at h3
        simp only [resSem, had, asAddr, Sem.run_bind, Sem.run_pure, Result.andThen_ok]
        simpa [Instr.loadAt, Instr.sureAddr] using h3
    cases h1 : res1E C.ty ⟨tm, X.H⟩ r with
    | none => rw [h1] at h; cases h
    | some e =>
      rw [h1] at h
      cases h2 : resultE C.ty ⟨tm, X.H⟩ l with
      | none => rw [h2] at h; cases h
      | some p =>
        obtain ⟨us, q'⟩ := p
        rw [h2] at h
        simp only [Option.some.injEq, Prod.mk.injEq] at h
        obtain ⟨rfl, rfl⟩ := h
        rw [Bool.and_eq_true] at hq
        obtain ⟨v, k1, k2⟩ := one e h1 hq.1
        obtain ⟨vs, k3, k4⟩ := results_list hC O ha l us q' h2 hq.2
        refine ⟨v :: vs, ?_, by unfold RepL; exact ⟨v, vs, rfl, k2, k4⟩⟩
        simp only [List.mapM_cons, Sem.run_bind, k1, k3, Result.andThen_ok, Sem.run_pure]
theorem pack_of {rs : List V} {vs : List Value} (h : RepL X w rs (.vals vs)) : Rep X w (pack rs) (.val (if h : vs.toArray.size = 1 then vs.toArray[0] else .tuple vs.toArray)) := by
  match rs, h with
  | [], h =>
    unfold RepL at h
    subst h
    show Rep X w (.tup []) _
    unfold Rep
    exact ⟨#[], rfl, by unfold RepL; rfl⟩
  | [x], h =>
    unfold RepL at h
    obtain ⟨v, vs', rfl, hx, hn⟩ := h
    unfold RepL at hn
    subst hn
    exact hx
  | x :: y :: l, h =>
    have hl := h.len
    have : ¬ vs.toArray.size = 1 := by simp at hl ⊢; omega
    rw [dif_neg this]
    show Rep X w (.tup (x :: y :: l)) _
    unfold Rep
    exact ⟨vs.toArray, rfl, h⟩
theorem results_sound (hC : CfgOk C) (O : Ok C X w) {fn : Func} {tm : List V} {a : Act} (ha : RepL X w tm (.vals a.tmps.toList)) {rs : List V} {q : Bool} (h : resultE C.ty ⟨tm, X.H⟩ fn.results.toList = some (rs, q)) (hq : q = true) :
    ∃ v, (results fn a.tmps).run C.P w = .ok v w ∧ Rep X w (pack rs) (.val v) := by
  obtain ⟨vs, h1, h2⟩ := results_list hC O ha fn.results.toList rs q h hq
  refine ⟨_, ?_, pack_of h2⟩
  have e : results fn a.tmps = (do let vs ← fn.results.mapM (resSem a.tmps); pure (if h : vs.size = 1 then vs[0] else .tuple vs)) := by
    unfold results
    congr 1
  rw [e, Sem.run_bind, Array.mapM_eq_mapM_toList, Sem.run_map, h1]
  rfl
end

theorem run_callFunc {C : Cfg} (hC : CfgOk C) {f : FuncId} {fn : Func} {c : Code} (hf : C.P.funcs[f]? = some fn) (hb : fn.body = some c) (vs : Array Value) (w : World) : (callFunc f vs).run C.P w = .ok (.enter f vs) w := by
  have hn : ¬ fn.name = "runtime.NumGoroutine" := by simpa using hC.num f fn hf
  unfold callFunc
  simp [hf, hn, hb]
theorem runV_sound {C : Cfg} (hC : CfgOk C) (hD : DrawSnd C) : ∀ n, CallSnd C (runV C n)
  | 0 => fun f args H ad rs H' ad' q ps h _ _ => by cases h
  | n + 1 => by
    intro f args H ad rs H' ad' q ps h hq hp
    have ih := runV_sound hC hD n
    simp only [runV] at h
    cases hf : C.P.funcs[f]? with
    | none => rw [hf] at h; cases h
    | some fn =>
      rw [hf] at h
      dsimp only at h
      cases hb : fn.body with
      | none => rw [hb] at h; cases h
      | some c =>
        rw [hb] at h
        dsimp only at h
        generalize hE : ({ f := f, base := H.length, fuel := 1000, live := C.live f } : Env) = E at h
        have hroot : bodyOf C.P E.f = some c := by
          subst hE
          unfold bodyOf
          simp only [hf]
          exact hb
        have hbase : E.base = H.length := by subst hE; rfl
        cases he : evV C (runV C n) E c [] 0 (enterV fn args) H ad with
        | none => rw [he] at h; cases h
        | some r =>
          obtain ⟨x, tm1, H1, ad1, q1, ps1⟩ := r
          rw [he] at h
          have main : (x = .normal ∨ x = .ret) → (match resultE C.ty ⟨tm1, H1⟩ fn.results.toList with
              | some (rs, q') => some (rs, H1, ad1, q1 && q', ps1)
              | none => none) = some (rs, H', ad', q, ps) → GCalls C f args H rs H' := by
            intro hx h
            cases hr : resultE C.ty ⟨tm1, H1⟩ fn.results.toList with
            | none => rw [hr] at h; cases h
            | some p =>
              obtain ⟨rs', q'⟩ := p
              rw [hr] at h
              simp only [Option.some.injEq, Prod.mk.injEq] at h
              obtain ⟨rfl, rfl, rfl, rfl, rfl⟩ := h
              rw [Bool.and_eq_true] at hq
              have G := evV_sound hC hD ih hroot c [] 0 _ _ _ _ _ _ _ _ _ he hq.1 hp rfl
              intro X w vs O hX ha
              unfold Invokes
              rw [run_callFunc hC hf hb]
              refine calls_of_wp hf hb ?_
              have hS : StOk C X w { tmps := vs.toArray ++ Array.replicate (fn.ntmps - vs.toArray.size) undef, defers := [] } ⟨enterV fn args, H⟩ := by
                refine ⟨O, hX, ?_⟩
                have hlen := ha.len
                have : RepL X w (List.replicate (fn.ntmps - args.length) .undef) (.vals (List.replicate (fn.ntmps - args.length) undef)) := by
                  generalize fn.ntmps - args.length = k
                  induction k with
                  | zero => simp only [List.replicate_zero]; unfold RepL; rfl
                  | succ k ih => simp only [List.replicate_succ]; unfold RepL; exact ⟨_, _, rfl, rep_undef, ih⟩
                have := repL_append_vals ha this
                show RepL X w (args ++ List.replicate (fn.ntmps - args.length) .undef) _
                simpa [hlen] using this
              refine G X w _ hS _ fun X' w' a' S' L' d' => ?_
              obtain ⟨O', hX', ha'⟩ := S'
              have hX' : X'.H = H1 := hX'
              subst hX'
              obtain ⟨v, k1, k2⟩ := results_sound hC O' ha' hr hq.2
              rw [hbase] at L'
              have : bodyPost C.P fn (fun e w'' => ∃ v, e = .returned v ∧ ∃ X'', X''.H = X'.H ∧ Ok C X'' w'' ∧ Later (X.below H.length) w (X''.below H.length) w'' ∧ Rep X'' w'' (pack rs') (.val v)) .ret a' w' := ⟨d', v, k1, v, rfl, X', rfl, O', L', k2⟩
              rcases hx with rfl | rfl
              · exact this
              · exact this
          cases x with
          | normal => exact main (.inl rfl) h
          | ret => exact main (.inr rfl) h
          | exit i => cases h

theorem x0_ok {C : Cfg} {S : Nat → Prop} {w : World} (hS : ∀ b, S b → b < w.heap.size) (hG : Globs C (X0 S) w) : Ok C (X0 S) w := by
  have hd : ∀ id, look (X0 S).H id = .dead := fun id => rfl
  have hal : ∀ id, ¬ (X0 S).alive id := fun id h => by unfold Cx.alive at h; rw [hd] at h; cases h
  exact ⟨⟨fun id => by rw [hd]; trivial, fun id h => (hal id h).elim, fun i j hi => (hal i hi).elim, hS, fun i hi => (hal i hi).elim⟩, fun id h => h.elim, hG⟩
/-- A contract of data, out of a contract over an empty heap. -/
theorem pcalls_of_gcalls {C : Cfg} {f : FuncId} {args rs us : List V} {H' : List Ent} {q : Bool} (h : GCalls C f args [] rs H') (hv : views H' rs = some (us, q)) (hq : q = true) : PCalls C f args us := by
  intro S w vs hS hG ha
  have h1 := h (X0 S) w vs (x0_ok hS hG) rfl ha
  have mono : ∀ v w', (∃ X', X'.H = H' ∧ Ok C X' w' ∧ Later ((X0 S).below ([] : List Ent).length) w (X'.below ([] : List Ent).length) w' ∧ Rep X' w' (pack rs) (.val v)) → Below w.heap.size w w' ∧ Rep (X0 S) w' (pack us) (.val v) := by
    rintro v w' ⟨X', rfl, O, L, hr⟩
    refine ⟨⟨L.os, L.tape, L.output, L.size, fun k hk => L.same k ⟨hk, fun ⟨id, ha, _⟩ => by cases ha⟩⟩, ?_⟩
    have hst : ∀ b, Stable X' w' b → Stable (X0 S) w' b := fun b hb => ⟨⟨hb.1.1, fun ⟨id, ha, _⟩ => by cases ha⟩, fun hs => hb.2 ((L.ph b).2 hs)⟩
    have hid : ∀ id, X'.alive id → Stable (X0 S) w' (X'.ι id) := fun id ha => ⟨⟨O.ents.lt ha, fun ⟨id, ha, _⟩ => by cases ha⟩, fun hs => O.ents.nph id ha ((L.ph _).2 hs)⟩
    match rs, us, hv, hr with
    | [], us, hv, hr =>
      simp only [views, Option.some.injEq, Prod.mk.injEq] at hv
      obtain ⟨rfl, _⟩ := hv
      have hr : Rep X' w' (.tup []) (.val v) := hr
      unfold Rep at hr
      obtain ⟨ws, rfl, hl⟩ := hr
      show Rep (X0 S) w' (.tup []) _
      unfold Rep
      unfold RepL at hl ⊢
      exact ⟨ws, rfl, hl⟩
    | [x], us, hv, hr =>
      simp only [views] at hv
      cases hx : view X'.H x with
      | none => rw [hx] at hv; cases hv
      | some r =>
        rw [hx] at hv
        simp only [Option.some.injEq, Prod.mk.injEq] at hv
        obtain ⟨rfl, rfl⟩ := hv
        rw [Bool.and_eq_true] at hq
        exact view_rep O.ents hst x r v (fun id _ ha => hid id ha) hx hq.1 hr
    | x :: y :: l, us, hv, hr =>
      have hr : Rep X' w' (.tup (x :: y :: l)) (.val v) := hr
      unfold Rep at hr
      obtain ⟨ws, rfl, hl⟩ := hr
      have := views_rep O.ents hst (x :: y :: l) us q _ (fun id _ ha => hid id ha) hv hq hl
      have hlen : us.length = l.length + 2 := by rw [this.len, ← hl.len]; rfl
      match us, hlen, this with
      | a :: b :: m, _, this =>
        show Rep (X0 S) w' (.tup (a :: b :: m)) _
        unfold Rep
        exact ⟨ws, rfl, this⟩
  unfold Invokes at h1 ⊢
  split at h1
  · exact mono _ _ h1
  · refine Calls.mono h1 ?_
    rintro e w'' ⟨v, rfl, hR⟩
    exact ⟨v, rfl, mono _ _ hR⟩
  · exact h1.elim
theorem pcalls_of_run {C : Cfg} (hC : CfgOk C) (hD : DrawSnd C) {n : Nat} {f : FuncId} {args rs us : List V} {H' : List Ent} {ad ad' : Ad} {q q' : Bool} {ps : List Prop} (h : runV C n f args [] ad = some (rs, H', ad', q, ps)) (hv : views H' rs = some (us, q')) (hq : q = true) (hq' : q' = true) (hp : allP ps) : PCalls C f args us :=
  pcalls_of_gcalls (runV_sound hC hD n f args [] ad rs H' ad' q ps h hq hp) hv hq'

/-! ### loops -/
/-- A round of the loop at a place, from a tidied state to a tidied one. -/
def RoundOk (C : Cfg) (f : FuncId) (p : List Nat) (B : Nat) (lv : List Nat) (s : St) (x : Ex) (s' : St) : Prop :=
  ∃ c, (bodyOf C.P f).bind (codeAt · p) = some (.loop c) ∧ ∃ r, Good C B c s x r ∧ (match x with | .normal => tidy B lv r | _ => r) = s'
theorem round_ok {C : Cfg} (hC : CfgOk C) (hD : DrawSnd C) {n : Nat} {f : FuncId} {p : List Nat} {b B : Nat} {lv : List Nat} {tm tm' : List V} {H H' : List Ent} {ad ad' : Ad} {x : Ex} {q : Bool} {ps : List Prop}
    (h : roundV C n f p b B lv tm H ad = some (x, tm', H', ad', q, ps)) (hq : q = true) (hp : allP ps) : RoundOk C f p B lv ⟨tm, H⟩ x ⟨tm', H'⟩ := by
  unfold roundV at h
  split at h
  case h_2 => cases h
  rename_i c hc
  refine ⟨c, hc, ?_⟩
  cases hroot : bodyOf C.P f with
  | none => rw [hroot] at hc; cases hc
  | some root =>
    rw [hroot] at hc
    have hc : codeAt root p = some (.loop c) := hc
    have hcc : codeAt root (0 :: p) = some c := codeAt_child hc rfl
    cases he : evV C (runV C n) { f := f, base := B, fuel := 1000, live := C.live f } c (0 :: p) b tm H ad with
    | none => rw [he] at h; cases h
    | some r =>
      obtain ⟨x1, tm1, H1, ad1, q1, ps1⟩ := r
      rw [he] at h
      have G := fun hq hp => evV_sound hC hD (runV_sound hC hD n) (E := { f := f, base := B, fuel := 1000, live := C.live f }) hroot c (0 :: p) b _ _ _ _ _ _ _ _ _ he hq hp hcc
      cases x1 with
      | normal =>
        simp only [Option.some.injEq, Prod.mk.injEq] at h
        obtain ⟨rfl, rfl, rfl, rfl, rfl, rfl⟩ := h
        exact ⟨_, G hq hp, rfl⟩
      | exit i =>
        simp only [Option.some.injEq, Prod.mk.injEq] at h
        obtain ⟨rfl, rfl, rfl, rfl, rfl, rfl⟩ := h
        exact ⟨_, G hq hp, rfl⟩
      | ret =>
        simp only [Option.some.injEq, Prod.mk.injEq] at h
        obtain ⟨rfl, rfl, rfl, rfl, rfl, rfl⟩ := h
        exact ⟨_, G hq hp, rfl⟩
theorem loop_ok {C : Cfg} (hC : CfgOk C) {f : FuncId} {p : List Nat} {B : Nat} (lv : List Nat) {tm tm' : List V} {H H' : List Ent} {x : Ex} (hx : x ≠ .normal) (n : Nat) (T : Nat → St) (h0 : tidy B lv ⟨tm, H⟩ = T 0)
    (hr : ∀ k, k < n → RoundOk C f p B lv (T k) .normal (T (k + 1))) (h : RoundOk C f p B lv (T n) x ⟨tm', H'⟩) : LoopOk C f p B tm H x tm' H' := by
  obtain ⟨c, hc, r, hG, hr'⟩ := h
  intro d hd
  rw [hc] at hd
  cases hd
  have e : r = ⟨tm', H'⟩ := by
    cases x with
    | normal => exact (hx rfl).elim
    | exit i => exact hr'
    | ret => exact hr'
  subst e
  refine Good.loop hC hx lv n T h0 (fun k hk => ?_) hG
  obtain ⟨c', hc', r', hG', h'⟩ := hr k hk
  rw [hc] at hc'
  cases hc'
  exact ⟨r', hG', h'⟩

end Go.Vi
