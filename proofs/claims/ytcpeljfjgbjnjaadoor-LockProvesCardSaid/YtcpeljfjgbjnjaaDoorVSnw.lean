/- Code and functions: the evaluator is sound. -/
import Derived.Test.YtcpeljfjgbjnjaaDoorVSnu
import Derived.LoopN
import Derived.Scope
namespace Go.Vi
open Go.RowKit

/-- What the evaluator must know of regions whose order is drawn. -/
def DrawSnd (C : Cfg) : Prop := ∀ (call : CallV), CallSnd C call → ∀ (id : Nat) (ops : Array Oper) (tm : List V) (H : List Ent) (ad : Ad) (tm' : List V) (H' : List Ent) (ad' : Ad) (q : Bool) (ps : List Prop), drawV C call ops tm H ad = some (tm', H', ad', q, ps) → q = true → allP ps →
  ∀ (X : Cx) (w : World) (a : Act), StOk C X w a ⟨tm, H⟩ → ∀ (Q : Exit → Act → World → Prop), (∀ X' w' a', StOk C X' w' a' ⟨tm', H'⟩ → Later X w X' w' → a'.defers = a.defers → Q .normal a' w') → (Code.region id ops true).wp C.P Q a w
theorem exit_then {x : Ex} (h : x ≠ .normal) (n : Act → World → Prop) (Q : Exit → Act → World → Prop) (a : Act) (w : World) : Exit.then n Q (exitOf x) a w = Q (exitOf x) a w := by
  cases x with
  | normal => exact (h rfl).elim
  | exit i => rfl
  | ret => rfl

/-! ### rules -/
section
variable {C : Cfg} {B : Nat}
theorem Good.seq {x y : Code} {s s1 s' : St} {e : Ex} (h1 : Good C B x s .normal s1) (h2 : Good C B y s1 e s') : Good C B (.seq x y) s e s' := by
  intro X w a S Q hQ
  refine wp_seq (h1 X w a S _ fun X1 w1 a1 S1 L1 d1 => ?_)
  exact h2 X1 w1 a1 S1 Q fun X2 w2 a2 S2 L2 d2 => hQ X2 w2 a2 S2 (L1.trans L2) (d2.trans d1)
theorem Good.seq_out {x y : Code} {s s' : St} {e : Ex} (he : e ≠ .normal) (h1 : Good C B x s e s') : Good C B (.seq x y) s e s' := by
  intro X w a S Q hQ
  refine wp_seq (h1 X w a S _ fun X1 w1 a1 S1 L1 d1 => ?_)
  rw [exit_then he]
  exact hQ X1 w1 a1 S1 L1 d1
theorem Good.cond {c : Operand} {x y : Code} {s s' : St} {e : Ex} {t : Bool} (hc : opd C s.tm c = .bool t) (h : Good C B (if t then x else y) s e s') : Good C B (.cond c x y) s e s' := by
  intro X w a S Q hQ
  obtain ⟨O, hX, ha⟩ := S
  have hv := opd_rep O.globs ha c
  rw [hc] at hv
  exact wp_cond (rep_bool hv) (h X w a ⟨O, hX, ha⟩ Q hQ)
theorem Good.block {id : Nat} {x : Code} {s s' : St} {e : Ex} (h : Good C B x s e s') : Good C B (.block id x) s (match e with | .exit i => if i = id then .normal else .exit i | e => e) s' := by
  intro X w a S Q hQ
  refine wp_block (h X w a S _ fun X1 w1 a1 S1 L1 d1 => ?_)
  have := hQ X1 w1 a1 S1 L1 d1
  cases e with
  | normal => exact this
  | ret => exact this
  | exit i =>
    show (if i = id then Q .normal a1 w1 else Q (.exit i) a1 w1)
    by_cases hi : i = id
    · rw [if_pos hi]
      simp only [if_pos hi] at this
      exact this
    · rw [if_neg hi]
      simp only [if_neg hi] at this
      exact this
theorem Good.scope {x : Code} {s s' : St} {e : Ex} (h : Good C B x s e s') : Good C B (.scope x) s e s' := by
  intro X w a S Q hQ
  refine wp_scope_straight (h X w a S _ fun X1 w1 a1 S1 L1 d1 => ?_)
  have := hQ X1 w1 a1 S1 L1 d1
  cases e <;> exact this
/-- A round begins with a tidied state. -/
theorem Good.tidied (hC : CfgOk C) {x : Code} {s s' : St} {e : Ex} (lv : List Nat) (h : Good C B x (tidy B lv s) e s') : Good C B x s e s' := by
  intro X w a S Q hQ
  obtain ⟨X1, S1, L1⟩ := tidy_sound hC S B lv
  exact h X1 w a S1 Q fun X2 w2 a2 S2 L2 d2 => hQ X2 w2 a2 S2 (L1.trans L2) d2
/-- n rounds of a loop, and the one that leaves it -/
theorem Good.rounds (hC : CfgOk C) {x : Code} {e : Ex} (he : e ≠ .normal) {s' : St} (lv : List Nat) : ∀ (n : Nat) (T : Nat → St), (∀ k, k < n → ∃ r, Good C B x (T k) .normal r ∧ tidy B lv r = T (k + 1)) → Good C B x (T n) e s' →
    ∀ X w a, StOk C X w a (T 0) → ∀ Q : Exit → Act → World → Prop, (∀ X' w' a', StOk C X' w' a' s' → Later (X.below B) w (X'.below B) w' → a'.defers = a.defers → Q (exitOf e) a' w') → Code.rounds C.P x Q (n + 1) a w
  | 0, T, _, h, X, w, a, S, Q, hQ => by
    rw [rounds_succ]
    refine h X w a S _ fun X1 w1 a1 S1 L1 d1 => ?_
    rw [exit_then he]
    exact hQ X1 w1 a1 S1 L1 d1
  | n + 1, T, hr, h, X, w, a, S, Q, hQ => by
    obtain ⟨r, h1, h2⟩ := hr 0 (Nat.succ_pos n)
    rw [rounds_succ]
    refine h1 X w a S _ fun X1 w1 a1 S1 L1 d1 => ?_
    obtain ⟨X2, S2, L2⟩ := tidy_sound hC S1 B lv
    rw [h2] at S2
    exact Good.rounds hC he lv n (fun k => T (k + 1)) (fun k hk => hr (k + 1) (by omega)) h X2 w1 a1 S2 Q fun X3 w3 a3 S3 L3 d3 => hQ X3 w3 a3 S3 (L1.trans (L2.trans L3)) (d3.trans d1)
theorem Good.loop (hC : CfgOk C) {x : Code} {e : Ex} (he : e ≠ .normal) {s s' : St} (lv : List Nat) (n : Nat) (T : Nat → St) (h0 : tidy B lv s = T 0) (hr : ∀ k, k < n → ∃ r, Good C B x (T k) .normal r ∧ tidy B lv r = T (k + 1)) (h : Good C B x (T n) e s') : Good C B (.loop x) s e s' := by
  intro X w a S Q hQ
  obtain ⟨X1, S1, L1⟩ := tidy_sound hC S B lv
  rw [h0] at S1
  exact wp_loop_rounds (n + 1) (Good.rounds hC he lv n T hr h X1 w a S1 Q fun X2 w2 a2 S2 L2 d2 => hQ X2 w2 a2 S2 (L1.trans L2) d2)
end

/-! ### the evaluator -/
theorem iterV_sound {C : Cfg} (hC : CfgOk C) {B : Nat} {x : Code} {lv : List Nat} {f : List V → List Ent → Ad → EvOut}
    (hf : ∀ tm H ad e tm' H' ad' q ps, f tm H ad = some (e, tm', H', ad', q, ps) → q = true → allP ps → Good C B x (tidy B lv ⟨tm, H⟩) e ⟨tm', H'⟩) :
    ∀ (n : Nat) (tm : List V) (H : List Ent) (ad : Ad) (e : Ex) (tm' : List V) (H' : List Ent) (ad' : Ad) (q : Bool) (ps : List Prop), iterV f n tm H ad = some (e, tm', H', ad', q, ps) → q = true → allP ps →
      e ≠ .normal ∧ ∀ X w a, StOk C X w a ⟨tm, H⟩ → ∀ Q : Exit → Act → World → Prop, (∀ X' w' a', StOk C X' w' a' ⟨tm', H'⟩ → Later (X.below B) w (X'.below B) w' → a'.defers = a.defers → Q (exitOf e) a' w') → Code.rounds C.P x Q n a w
  | 0, _, _, _, _, _, _, _, _, _, h, _, _ => by cases h
  | n + 1, tm, H, ad, e, tm', H', ad', q, ps, h, hq, hp => by
    simp only [iterV] at h
    cases hfe : f tm H ad with
    | none => rw [hfe] at h; cases h
    | some p =>
      obtain ⟨e1, tm1, H1, ad1, q1, ps1⟩ := p
      rw [hfe] at h
      cases e1 with
      | normal =>
        dsimp only at h
        cases hi : iterV f n tm1 H1 ad1 with
        | none => rw [hi] at h; cases h
        | some p =>
          obtain ⟨e2, tm2, H2, ad2, q2, ps2⟩ := p
          rw [hi] at h
          simp only [Option.some.injEq, Prod.mk.injEq] at h
          obtain ⟨rfl, rfl, rfl, rfl, rfl, rfl⟩ := h
          rw [Bool.and_eq_true] at hq
          obtain ⟨hp1, hp2⟩ := allP_append.1 hp
          have h1 := hf _ _ _ _ _ _ _ _ _ hfe hq.1 hp1
          obtain ⟨k1, k2⟩ := iterV_sound hC hf n _ _ _ _ _ _ _ _ _ hi hq.2 hp2
          refine ⟨k1, fun X w a S Q hQ => ?_⟩
          obtain ⟨X0, S0, L0⟩ := tidy_sound hC S B lv
          rw [rounds_succ]
          refine h1 X0 w a S0 _ fun X1 w1 a1 S1 L1 d1 => ?_
          exact k2 X1 w1 a1 S1 Q fun X2 w2 a2 S2 L2 d2 => hQ X2 w2 a2 S2 (L0.trans (L1.trans L2)) (d2.trans d1)
      | exit i =>
        simp only [Option.some.injEq, Prod.mk.injEq] at h
        obtain ⟨rfl, rfl, rfl, rfl, rfl, rfl⟩ := h
        have h1 := hf _ _ _ _ _ _ _ _ _ hfe hq hp
        refine ⟨by simp, fun X w a S Q hQ => ?_⟩
        obtain ⟨X0, S0, L0⟩ := tidy_sound hC S B lv
        rw [rounds_succ]
        refine h1 X0 w a S0 _ fun X1 w1 a1 S1 L1 d1 => ?_
        exact hQ X1 w1 a1 S1 (L0.trans L1) d1
      | ret =>
        simp only [Option.some.injEq, Prod.mk.injEq] at h
        obtain ⟨rfl, rfl, rfl, rfl, rfl, rfl⟩ := h
        have h1 := hf _ _ _ _ _ _ _ _ _ hfe hq hp
        refine ⟨by simp, fun X w a S Q hQ => ?_⟩
        obtain ⟨X0, S0, L0⟩ := tidy_sound hC S B lv
        rw [rounds_succ]
        refine h1 X0 w a S0 _ fun X1 w1 a1 S1 L1 d1 => ?_
        exact hQ X1 w1 a1 S1 (L0.trans L1) d1
theorem codeAt_child {root c x : Code} {p : List Nat} {d : Nat} (h : codeAt root p = some c) (hx : child c d = some x) : codeAt root (d :: p) = some x := by
  simp only [codeAt, h, hx]
theorem evV_sound {C : Cfg} (hC : CfgOk C) (hD : DrawSnd C) {call : CallV} (hcall : CallSnd C call) {E : Env} {root : Code} (hroot : bodyOf C.P E.f = some root) : ∀ (c : Code) (p : List Nat) (b : Nat) (tm : List V) (H : List Ent) (ad : Ad) (x : Ex) (tm' : List V) (H' : List Ent) (ad' : Ad) (q : Bool) (ps : List Prop),
    evV C call E c p b tm H ad = some (x, tm', H', ad', q, ps) → q = true → allP ps → codeAt root p = some c → Good C E.base c ⟨tm, H⟩ x ⟨tm', H'⟩
  | .skip, p, b, tm, H, ad, x, tm', H', ad', q, ps, h, _, _, _ => by
    simp only [evV, Option.some.injEq, Prod.mk.injEq] at h
    obtain ⟨rfl, rfl, rfl, rfl, rfl, rfl⟩ := h
    exact fun X w a S Q hQ => wp_skip (hQ X w a S (.refl _ w) rfl)
  | .label l, p, b, tm, H, ad, x, tm', H', ad', q, ps, h, _, _, _ => by
    simp only [evV, Option.some.injEq, Prod.mk.injEq] at h
    obtain ⟨rfl, rfl, rfl, rfl, rfl, rfl⟩ := h
    exact fun X w a S Q hQ => wp_label (hQ X w a S (.refl _ w) rfl)
  | .exit i, p, b, tm, H, ad, x, tm', H', ad', q, ps, h, _, _, _ => by
    simp only [evV, Option.some.injEq, Prod.mk.injEq] at h
    obtain ⟨rfl, rfl, rfl, rfl, rfl, rfl⟩ := h
    exact fun X w a S Q hQ => wp_exit (hQ X w a S (.refl _ w) rfl)
  | .ret, p, b, tm, H, ad, x, tm', H', ad', q, ps, h, _, _, _ => by
    simp only [evV, Option.some.injEq, Prod.mk.injEq] at h
    obtain ⟨rfl, rfl, rfl, rfl, rfl, rfl⟩ := h
    exact fun X w a S Q hQ => wp_ret (hQ X w a S (.refl _ w) rfl)
  | .region id ops dr, p, b, tm, H, ad, x, tm', H', ad', q, ps, h, hq, hp, _ => by
    simp only [evV] at h
    cases dr with
    | true =>
      simp only [if_true] at h
      cases hd : drawV C call ops tm H ad with
      | none => rw [hd] at h; cases h
      | some r =>
        obtain ⟨tm1, H1, ad1, q1, ps1⟩ := r
        rw [hd] at h
        simp only [Option.some.injEq, Prod.mk.injEq] at h
        obtain ⟨rfl, rfl, rfl, rfl, rfl, rfl⟩ := h
        exact fun X w a S Q hQ => hD call hcall id ops _ _ _ _ _ _ _ _ hd hq hp X w a S Q fun X' w' a' S' L' d' => hQ X' w' a' S' (later_to_below _ L') d'
    | false =>
      simp only [Bool.false_eq_true, if_false] at h
      cases hd : seqV C call ops ops.toList tm H ad with
      | none => rw [hd] at h; cases h
      | some r =>
        obtain ⟨tm1, H1, ad1, q1, ps1⟩ := r
        rw [hd] at h
        simp only [Option.some.injEq, Prod.mk.injEq] at h
        obtain ⟨rfl, rfl, rfl, rfl, rfl, rfl⟩ := h
        intro X w a S Q hQ
        refine wp_region ?_
        have := seqV_sound hC hcall (ops := ops) (Q := Q) ops.toList 0 _ _ _ _ _ _ _ _ rfl hd hq hp X w a S fun X' w' a' S' L' d' => hQ X' w' a' S' (later_to_below _ L') d'
        rw [Array.length_toList] at this
        rw [List.range_eq_range']
        exact this
  | .seq c d, p, b, tm, H, ad, x, tm', H', ad', q, ps, h, hq, hp, hc => by
    simp only [evV] at h
    have e0 := codeAt_child (d := 0) hc rfl
    have e1 := codeAt_child (d := 1) hc rfl
    cases h1 : evV C call E c (0 :: p) b tm H ad with
    | none => rw [h1] at h; cases h
    | some r =>
      obtain ⟨x1, tm1, H1, ad1, q1, ps1⟩ := r
      rw [h1] at h
      cases x1 with
      | normal =>
        dsimp only at h
        cases h2 : evV C call E d (1 :: p) b tm1 H1 ad1 with
        | none => rw [h2] at h; cases h
        | some r =>
          obtain ⟨x2, tm2, H2, ad2, q2, ps2⟩ := r
          rw [h2] at h
          simp only [Option.some.injEq, Prod.mk.injEq] at h
          obtain ⟨rfl, rfl, rfl, rfl, rfl, rfl⟩ := h
          rw [Bool.and_eq_true] at hq
          obtain ⟨hp1, hp2⟩ := allP_append.1 hp
          exact .seq (evV_sound hC hD hcall hroot c _ _ _ _ _ _ _ _ _ _ _ h1 hq.1 hp1 e0) (evV_sound hC hD hcall hroot d _ _ _ _ _ _ _ _ _ _ _ h2 hq.2 hp2 e1)
      | exit i =>
        simp only [Option.some.injEq, Prod.mk.injEq] at h
        obtain ⟨rfl, rfl, rfl, rfl, rfl, rfl⟩ := h
        exact .seq_out (by simp) (evV_sound hC hD hcall hroot c _ _ _ _ _ _ _ _ _ _ _ h1 hq hp e0)
      | ret =>
        simp only [Option.some.injEq, Prod.mk.injEq] at h
        obtain ⟨rfl, rfl, rfl, rfl, rfl, rfl⟩ := h
        exact .seq_out (by simp) (evV_sound hC hD hcall hroot c _ _ _ _ _ _ _ _ _ _ _ h1 hq hp e0)
  | .cond o c d, p, b, tm, H, ad, x, tm', H', ad', q, ps, h, hq, hp, hc => by
    simp only [evV] at h
    have e0 := codeAt_child (d := 0) hc rfl
    have e1 := codeAt_child (d := 1) hc rfl
    cases ho : opd C tm o <;> rw [ho] at h <;> first | (cases h; done) | skip
    rename_i t
    cases ad with
    | nil => cases h
    | cons y ad =>
      cases y <;> first | (cases h; done) | skip
      · dsimp only at h
        cases h1 : evV C call E c (0 :: p) b tm H ad with
        | none => rw [h1] at h; cases h
        | some r =>
          obtain ⟨x1, tm1, H1, ad1, q1, ps1⟩ := r
          rw [h1] at h
          simp only [Option.some.injEq, Prod.mk.injEq] at h
          obtain ⟨rfl, rfl, rfl, rfl, rfl, rfl⟩ := h
          rw [Bool.and_eq_true] at hq
          obtain ⟨rfl, hq⟩ := hq
          exact .cond ho (evV_sound hC hD hcall hroot c _ _ _ _ _ _ _ _ _ _ _ h1 hq hp e0)
      · dsimp only at h
        cases h1 : evV C call E d (1 :: p) b tm H ad with
        | none => rw [h1] at h; cases h
        | some r =>
          obtain ⟨x1, tm1, H1, ad1, q1, ps1⟩ := r
          rw [h1] at h
          simp only [Option.some.injEq, Prod.mk.injEq] at h
          obtain ⟨rfl, rfl, rfl, rfl, rfl, rfl⟩ := h
          rw [Bool.and_eq_true, Bool.not_eq_true'] at hq
          obtain ⟨rfl, hq⟩ := hq
          exact .cond ho (evV_sound hC hD hcall hroot d _ _ _ _ _ _ _ _ _ _ _ h1 hq hp e1)
  | .block id c, p, b, tm, H, ad, x, tm', H', ad', q, ps, h, hq, hp, hc => by
    simp only [evV] at h
    have e0 := codeAt_child (d := 0) hc rfl
    cases h1 : evV C call E c (0 :: p) id tm H ad with
    | none => rw [h1] at h; cases h
    | some r =>
      obtain ⟨x1, tm1, H1, ad1, q1, ps1⟩ := r
      rw [h1] at h
      cases x1 with
      | normal =>
        simp only [Option.some.injEq, Prod.mk.injEq] at h
        obtain ⟨rfl, rfl, rfl, rfl, rfl, rfl⟩ := h
        exact .block (e := .normal) (evV_sound hC hD hcall hroot c _ _ _ _ _ _ _ _ _ _ _ h1 hq hp e0)
      | ret =>
        simp only [Option.some.injEq, Prod.mk.injEq] at h
        obtain ⟨rfl, rfl, rfl, rfl, rfl, rfl⟩ := h
        exact .block (e := .ret) (evV_sound hC hD hcall hroot c _ _ _ _ _ _ _ _ _ _ _ h1 hq hp e0)
      | exit i =>
        dsimp only at h
        split at h
        · rename_i hi
          simp only [Option.some.injEq, Prod.mk.injEq] at h
          obtain ⟨rfl, rfl, rfl, rfl, rfl, rfl⟩ := h
          have := Good.block (id := id) (evV_sound hC hD hcall hroot c _ _ _ _ _ _ _ _ _ _ _ h1 hq hp e0)
          simp only [if_pos hi] at this
          exact this
        · rename_i hi
          simp only [Option.some.injEq, Prod.mk.injEq] at h
          obtain ⟨rfl, rfl, rfl, rfl, rfl, rfl⟩ := h
          have := Good.block (id := id) (evV_sound hC hD hcall hroot c _ _ _ _ _ _ _ _ _ _ _ h1 hq hp e0)
          simp only [if_neg hi] at this
          exact this
  | .loop c, p, b, tm, H, ad, x, tm', H', ad', q, ps, h, hq, hp, hc => by
    have e0 := codeAt_child (d := 0) hc rfl
    have main : iterV (fun tm H ad => evV C call E c (0 :: p) b (tidy E.base (E.live b) ⟨tm, H⟩).tm (tidy E.base (E.live b) ⟨tm, H⟩).hp ad) E.fuel tm H ad = some (x, tm', H', ad', q, ps) → Good C E.base (.loop c) ⟨tm, H⟩ x ⟨tm', H'⟩ := fun h => by
      obtain ⟨_, k2⟩ := iterV_sound hC (x := c) (lv := E.live b) (fun tm H ad e tm' H' ad' q ps h hq hp => evV_sound hC hD hcall hroot c _ _ _ _ _ _ _ _ _ _ _ h hq hp e0) E.fuel _ _ _ _ _ _ _ _ _ h hq hp
      exact fun X w a S Q hQ => wp_loop_rounds E.fuel (k2 X w a S Q hQ)
    simp only [evV] at h
    split at h
    · simp only [Option.some.injEq, Prod.mk.injEq] at h
      obtain ⟨rfl, rfl, rfl, rfl, rfl, rfl⟩ := h
      exact hp.1 _ (by rw [hroot]; exact hc)
    · exact main h
  | .scope c, p, b, tm, H, ad, x, tm', H', ad', q, ps, h, hq, hp, hc => by
    simp only [evV] at h
    have e0 := codeAt_child (d := 0) hc rfl
    exact .scope (evV_sound hC hD hcall hroot c _ _ _ _ _ _ _ _ _ _ _ h hq hp e0)
  | .rangeFunc _ _ _ _, _, _, _, _, _, _, _, _, _, _, _, h, _, _, _ => by cases h
  | .goto _, _, _, _, _, _, _, _, _, _, _, _, h, _, _, _ => by cases h
  | .refuse _, _, _, _, _, _, _, _, _, _, _, _, h, _, _, _ => by cases h

end Go.Vi
