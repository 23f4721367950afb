/- Slice expressions, on strings, slices, arrays. -/
import Derived.Test.YtcpeljfjgbjnjaaDoorVOpE
namespace Go.Vi
open Go.RowKit

section
variable {P : Program} {T : Ty} {X : Cx} {w : World}

def OptRep (X : Cx) (w : World) : Option V → Option Value → Prop
  | none, none => True
  | some x, some v => Rep X w x (.val v)
  | _, _ => False
theorem bound_spec {ov : Option V} {vv : Option Value} {d n : Nat} {q : Bool} (h : bound ov d = some (n, q)) (hq : q = true) (hr : OptRep X w ov vv) : (ov = none ∧ vv = none ∧ n = d) ∨ ∃ x k i, ov = some x ∧ vv = some (.int k i) ∧ 0 ≤ i ∧ n = i.toNat := by
  cases ov with
  | none =>
    cases vv with
    | some v => exact hr.elim
    | none =>
      simp only [bound, Option.some.injEq, Prod.mk.injEq] at h
      exact .inl ⟨rfl, rfl, h.1.symm⟩
  | some x =>
    cases vv with
    | none => exact hr.elim
    | some v =>
      cases x <;> first | (cases h; done) | skip
      rename_i k i
      simp only [bound, Option.some.injEq, Prod.mk.injEq] at h
      obtain ⟨rfl, rfl⟩ := h
      rw [decide_eq_true_eq] at hq
      have := rep_int (show Rep X w (.int k i) (.val v) from hr)
      subst this
      exact .inr ⟨_, k, i, rfl, rfl, hq, rfl⟩
theorem run_bnd {k : IntKind} {i : Int} {y : Nat} {code : BoundsCode} (h0 : 0 ≤ i) (h1 : i.toNat ≤ y) : (Instr.sliceBound (.int k i) y code).run P w = .ok i.toNat w := by
  unfold Instr.sliceBound
  simp only [asIntOf, Sem.run_bind, Sem.run_pure, Result.andThen_ok]
  rw [if_pos ⟨h0, by omega⟩]
  rfl
/-- low and high alone -/
theorem run_bounds2 {isS : Bool} {len cap : Nat} {lo hi : Option V} {vlo vhi : Option Value} {l h : Nat} {q q' : Bool} (hl : bound lo 0 = some (l, q)) (hh : bound hi len = some (h, q')) (h1 : q = true) (h2 : q' = true)
    (rl : OptRep X w lo vlo) (rh : OptRep X w hi vhi) (hle : l ≤ h) (hc : h ≤ cap) : (Instr.sliceBounds isS len cap vlo vhi none).run P w = .ok (l, h, cap) w := by
  unfold Instr.sliceBounds
  rcases bound_spec hh h2 rh with ⟨_, rfl, rfl⟩ | ⟨_, k, i, _, rfl, g0, rfl⟩ <;> rcases bound_spec hl h1 rl with ⟨_, rfl, rfl⟩ | ⟨_, k', i', _, rfl, g0', rfl⟩
  · simp only [Sem.run_bind, Sem.run_pure, Result.andThen_ok]
  · simp only [Sem.run_bind, Sem.run_pure, Result.andThen_ok]
    rw [run_bnd g0' hle]
    rfl
  · simp only [Sem.run_bind, Sem.run_pure, Result.andThen_ok]
    rw [run_bnd g0 hc]
    rfl
  · simp only [Sem.run_bind, Sem.run_pure, Result.andThen_ok]
    rw [run_bnd g0 hc]
    simp only [Result.andThen_ok]
    rw [run_bnd g0' hle]
    rfl
/-- low, high and max -/
theorem run_bounds3 {isS : Bool} {len cap : Nat} {lo : Option V} {vlo : Option Value} {k k2 : IntKind} {i i2 : Int} {l : Nat} {q : Bool} (hl : bound lo 0 = some (l, q)) (h1 : q = true)
    (rl : OptRep X w lo vlo) (g0 : 0 ≤ i) (g2 : 0 ≤ i2) (hle : l ≤ i.toNat) (hm : i.toNat ≤ i2.toNat) (hc : i2.toNat ≤ cap) : (Instr.sliceBounds isS len cap vlo (some (.int k i)) (some (.int k2 i2))).run P w = .ok (l, i.toNat, i2.toNat) w := by
  unfold Instr.sliceBounds
  simp only [Sem.run_bind]
  rw [run_bnd g2 hc]
  simp only [Result.andThen_ok]
  rw [run_bnd g0 hm]
  simp only [Result.andThen_ok]
  rcases bound_spec hl h1 rl with ⟨_, rfl, rfl⟩ | ⟨_, k', i', _, rfl, g0', rfl⟩
  · rfl
  · dsimp only [Option.isSome]
    rw [if_pos rfl, Sem.run_bind, run_bnd g0' hle]
    rfl

theorem und_str {t : TypeId} {i : TI} (F : TyFacts P t i) (hd : i.desc = .str) (w : World) : (underlying t).run P w = .ok .string w := by
  obtain ⟨d, h1, h2⟩ := run_und F w
  rw [hd] at h2
  cases d <;> first | (exfalso; simp [tdOk] at h2; done) | skip
  exact h1
/-- a part of a read-only slice -/
theorem rep_sub {sz : Nat} {xs : List V} {c : Bool} {a : Addr} {cap l h size : Nat} (hsz : size = sz) (h1 : xs.length ≤ cap) (h2 : c = true → cap = xs.length) (h3 : ∀ x, x ∈ xs → V.plain sz x = true)
    (h4 : xs = [] ∨ (a.spot = none ∧ Stable X w a.block ∧ RepL X w xs (.at_ a.block a.off))) (hl : l ≤ h) (hh : h ≤ xs.length) (m : Nat) (hm : h ≤ m) (clip : Bool) (hcl : clip = true → m = h) :
    Rep X w (.sl sz ((xs.drop l).take (h - l)) clip false) (.val (.slice (if m = l then some a else (some a).map (·.add (l * size))) (h - l) (m - l))) := by
  have hlen : ((xs.drop l).take (h - l)).length = h - l := by rw [List.length_take, List.length_drop]; omega
  unfold Rep holds
  simp only [Bool.false_eq_true, if_false]
  have hp : ∀ x, x ∈ (xs.drop l).take (h - l) → V.plain sz x = true := fun x hx => h3 x (List.mem_of_mem_drop (List.mem_of_mem_take hx))
  by_cases hml : m = l
  · refine ⟨a, m - l, ?_, by omega, fun _ => by rw [hlen]; omega, hp, .inl ?_⟩
    · rw [if_pos hml, hlen]
    · apply List.eq_nil_of_length_eq_zero; omega
  · refine ⟨a.add (l * size), m - l, ?_, by omega, fun hc => by have := hcl hc; rw [hlen]; omega, hp, ?_⟩
    · rw [if_neg hml, hlen]; rfl
    · rcases h4 with h4 | ⟨g1, g2, g3⟩
      · left
        subst h4
        simp
      · right
        obtain ⟨b, o, s⟩ := a
        simp only at g1
        subst g1
        rw [add_off]
        refine ⟨rfl, g2, ?_⟩
        subst hsz
        have e : xs = xs.take l ++ xs.drop l := (List.take_append_drop l xs).symm
        have g4 := g3
        rw [e] at g4
        have := (repL_append_at.1 g4).2
        rw [cellsLen_plain (fun x hx => h3 x (List.mem_of_mem_take hx)), List.length_take, Nat.min_eq_left (by omega)] at this
        exact repL_take_at _ this
theorem run_sliceSl {t e : TypeId} {i j : TI} (F : TyFacts P t i) (hd : i.desc = .slice e) (G : TyFacts P e j) {len cap : Nat} {A : Option Addr} {vlo vhi vmx : Option Value} {l hh m : Nat} (hrun : (Instr.sliceBounds true len cap vlo vhi vmx).run P w = .ok (l, hh, m) w) :
    (Instr.sliceAt t (.slice A len cap) vlo vhi vmx).run P w = .ok (.slice (if m = l then A else A.map (·.add (l * j.size))) (hh - l) (m - l)) w := by
  unfold Instr.sliceAt
  rw [Sem.run_bind, und_slice F hd]
  simp only [Result.andThen_ok]
  unfold Instr.slice
  rw [Sem.run_bind, und_slice F hd]
  simp only [Result.andThen_ok, Sem.run_bind, hrun, run_size G, Sem.run_pure]
theorem slice_sound (hT : TabOk P T) (E : Ents X w) {t : TypeId} {x : V} {lo hi mx : Option V} {va : Value} {vlo vhi vmx : Option Value} {r : Res} (h : sliceE T X.H t x lo hi mx = some r) (hr : r.req = true)
    (ha : Rep X w x (.val va)) (rl : OptRep X w lo vlo) (rh : OptRep X w hi vhi) (rm : OptRep X w mx vmx) :
    (r.up, r.dl) = (none, []) ∧ r.nw = none ∧ ∃ v, (Instr.sliceAt t va vlo vhi vmx).run P w = .ok v w ∧ Rep X w r.v (.val v) := by
  unfold sliceE at h
  cases hi1 : T t with
  | none => rw [hi1] at h; cases h
  | some i =>
    have F := hT.facts hi1
    rw [hi1] at h
    dsimp only at h
    cases hd : i.desc <;> rw [hd] at h <;> first | (cases x <;> cases h; done) | skip
    case str =>
      cases x <;> first | (cases h; done) | skip
      rename_i s
      dsimp only at h
      cases hb1 : bound lo 0 with
      | none => rw [hb1] at h; cases h
      | some p1 =>
        cases hb2 : bound hi s.size with
        | none => rw [hb1, hb2] at h; cases h
        | some p2 =>
          obtain ⟨l, q⟩ := p1
          obtain ⟨hh, q'⟩ := p2
          rw [hb1, hb2] at h
          dsimp only at h
          split at h
          case isFalse => cases h
          rename_i hmx
          simp only [Option.some.injEq] at h
          subst h
          simp only [Bool.and_eq_true, decide_eq_true_eq] at hr
          obtain ⟨⟨⟨g1, g2⟩, g3⟩, g4⟩ := hr
          have hv := rep_str ha
          subst hv
          have hm0 : vmx = none := by
            cases mx with
            | some x => cases hmx
            | none => cases vmx with
              | none => rfl
              | some v => exact rm.elim
          subst hm0
          refine ⟨rfl, rfl, .string (s.extract l hh), ?_, rep_str_mk⟩
          unfold Instr.sliceAt
          rw [Sem.run_bind, und_str F hd]
          simp only [Result.andThen_ok]
          unfold Instr.slice
          rw [Sem.run_bind, und_str F hd]
          simp only [Result.andThen_ok, Option.isSome]
          have := run_bounds2 (P := P) (X := X) (w := w) (isS := false) hb1 hb2 g1 g2 rl rh g3 g4
          simp only [Bool.false_eq_true, if_false, Sem.run_bind, Sem.run_pure, Result.andThen_ok, this]
    case slice e =>
      cases x <;> first | (cases h; done) | skip
      case sl sz xs c nl =>
        dsimp only at h
        cases h3 : T e with
        | none => rw [h3] at h; cases h
        | some j =>
          rw [h3] at h
          dsimp only at h
          split at h
          case isFalse => cases h
          rename_i hsz
          cases hb1 : bound lo 0 with
          | none => rw [hb1] at h; cases h
          | some p1 =>
            cases hb2 : bound hi xs.length with
            | none => rw [hb1, hb2] at h; cases h
            | some p2 =>
              cases hb3 : bound mx 0 with
              | none => rw [hb1, hb2, hb3] at h; cases h
              | some p3 =>
                obtain ⟨l, q⟩ := p1
                obtain ⟨hh, q'⟩ := p2
                obtain ⟨m, q''⟩ := p3
                rw [hb1, hb2, hb3] at h
                dsimp only at h
                have G := hT.facts h3
                have hmain : ∀ (len cap : Nat) (A : Option Addr), va = .slice A len cap → ∀ (l hh m : Nat), (Instr.sliceBounds true len cap vlo vhi vmx).run P w = .ok (l, hh, m) w →
                    (Instr.sliceAt t va vlo vhi vmx).run P w = .ok (.slice (if m = l then A else A.map (·.add (l * j.size))) (hh - l) (m - l)) w := by
                  rintro len cap A rfl l hh m hrun
                  exact run_sliceSl F hd G hrun
                cases mx with
                | none =>
                  have hm0 : vmx = none := by
                    cases vmx with
                    | none => rfl
                    | some v => exact rm.elim
                  subst hm0
                  simp only [Option.some.injEq] at h
                  subst h
                  simp only [Bool.and_eq_true, decide_eq_true_eq] at hr
                  obtain ⟨⟨⟨⟨g1, g2⟩, _⟩, g3⟩, g4⟩ := hr
                  refine ⟨rfl, rfl, ?_⟩
                  unfold Rep holds at ha
                  cases nl with
                  | true =>
                    simp only [if_true] at ha
                    obtain ⟨rfl, hv⟩ := ha
                    simp only [List.length_nil, Nat.le_zero] at g4
                    have hl0 : l = 0 := by omega
                    subst g4 hl0
                    refine ⟨_, hmain 0 0 none hv 0 0 0 (run_bounds2 (X := X) hb1 hb2 g1 g2 rl rh (Nat.le_refl 0) (Nat.le_refl 0)), ?_⟩
                    unfold Rep holds
                    exact ⟨rfl, rfl⟩
                  | false =>
                    simp only [Bool.false_eq_true, if_false] at ha
                    obtain ⟨a, cap, hv, k1, k2, k3, k4⟩ := ha
                    refine ⟨_, hmain xs.length cap (some a) hv l hh cap (run_bounds2 (X := X) hb1 hb2 g1 g2 rl rh g3 (by omega)), ?_⟩
                    exact rep_sub hsz k1 k2 k3 k4 g3 g4 cap (by omega) _ (fun hc => by
                      simp only [Bool.and_eq_true, decide_eq_true_eq] at hc
                      have := k2 hc.1
                      omega)
                | some mv =>
                  dsimp only at h
                  split at h
                  case isFalse => cases h
                  rename_i hhi
                  simp only [Option.some.injEq] at h
                  subst h
                  simp only [Bool.and_eq_true, decide_eq_true_eq] at hr
                  obtain ⟨⟨⟨⟨⟨g1, g2⟩, g5⟩, g3⟩, g4⟩, g6⟩ := hr
                  refine ⟨rfl, rfl, ?_⟩
                  rcases bound_spec hb2 g2 rh with ⟨rfl, _, _⟩ | ⟨_, k, i1, _, rfl, e0, rfl⟩
                  · cases hhi
                  rcases bound_spec hb3 g5 rm with ⟨e, _, _⟩ | ⟨_, k2, i2, _, rfl, e2, rfl⟩
                  · cases e
                  unfold Rep holds at ha
                  cases nl with
                  | true =>
                    simp only [if_true] at ha
                    obtain ⟨rfl, hv⟩ := ha
                    simp only [List.length_nil, Nat.le_zero] at g4
                    have hl0 : l = 0 := by omega
                    subst hl0
                    refine ⟨_, hmain 0 0 none hv 0 i1.toNat i2.toNat (run_bounds3 (X := X) hb1 g1 rl e0 e2 (by omega) (by omega) (by omega)), ?_⟩
                    unfold Rep holds
                    rw [g6, g4]
                    exact ⟨rfl, rfl⟩
                  | false =>
                    simp only [Bool.false_eq_true, if_false] at ha
                    obtain ⟨a, cap, hv, k1, k2', k3, k4⟩ := ha
                    refine ⟨_, hmain xs.length cap (some a) hv l i1.toNat i2.toNat (run_bounds3 (X := X) hb1 g1 rl e0 e2 g3 (by omega) (by omega)), ?_⟩
                    exact rep_sub hsz k1 k2' k3 k4 g3 g4 _ (by omega) _ (fun _ => g6)
      case own id a0 k c =>
        dsimp only at h
        cases h3 : T e with
        | none => rw [h3] at h; cases h
        | some j =>
          rw [h3] at h
          dsimp only at h
          split at h
          case isTrue => cases h
          rename_i hal
          have hal : X.alive id := by simpa [Cx.alive] using hal
          split at h
          case isFalse => cases h
          rename_i hsz
          cases hb1 : bound lo 0 with
          | none => rw [hb1] at h; cases h
          | some p1 =>
            cases hb2 : bound hi k with
            | none => rw [hb1, hb2] at h; cases h
            | some p2 =>
              cases hb3 : bound mx 0 with
              | none => rw [hb1, hb2, hb3] at h; cases h
              | some p3 =>
                obtain ⟨l, q⟩ := p1
                obtain ⟨hh, q'⟩ := p2
                obtain ⟨m, q''⟩ := p3
                rw [hb1, hb2, hb3] at h
                dsimp only at h
                have G := hT.facts h3
                unfold Rep holds at ha
                obtain ⟨hok, _, hv⟩ := ha
                obtain ⟨A, cap, rfl, hA, hkc, hcl, hsp⟩ := hv hal
                have hsub : ∀ (l hh m : Nat) (cl : Bool), l ≤ hh → hh ≤ m → m ≤ cap → (cl = true → m = hh) → Rep X w (.own id (a0 + l) (hh - l) cl) (.val (.slice (if m = l then some A else (some A).map (·.add (l * j.size))) (hh - l) (m - l))) := by
                  intro l hh m cl h1 h2 h3 h4
                  have hle : (a0 + l + (m - l)) * (look X.H id).sz ≤ World.cellsIn w (X.ι id) := Nat.le_trans (Nat.mul_le_mul_right _ (by omega)) hsp
                  unfold Rep holds
                  refine ⟨hok, rfl, fun _ => ?_⟩
                  by_cases hml : m = l
                  · rw [if_pos hml]
                    exact ⟨A, m - l, rfl, .inl (by omega), by omega, fun hc => by have := h4 hc; omega, hle⟩
                  · rw [if_neg hml]
                    refine ⟨A.add (l * j.size), m - l, rfl, .inr ?_, by omega, fun hc => by have := h4 hc; omega, hle⟩
                    rcases hA with hA | rfl
                    · omega
                    · rw [add_off, hsz, ← Nat.add_mul]
                cases mx with
                | none =>
                  have hm0 : vmx = none := by
                    cases vmx with
                    | none => rfl
                    | some v => exact rm.elim
                  subst hm0
                  simp only [Option.some.injEq] at h
                  subst h
                  simp only [Bool.and_eq_true, decide_eq_true_eq] at hr
                  obtain ⟨⟨⟨⟨g1, g2⟩, _⟩, g3⟩, g4⟩ := hr
                  refine ⟨rfl, rfl, _, run_sliceSl F hd G (run_bounds2 (X := X) hb1 hb2 g1 g2 rl rh g3 (by omega)), hsub l hh cap _ g3 (by omega) (Nat.le_refl _) (fun hc => ?_)⟩
                  simp only [Bool.and_eq_true, decide_eq_true_eq] at hc
                  have := hcl hc.1
                  omega
                | some mv =>
                  dsimp only at h
                  split at h
                  case isFalse => cases h
                  rename_i hhi
                  simp only [Option.some.injEq] at h
                  subst h
                  simp only [Bool.and_eq_true, decide_eq_true_eq] at hr
                  obtain ⟨⟨⟨⟨⟨g1, g2⟩, g5⟩, g3⟩, g4⟩, g6⟩ := hr
                  rcases bound_spec hb2 g2 rh with ⟨rfl, _, _⟩ | ⟨_, k1, i1, _, rfl, e0, rfl⟩
                  · cases hhi
                  rcases bound_spec hb3 g5 rm with ⟨e, _, _⟩ | ⟨_, k2, i2, _, rfl, e2, rfl⟩
                  · cases e
                  exact ⟨rfl, rfl, _, run_sliceSl F hd G (run_bounds3 (X := X) hb1 g1 rl e0 e2 g3 (by omega) (by omega)), hsub l i1.toNat i2.toNat _ g3 (by omega) (by omega) (fun _ => g6)⟩
    case array n e =>
      cases x <;> first | (cases h; done) | skip
      rename_i id off
      cases off with
      | succ o => cases h
      | zero =>
        change (match look X.H id with
          | .box l bt => match T e, bound lo 0, bound hi n with
            | some j, some (a, r), some (h, r') => if j.size = 1 && n = l.length && mx.isNone then some ({ v := .own id a (h - a) (decide (h = n)), req := r && r' && decide (a ≤ h) && decide (h ≤ n) } : Res) else none
            | _, _, _ => none
          | _ => none) = some r at h
        cases hE : look X.H id with
        | dead => rw [hE] at h; cases h
        | arr sz xs low => rw [hE] at h; cases h
        | box bl bt =>
          rw [hE] at h
          cases h3 : T e with
          | none => rw [h3] at h; cases h
          | some j =>
            cases hb1 : bound lo 0 with
            | none => rw [h3, hb1] at h; cases h
            | some p1 =>
              cases hb2 : bound hi n with
              | none => rw [h3, hb1, hb2] at h; cases h
              | some p2 =>
                obtain ⟨l, q⟩ := p1
                obtain ⟨hh, q'⟩ := p2
                rw [h3, hb1, hb2] at h
                dsimp only at h
                split at h
                case isFalse => cases h
                rename_i hc
                simp only [Bool.and_eq_true, decide_eq_true_eq, Option.isNone_iff_eq_none] at hc
                obtain ⟨⟨hj, hn⟩, rfl⟩ := hc
                have G := hT.facts h3
                simp only [Option.some.injEq] at h
                subst h
                simp only [Bool.and_eq_true, decide_eq_true_eq] at hr
                obtain ⟨⟨⟨g1, g2⟩, g3⟩, g4⟩ := hr
                have hal : X.alive id := by unfold Cx.alive; rw [hE]; rfl
                have hm0 : vmx = none := by
                  cases vmx with
                  | none => rfl
                  | some v => exact rm.elim
                subst hm0
                have hv := rep_ref hal ha
                subst hv
                have hb := run_bounds2 (P := P) (X := X) (w := w) (isS := false) hb1 hb2 g1 g2 rl rh g3 g4
                refine ⟨rfl, rfl, .slice (some (if n = l then ⟨X.ι id, 0, none⟩ else (⟨X.ι id, 0, none⟩ : Addr).add (l * j.size))) (hh - l) (n - l), ?_, ?_⟩
                · unfold Instr.sliceAt
                  rw [Sem.run_bind, und_array F hd]
                  simp only [Result.andThen_ok, Instr.sureAddr, Sem.run_bind, Sem.run_pure, hb, run_size G]
                · have hcell : World.cellsIn w (X.ι id) = bl.length := by
                    have := E.en id
                    rw [hE] at this
                    obtain ⟨c, f, k1, k2, _⟩ := this
                    rw [cellsIn_of k1, k2]
                  unfold Rep holds
                  refine ⟨E.ok id hal, rfl, fun _ => ⟨_, n - l, rfl, ?_, by omega, fun hc => ?_, ?_⟩⟩
                  · by_cases hml : n = l
                    · left; omega
                    · right
                      rw [if_neg hml, add_off, hj, hE]
                      simp [Ent.sz]
                  · simp only [decide_eq_true_eq] at hc
                    omega
                  · rw [hcell, hE]
                    simp only [Ent.sz, Nat.mul_one]
                    omega
end

end Go.Vi
