/- From the rows' words to the evaluator's: the listed variable, the call's beginning. -/
import Derived.Test.YtcpeljfjgbjnjaaDoorVKit
import Derived.Test.YtcpeljfjgbjnjaaDoorRows
import Derived.ChangeSame
import Derived.ChangeVars
import Derived.ChangeMaps5
import Derived.JoinedOf
import Derived.RowKit
import Derived.RowKitTokens
import Derived.LaidLaws
import Derived.LaidHandle
import Derived.Lay
import Derived.LaidOnce
import Derived.LaidMore
import Derived.OpenShut
import Derived.Stop.Joined
import Derived.SevenTiedAt
set_option linter.unusedSimpArgs false
set_option linter.unusedVariables false
namespace Go.Proofs.YtcpeljfjgbjnjaaDoor
open Go Go.Vi Go.ChangeShapes Go.WideShapes Go.RowKit
def laidL : List (String × DataW Unit) := [("demurral/digest.keys", Rows.laid_demurral_digest_keys)]
theorem own_none : ownKnob Tryd.prog.godebug = none := by kernel_rfl
theorem laid_out : laidOutB Tryd.prog = true := by kernel_rfl
theorem repL_ints_at {X : Cx} {w : World} {k : IntKind} {b : Nat} : ∀ (l : List Int) (o : Nat), (∀ i n, l[i]? = some n → w.cell? ⟨b, o + i, none⟩ = some (.int k n)) → RepL X w (ints k l) (.at_ b o)
  | [], o, _ => by unfold ints RepL; trivial
  | n :: l, o, h => by
    show RepL X w (.int k n :: ints k l) (.at_ b o)
    unfold RepL
    refine ⟨?_, repL_ints_at l (o + 1) fun i m hi => ?_⟩
    · unfold Rep holds
      exact ⟨_, h 0 n rfl, rfl⟩
    · have := h (i + 1) m hi
      rw [show o + 1 + i = o + (i + 1) by omega]
      exact this
theorem keys_of_laid {W : World} (h : laidMetH Tryd.prog laidL W) : ∀ i n, keyNums[i]? = some n → W.cell? ⟨3, i, none⟩ = some (.int .u32 n) := by
  rw [MakeChecks.laidMetH_plain _ _ _ (by kernel_rfl)] at h
  obtain ⟨ps, ⟨g, t, cs, fuel, p, q, hg, ht, hv, hd, _, _⟩, _, _⟩ := h
  obtain rfl := Option.some.inj ((show Tryd.prog.globalNamed "demurral/digest.keys" = some 3 by kernel_rfl).symm.trans hg)
  obtain rfl := Option.some.inj ((show (Tryd.prog.globals[3]?).map (·.type) = some 297 by kernel_rfl).symm.trans ht)
  have c1 : Tryd.prog.cellsOf 166 = 1 := by kernel_rfl
  obtain ⟨xs, m, _, ex, hlen, hl, hel⟩ := DataW.trod_array Tryd.underlying297 hd
  intro i n hn
  have hi : i < 64 := (List.getElem?_eq_some_iff.1 hn).1
  have e3 : keyNums.map (fun n => (DataW.lit (.int .u32 n) : DataW Unit)) = xs.map (·.1) := by
    have := DataW.agg.inj (Prod.mk.inj ex).1
    exact this
  have k := hel i hi
  rw [c1, Nat.mul_one] at k
  have hx : xs[i]? = some (xs[i]'(by omega)) := List.getElem?_eq_getElem (by omega)
  rw [hx] at k
  obtain ⟨z, a1, a2, _⟩ := DataW.trod_int Tryd.underlying166 k
  have e4 : (keyNums.map (fun n => (DataW.lit (.int .u32 n) : DataW Unit)))[i]? = (xs.map (·.1))[i]? := by rw [e3]
  rw [List.getElem?_map, List.getElem?_map, hn, hx, a2] at e4
  simp only [Option.map_some, Option.some.injEq, DataW.lit.injEq, Lit.int.injEq, true_and] at e4
  subst e4
  rw [World.var?_cell hg hv i]
  have h0 : (cs.toList.drop i)[0]? = some (.int .u32 n) := by
    have : ((cs.toList.drop i).take 1)[0]? = some (Value.int .u32 n) := by rw [a1]; rfl
    simpa using this
  simpa using h0
def noPh : Nat → Prop := fun _ => False
theorem globs_of_laid {W : World} (h : laidMetH Tryd.prog laidL W) : Globs Cf (X0 noPh) W := by
  intro g l hg
  have hg : (bif Nat.beq g 3 then some keyCells else none) = some l := hg
  cases hb : Nat.beq g 3 with
  | false => rw [hb] at hg; cases hg
  | true =>
    rw [hb] at hg
    simp only [cond_true, Option.some.injEq] at hg
    subst hg
    obtain rfl := Nat.eq_of_beq_eq_true hb
    have hc := keys_of_laid h
    have hlt : 3 < W.heap.size := by
      apply Classical.byContradiction
      intro hn
      have := hc 0 1116352408 rfl
      unfold World.cell? at this
      rw [Array.getElem?_eq_none (by show W.heap.size ≤ 3; omega)] at this
      cases this
    refine ⟨⟨⟨hlt, ?_⟩, fun h => h⟩, fun x hx => ?_, ?_⟩
    · rintro ⟨id, ha, _⟩
      cases ha
    · obtain ⟨n, _, rfl⟩ := List.mem_map.1 hx
      rfl
    · exact repL_ints_at keyNums 0 fun i n hi => by rw [Nat.zero_add]; exact hc i n hi
theorem invokes_body {P : Program} {f : FuncId} {vs : Array Value} {w : World} {R : Value → World → Prop} (h1 : (callFunc f vs).run P w = .ok (.enter f vs) w) (h : Invokes P f vs w R) : Calls P f vs w fun e w' => ∃ v, e = .returned v ∧ R v w' := by
  unfold Invokes at h
  rw [h1] at h
  exact h
attribute [local irreducible] Invokes
/-- A call, from a contract on data. -/
theorem calls_of_pc {f : FuncId} {fn : Func} (hf : Tryd.prog.funcs[f]? = some fn) (hb : fn.body.isSome = true) {args rs : List V} (hc : PCalls Cf f args rs) {W : World} (hl : laidMetH Tryd.prog laidL W) {vs : List Value} (ha : RepL (X0 noPh) W args (.vals vs)) :
    Calls Tryd.prog f vs.toArray W fun e W' => ∃ v, e = .returned v ∧ (Below W.heap.size W W' ∧ Rep (X0 noPh) W' (pack rs) (.val v)) := by
  obtain ⟨c, hb⟩ := Option.isSome_iff_exists.1 hb
  exact @invokes_body Tryd.prog f vs.toArray W _ (@run_callFunc Cf cf_ok f fn c hf hb vs.toArray W) (hc noPh W vs (fun _ h => h.elim) (globs_of_laid hl) ha)
#print axioms calls_of_pc
end Go.Proofs.YtcpeljfjgbjnjaaDoor
