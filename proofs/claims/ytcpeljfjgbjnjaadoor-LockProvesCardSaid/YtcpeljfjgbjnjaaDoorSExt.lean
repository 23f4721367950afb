/- Contracts of functions that the evaluator does not walk: without a body, or on the shelf. -/
import Derived.Test.YtcpeljfjgbjnjaaDoorVKit
import Derived.Test.YtcpeljfjgbjnjaaDoorShelf
namespace Go.Proofs.YtcpeljfjgbjnjaaDoor
open Go Go.Vi Go.RowKit
/-- A call of a function that has a body. -/
theorem invokes_calls {P : Program} {f : FuncId} {vs : Array Value} {w : World} {R : Value → World → Prop} (h1 : (callFunc f vs).run P w = .ok (.enter f vs) w) (h : Calls P f vs w fun e w' => ∃ v, e = .returned v ∧ R v w') : Invokes P f vs w R := by
  unfold Invokes
  rw [h1]
  exact h
theorem invokes_value {P : Program} {f : FuncId} {vs : Array Value} {w w' : World} {R : Value → World → Prop} {v : Value} (h1 : (callFunc f vs).run P w = .ok (.value v) w') (h : R v w') : Invokes P f vs w R := by
  unfold Invokes
  rw [h1]
  exact h
attribute [local irreducible] Invokes
/-- A contract on data out of one in the kit's words. -/
theorem pc_of {f : FuncId} {fn : Func} {args rs : List V} (hf : Tryd.prog.funcs[f]? = some fn) (hb : fn.body.isSome = true)
    (h : ∀ (S : Nat → Prop) (w : World) (vs : List Value), RepL (X0 S) w args (.vals vs) → Calls Tryd.prog f vs.toArray w fun e w' => ∃ v, e = .returned v ∧ Below w.heap.size w w' ∧ Rep (X0 S) w' (pack rs) (.val v)) : PCalls Cf f args rs :=
  by
  intro S w vs _ _ ha
  obtain ⟨c, hb⟩ := Option.isSome_iff_exists.1 hb
  exact @invokes_calls Tryd.prog f vs.toArray w _ (@run_callFunc Cf cf_ok f fn c hf hb vs.toArray w) (h S w vs ha)
theorem repeat_c (s : ByteArray) (c : Nat) (hc : c ≤ 9223372036854775807) (hlen : s.size * c ≤ 140737488355328) : PCalls Cf 206 [.str s, .int .i64 (c : Int)] [.str ⟨(Lib.repeatL s.data.toList c).toArray⟩] :=
  pc_of Tryd.func206 (by kernel_rfl) fun S w vs ha => by
    unfold RepL at ha
    obtain ⟨v1, vs1, rfl, h1, ha⟩ := ha
    unfold RepL at ha
    obtain ⟨v2, vs2, rfl, h2, ha⟩ := ha
    unfold RepL at ha
    subst ha
    have h1 := rep_str h1
    have h2 := rep_int h2
    subst h1 h2
    refine (Tryd.strings_Repeat s c w hc hlen).mono ?_
    rintro e w' ⟨rfl, hb⟩
    exact ⟨_, rfl, hb, by unfold pack Rep holds; rfl⟩
theorem noescape_c (H : List Ent) (id off : Nat) : GCalls Cf 173 [.ref id off] H [.ref id off] H := by
  intro X w vs O hX ha
  unfold RepL at ha
  obtain ⟨v1, vs1, rfl, h1, ha⟩ := ha
  unfold RepL at ha
  subst ha
  refine invokes_value (v := v1) (w' := w) ?_ ⟨X, hX, O, .refl _ _, h1⟩
  show (callFunc _ _).run Tryd.prog w = _
  rw [run_callFunc_extern Tryd.func173 (by kernel_rfl) (by kernel_rfl) (by kernel_rfl) (e := Extern.AbiNoEscape.same) (by kernel_rfl)]
  rfl
end Go.Proofs.YtcpeljfjgbjnjaaDoor
